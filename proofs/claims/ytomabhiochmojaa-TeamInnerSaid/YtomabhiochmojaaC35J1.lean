/- A part of the proof that the text with the row names: printed readings of functions, or plain lemmas about them. -/
import Derived.Test.YtomabhiochmojaaC35M6
set_option linter.unusedVariables false
set_option linter.unusedSimpArgs false
namespace Go.Abs
open Go
abbrev ScT := (List JT × List MT) × (List ShT × List SkT)
abbrev Sc0 : ScT := ((([] : List JT), ([] : List MT)), (([] : List ShT), ([] : List SkT)))
abbrev OutT := List JT × (List MT × (List ShT × List SkT))
def renV (k n : Int) : Int := bif k == -1 then k else IntKind.wrap .i64 (k + n)
def plusV (v b : PT) : PT := (IntKind.wrap .i64 (v.1 + b.1), (IntKind.wrap .i64 (v.2.1 + b.2.1), IntKind.wrap .i64 (v.2.2 + b.2.2)))
def jJ (c : ByteArray) (n : Int) (b : PT) (j : JT) : JT := (c ++ j.1, (j.2.1, (renV j.2.2.1 n, (bif j.2.2.1 == -1 then plusV j.2.2.2.1 b else j.2.2.2.1, j.2.2.2.2))))
def mJ (n : Int) (m : MT) : MT := (renV m.1 n, m.2)
def sJ (n : Int) (b : PT) (x : ShT) : ShT := (renV x.1 n, (x.2.1, bif x.1 == -1 then x.2.2.map (plusV · b) else x.2.2))
def kJ (n : Int) (k : SkT) : SkT := (renV k.1 n, renV k.2 n)
def addV (o : OutT) (s : ScT) (b : PT) (c : ByteArray) : OutT :=
  (o.1 ++ s.1.1.map (jJ c o.1.length b), (o.2.1 ++ s.1.2.map (mJ o.1.length), (o.2.2.1 ++ s.2.1.map (sJ o.1.length b), o.2.2.2 ++ s.2.2.map (kJ o.1.length))))
theorem take_next {α β : Type} {l : List α} {d : α} {i : Nat} (f : α → β) (h : i < l.length) : (l.take (i + 1)).map f = (l.take i).map f ++ [f (l.getD i d)] := by
  rw [List.take_add_one, List.getElem?_eq_getElem h, List.map_append, List.getD_eq_getElem?_getD, List.getElem?_eq_getElem h]
  rfl
theorem renumber_val (k n : Int) : team_renumber.F k n = some (renV k n) := by
  rw [team_renumber.F_eq]
  unfold team_renumber.F0 renV
  cases (k == -1) <;> rfl
theorem raised_val (k n : Int) : r32_raised.F k n = some (renV k n) := by
  rw [r32_raised.F_eq]
  unfold r32_raised.F0 renV
  cases (k == -1) <;> rfl
theorem plus_val (x y z bx by' bz : Int) : team_plus.F x y z bx by' bz = some (plusV (x, (y, z)) (bx, (by', bz))) := by
  rw [team_plus.F_eq]
  unfold team_plus.F0
  have s0 : team_plus.p0.step (0, x, y, z, bx, by', bz, 0, 0, 0) = some (.inl (1, IntKind.wrap .i64 (x + bx), y, z, bx, by', bz, 0, 0, 0)) := by
    unfold team_plus.p0.step team_plus.p0.round
    simp only []
    simp (disch := omega) only [dif_dec, dif_ndec, bif_eq, bif_neq, bif_ne, bif_nne, w64, wu64, Int.toNat_natCast, Option.bind_some, cond_true, cond_false, Bool.not_true, Bool.not_false, Sum.elim_inl, Sum.elim_inr]
    rfl
  have s1 : team_plus.p0.step (1, IntKind.wrap .i64 (x + bx), y, z, bx, by', bz, 0, 0, 0) = some (.inl (2, IntKind.wrap .i64 (x + bx), IntKind.wrap .i64 (y + by'), z, bx, by', bz, 0, 0, 0)) := by
    unfold team_plus.p0.step team_plus.p0.round
    simp only []
    simp (disch := omega) only [dif_dec, dif_ndec, bif_eq, bif_neq, bif_ne, bif_nne, w64, wu64, Int.toNat_natCast, Option.bind_some, cond_true, cond_false, Bool.not_true, Bool.not_false, Sum.elim_inl, Sum.elim_inr]
    rfl
  have s2 : team_plus.p0.step (2, IntKind.wrap .i64 (x + bx), IntKind.wrap .i64 (y + by'), z, bx, by', bz, 0, 0, 0) = some (.inl (3, IntKind.wrap .i64 (x + bx), IntKind.wrap .i64 (y + by'), IntKind.wrap .i64 (z + bz), bx, by', bz, 0, 0, 0)) := by
    unfold team_plus.p0.step team_plus.p0.round
    simp only []
    simp (disch := omega) only [dif_dec, dif_ndec, bif_eq, bif_neq, bif_ne, bif_nne, w64, wu64, Int.toNat_natCast, Option.bind_some, cond_true, cond_false, Bool.not_true, Bool.not_false, Sum.elim_inl, Sum.elim_inr]
    rfl
  have s3 : team_plus.p0.step (3, IntKind.wrap .i64 (x + bx), IntKind.wrap .i64 (y + by'), IntKind.wrap .i64 (z + bz), bx, by', bz, 0, 0, 0) = some (.inr (IntKind.wrap .i64 (x + bx), IntKind.wrap .i64 (y + by'), IntKind.wrap .i64 (z + bz), 0, 0, 0)) := by
    unfold team_plus.p0.step team_plus.p0.round
    simp only []
    simp (disch := omega) only [dif_dec, dif_ndec, bif_eq, bif_neq, bif_ne, bif_nne, w64, wu64, Int.toNat_natCast, Option.bind_some, cond_true, cond_false, Bool.not_true, Bool.not_false, Sum.elim_inl, Sum.elim_inr]
  rw [loop_next s0 (loop_next s1 (loop_next s2 (loop_end s3)))]
  rfl
structure SmallS (q : ScT) : Prop where
  j : q.1.1.length ≤ 10
  jn : ∀ j ∈ q.1.1, j.1.size ≤ 16
  m : q.1.2.length ≤ 32
  s : q.2.1.length ≤ 24
  sp : ∀ x ∈ q.2.1, 1 ≤ x.2.2.length ∧ x.2.2.length ≤ 8
  k : q.2.2.length ≤ 64
  mm : ∀ m ∈ q.1.2, m.1 ≠ -1
  pr : ∀ x ∈ q.2.1, ∀ v ∈ x.2.2, plusV v (0, (0, 0)) = v
structure SmallO (q : OutT) : Prop where
  j : q.1.length ≤ 1000
  m : q.2.1.length ≤ 1000
  s : q.2.2.1.length ≤ 1000
  k : q.2.2.2.length ≤ 1000
theorem getD_mem {α : Type} {l : List α} {d : α} {i : Nat} (h : i < l.length) : l.getD i d ∈ l := by
  rw [List.getD_eq_getElem?_getD, List.getElem?_eq_getElem h]
  exact List.getElem_mem _
theorem mem_getD {α : Type} {l : List α} {d x : α} (h : x ∈ l) : ∃ i, i < l.length ∧ l.getD i d = x := by
  obtain ⟨i, hi, e⟩ := List.getElem_of_mem h
  exact ⟨i, hi, by rw [List.getD_eq_getElem?_getD, List.getElem?_eq_getElem hi, e]; rfl⟩
theorem add_pts {n a2 a3 link rad : Int} {b : PT} {js : List JT} {ms : List MT} {sh v8 : List ShT} {sk : List SkT} {o1 : List JT} {o2 : List MT} {o3 : List ShT} {o4 : List SkT} {pts : List PT} (hp : pts.length ≤ 8) :
    loopF team_add.p3.step (n, sh, a2, a3, (pts.length : Int), 0, js, ms, v8, sk, b.1, b.2.1, b.2.2, link, rad, o1, o2, o3, o4, pts) = some (n, sh, a2, a3, js, ms, v8, sk, b.1, b.2.1, b.2.2, link, rad, o1, o2, o3, o4, bif link == -1 then pts.map (plusV · b) else pts) := by
  by_cases hk : link = -1
  · have hb : (link == -1) = true := by simpa using hk
    have := loop_count (step := team_add.p3.step) (fun i : Nat => (n, sh, a2, a3, (pts.length : Int), (i : Int), js, ms, v8, sk, b.1, b.2.1, b.2.2, link, rad, o1, o2, o3, o4, upto (fun _ v => plusV v b) P0 pts i)) pts.length (n, sh, a2, a3, js, ms, v8, sk, b.1, b.2.1, b.2.2, link, rad, o1, o2, o3, o4, upto (fun _ v => plusV v b) P0 pts pts.length) (by
      intro i hi
      have hl := upto_length (g := fun _ v => plusV v b) (d := P0) (l := pts) (Nat.le_of_lt hi)
      unfold team_add.p3.step team_add.p3.round
      simp only [hl, plus_val]
      simp (disch := omega) only [dif_dec, dif_ndec, bif_eq, bif_neq, bif_ne, bif_nne, w64, wu64, Int.toNat_natCast, Option.bind_some, cond_true, cond_false, Bool.not_true, Bool.not_false, Sum.elim_inl, Sum.elim_inr]
      have e := upto_at (g := fun _ v => plusV v b) (d := P0) (l := pts) hi
      have e' := upto_set (g := fun _ v => plusV v b) (d := P0) (l := pts) hi
      rw [← e', e]
      rfl) (by
      unfold team_add.p3.step team_add.p3.round
      simp only []
      simp (disch := omega) only [dif_dec, dif_ndec, bif_eq, bif_neq, bif_ne, bif_nne, w64, wu64, Int.toNat_natCast, Option.bind_some, cond_true, cond_false, Bool.not_true, Bool.not_false, Sum.elim_inl, Sum.elim_inr]) pts.length 0 (by omega)
    rw [show ((0 : Nat) : Int) = 0 from rfl, upto_zero] at this
    rw [this, hb, cond_true]
    have : upto (fun _ v => plusV v b) P0 pts pts.length = pts.map (plusV · b) := by
      refine List.ext_getElem (by rw [upto_length (Nat.le_refl _), List.length_map]) fun i h1 h2 => ?_
      rw [List.length_map] at h2
      have := upto_get (g := fun _ v => plusV v b) (d := P0) (l := pts) h2
      rw [List.getD_eq_getElem?_getD, List.getElem?_eq_getElem h1, List.getD_eq_getElem?_getD, List.getElem?_eq_getElem h2] at this
      rw [List.getElem_map]
      exact this
    rw [this]
  · have hb : (link == -1) = false := by simpa using hk
    have := loop_count (step := team_add.p3.step) (fun i : Nat => (n, sh, a2, a3, (pts.length : Int), (i : Int), js, ms, v8, sk, b.1, b.2.1, b.2.2, link, rad, o1, o2, o3, o4, pts)) pts.length (n, sh, a2, a3, js, ms, v8, sk, b.1, b.2.1, b.2.2, link, rad, o1, o2, o3, o4, pts) (by
      intro i hi
      unfold team_add.p3.step team_add.p3.round
      simp only []
      simp (disch := omega) only [dif_dec, dif_ndec, bif_eq, bif_neq, bif_ne, bif_nne, w64, wu64, Int.toNat_natCast, Option.bind_some, cond_true, cond_false, Bool.not_true, Bool.not_false, Sum.elim_inl, Sum.elim_inr]
      rfl) (by
      unfold team_add.p3.step team_add.p3.round
      simp only []
      simp (disch := omega) only [dif_dec, dif_ndec, bif_eq, bif_neq, bif_ne, bif_nne, w64, wu64, Int.toNat_natCast, Option.bind_some, cond_true, cond_false, Bool.not_true, Bool.not_false, Sum.elim_inl, Sum.elim_inr]) pts.length 0 (by omega)
    rw [show ((0 : Nat) : Int) = 0 from rfl] at this
    rw [this, hb, cond_false]
theorem cloneVec_val {l : List PT} (h : 1 ≤ l.length) (hl : l.length ≤ 8) : slices_Clone_Vec.F l = some l := by
  rw [slices_Clone_Vec.F_eq]
  unfold slices_Clone_Vec.F0
  rw [dif_dec (by omega), dif_dec (by simp; omega), List.nil_append]
theorem cat_small {x y : ByteArray} (hx : x.size ≤ 100) (hy : y.size ≤ 2 ^ 60) : catOk x y = true := by
  unfold catOk
  exact decide_eq_true (by omega)
theorem add_val {o : OutT} {s : ScT} (b : PT) (ch : Int) (ho : SmallO o) (hs : SmallS s) : team_add.F s.1.1 s.1.2 s.2.1 s.2.2 b.1 b.2.1 b.2.2 ch o.1 o.2.1 o.2.2.1 o.2.2.2 = some (addV o s b (bytesS [ch])) := by
  obtain ⟨oj, om, os, ok⟩ := ho
  obtain ⟨sj, sjn, sm, ss, ssp, sk, _, _⟩ := hs
  have hch : (bytesS [ch]).size ≤ 100 := by
    show (1 : Nat) ≤ 100
    omega
  rw [team_add.F_eq]
  unfold team_add.F0
  have l0 := loop_count (step := team_add.p0.step) (fun i : Nat => (ch, (o.1.length : Int), s.1.1, (s.1.1.length : Int), (i : Int), s.1.1, s.1.2, s.2.1, s.2.2, b.1, b.2.1, b.2.2, o.1 ++ (s.1.1.take i).map (jJ (bytesS [ch]) o.1.length b), o.2.1, o.2.2.1, o.2.2.2)) s.1.1.length ((o.1.length : Int), s.1.1, s.1.2, s.2.1, s.2.2, b.1, b.2.1, b.2.2, o.1 ++ s.1.1.map (jJ (bytesS [ch]) o.1.length b), o.2.1, o.2.2.1, o.2.2.2) (by
    intro i hi
    have hn := sjn _ (getD_mem (d := J0) hi)
    have hc := cat_small hch (show (s.1.1.getD i J0).1.size ≤ 2 ^ 60 by omega)
    have hlen : (o.1 ++ (s.1.1.take i).map (jJ (bytesS [ch]) o.1.length b)).length ≤ 2000 := by
      rw [List.length_append, List.length_map, List.length_take]; omega
    rw [take_next (d := J0) _ hi, ← List.append_assoc]
    unfold team_add.p0.step team_add.p0.round
    simp only [List.length_cons, List.length_nil, renumber_val, plus_val]
    generalize o.1 ++ (s.1.1.take i).map (jJ (bytesS [ch]) o.1.length b) = O at *
    simp (disch := omega) only [dif_dec, dif_ndec, bif_eq, bif_neq, bif_ne, bif_nne, w64, wu64, Int.toNat_natCast, Option.bind_some, cond_true, cond_false, Bool.not_true, Bool.not_false, Sum.elim_inl, Sum.elim_inr, hc]
    by_cases hp : (s.1.1.getD i J0).2.2.1 = -1
    · rw [bif_eq hp]
      unfold jJ
      rw [bif_eq hp]
      rfl
    · rw [bif_neq hp]
      unfold jJ
      rw [bif_neq hp]
      rfl) (by
    unfold team_add.p0.step team_add.p0.round
    simp only [List.take_length]
    simp (disch := omega) only [dif_dec, dif_ndec, bif_eq, bif_neq, bif_ne, bif_nne, w64, wu64, Int.toNat_natCast, Option.bind_some, cond_true, cond_false, Bool.not_true, Bool.not_false, Sum.elim_inl, Sum.elim_inr]) s.1.1.length 0 (by omega)
  have l1 := loop_count (step := team_add.p1.step) (fun i : Nat => ((o.1.length : Int), s.1.2, (s.1.2.length : Int), (i : Int), s.1.1, s.1.2, s.2.1, s.2.2, b.1, b.2.1, b.2.2, o.1 ++ s.1.1.map (jJ (bytesS [ch]) o.1.length b), o.2.1 ++ (s.1.2.take i).map (mJ o.1.length), o.2.2.1, o.2.2.2)) s.1.2.length ((o.1.length : Int), s.1.1, s.1.2, s.2.1, s.2.2, b.1, b.2.1, b.2.2, o.1 ++ s.1.1.map (jJ (bytesS [ch]) o.1.length b), o.2.1 ++ s.1.2.map (mJ o.1.length), o.2.2.1, o.2.2.2) (by
    intro i hi
    have hlen : (o.2.1 ++ (s.1.2.take i).map (mJ o.1.length)).length ≤ 2000 := by
      rw [List.length_append, List.length_map, List.length_take]; omega
    rw [take_next (d := M0) _ hi, ← List.append_assoc]
    unfold team_add.p1.step team_add.p1.round
    simp only [List.length_cons, List.length_nil, renumber_val]
    generalize o.2.1 ++ (s.1.2.take i).map (mJ o.1.length) = O at *
    simp (disch := omega) only [dif_dec, dif_ndec, bif_eq, bif_neq, bif_ne, bif_nne, w64, wu64, Int.toNat_natCast, Option.bind_some, cond_true, cond_false, Bool.not_true, Bool.not_false, Sum.elim_inl, Sum.elim_inr]
    rfl) (by
    unfold team_add.p1.step team_add.p1.round
    simp only [List.take_length]
    simp (disch := omega) only [dif_dec, dif_ndec, bif_eq, bif_neq, bif_ne, bif_nne, w64, wu64, Int.toNat_natCast, Option.bind_some, cond_true, cond_false, Bool.not_true, Bool.not_false, Sum.elim_inl, Sum.elim_inr]) s.1.2.length 0 (by omega)
  have l2 := loop_count (step := team_add.p2.step) (fun i : Nat => ((o.1.length : Int), s.2.1, (s.2.1.length : Int), (i : Int), s.1.1, s.1.2, s.2.1, s.2.2, b.1, b.2.1, b.2.2, o.1 ++ s.1.1.map (jJ (bytesS [ch]) o.1.length b), o.2.1 ++ s.1.2.map (mJ o.1.length), o.2.2.1 ++ (s.2.1.take i).map (sJ o.1.length b), o.2.2.2)) s.2.1.length ((o.1.length : Int), s.1.1, s.1.2, s.2.1, s.2.2, o.1 ++ s.1.1.map (jJ (bytesS [ch]) o.1.length b), o.2.1 ++ s.1.2.map (mJ o.1.length), o.2.2.1 ++ s.2.1.map (sJ o.1.length b), o.2.2.2) (by
    intro i hi
    obtain ⟨p1, p8⟩ := ssp _ (getD_mem (d := Sh0) hi)
    have hlen : (o.2.2.1 ++ (s.2.1.take i).map (sJ o.1.length b)).length ≤ 2000 := by
      rw [List.length_append, List.length_map, List.length_take]; omega
    rw [take_next (d := Sh0) _ hi, ← List.append_assoc]
    unfold team_add.p2.step team_add.p2.round
    simp only [List.length_cons, List.length_nil, renumber_val]
    generalize o.2.2.1 ++ (s.2.1.take i).map (sJ o.1.length b) = O at *
    simp (disch := omega) only [dif_dec, dif_ndec, bif_eq, bif_neq, bif_ne, bif_nne, w64, wu64, Int.toNat_natCast, Option.bind_some, cond_true, cond_false, Bool.not_true, Bool.not_false, Sum.elim_inl, Sum.elim_inr]
    rw [cloneVec_val p1 p8, Option.bind_some, add_pts p8, Option.bind_some]
    simp only [Option.bind_some]
    rw [dif_dec (by omega), w64 (by omega) (by omega)]
    rfl) (by
    unfold team_add.p2.step team_add.p2.round
    simp only [List.take_length]
    simp (disch := omega) only [dif_dec, dif_ndec, bif_eq, bif_neq, bif_ne, bif_nne, w64, wu64, Int.toNat_natCast, Option.bind_some, cond_true, cond_false, Bool.not_true, Bool.not_false, Sum.elim_inl, Sum.elim_inr]) s.2.1.length 0 (by omega)
  have l4 := loop_count (step := team_add.p4.step) (fun i : Nat => ((o.1.length : Int), s.2.2, (s.2.2.length : Int), (i : Int), o.1 ++ s.1.1.map (jJ (bytesS [ch]) o.1.length b), o.2.1 ++ s.1.2.map (mJ o.1.length), o.2.2.1 ++ s.2.1.map (sJ o.1.length b), o.2.2.2 ++ (s.2.2.take i).map (kJ o.1.length))) s.2.2.length (o.1 ++ s.1.1.map (jJ (bytesS [ch]) o.1.length b), o.2.1 ++ s.1.2.map (mJ o.1.length), o.2.2.1 ++ s.2.1.map (sJ o.1.length b), o.2.2.2 ++ s.2.2.map (kJ o.1.length)) (by
    intro i hi
    have hlen : (o.2.2.2 ++ (s.2.2.take i).map (kJ o.1.length)).length ≤ 2000 := by
      rw [List.length_append, List.length_map, List.length_take]; omega
    rw [take_next (d := ((0 : Int), (0 : Int))) _ hi, ← List.append_assoc]
    unfold team_add.p4.step team_add.p4.round
    simp only [List.length_cons, List.length_nil, renumber_val]
    generalize o.2.2.2 ++ (s.2.2.take i).map (kJ o.1.length) = O at *
    simp (disch := omega) only [dif_dec, dif_ndec, bif_eq, bif_neq, bif_ne, bif_nne, w64, wu64, Int.toNat_natCast, Option.bind_some, cond_true, cond_false, Bool.not_true, Bool.not_false, Sum.elim_inl, Sum.elim_inr]
    rfl) (by
    unfold team_add.p4.step team_add.p4.round
    simp only [List.take_length]
    simp (disch := omega) only [dif_dec, dif_ndec, bif_eq, bif_neq, bif_ne, bif_nne, w64, wu64, Int.toNat_natCast, Option.bind_some, cond_true, cond_false, Bool.not_true, Bool.not_false, Sum.elim_inl, Sum.elim_inr]) s.2.2.length 0 (by omega)
  simp only [show ((0 : Nat) : Int) = 0 from rfl, List.take_zero, List.map_nil, List.append_nil] at l0 l1 l2 l4
  rw [l0, Option.bind_some]
  simp only []
  rw [l1, Option.bind_some]
  simp only []
  rw [l2, Option.bind_some]
  simp only []
  rw [l4]
  rfl
end Go.Abs
