/- A part of the proof that the text with the row names: printed readings of functions, or plain lemmas about them. -/
import Derived.Test.YtomabhiochmojaaC35J1
set_option linter.unusedVariables false
set_option linter.unusedSimpArgs false
namespace Go.Abs
open Go
def letV (k : Nat) : ByteArray := bytesS [IntKind.wrap .u8 (IntKind.wrap .i64 (97 + (k : Int)))]
theorem letV_eq : ∀ k, k < 4 → (⟨#[97, 98, 99, 100]⟩ : ByteArray).extract k (k + 1) = letV k := by
  have h : ((List.range 4).all fun k => decide ((⟨#[97, 98, 99, 100]⟩ : ByteArray).extract k (k + 1) = letV k)) = true := by decide +kernel
  intro k hk
  rw [List.all_eq_true] at h
  exact of_decide_eq_true (h k (List.mem_range.2 hk))
theorem letV_size (k : Nat) : (letV k).size = 1 := rfl
theorem shifted_val {link rad nl : Int} {b : PT} {pts : List PT} (hp : pts.length ≤ 8) : r32_shifted.F link rad pts nl b.1 b.2.1 b.2.2 = some (nl, rad, pts.map (plusV · b)) := by
  rw [r32_shifted.F_eq]
  unfold r32_shifted.F0
  have := loop_count (step := r32_shifted.p0.step) (fun i : Nat => ((i : Int), link, rad, pts, b.1, b.2.1, b.2.2, 0, 0, nl, rad, (pts.take i).map (plusV · b))) pts.length (0, 0, nl, rad, pts.map (plusV · b)) (by
    intro i hi
    have hlen : ((pts.take i).map (plusV · b)).length ≤ 8 := by rw [List.length_map, List.length_take]; omega
    rw [take_next (d := P0) _ hi]
    unfold r32_shifted.p0.step r32_shifted.p0.round
    simp only [List.length_cons, List.length_nil]
    generalize (pts.take i).map (plusV · b) = O at *
    simp (disch := omega) only [dif_dec, dif_ndec, bif_eq, bif_neq, bif_ne, bif_nne, w64, wu64, Int.toNat_natCast, Option.bind_some, cond_true, cond_false, Bool.not_true, Bool.not_false, Sum.elim_inl, Sum.elim_inr]
    rfl) (by
    unfold r32_shifted.p0.step r32_shifted.p0.round
    simp only [List.take_length]
    simp (disch := omega) only [dif_dec, dif_ndec, bif_eq, bif_neq, bif_ne, bif_nne, w64, wu64, Int.toNat_natCast, Option.bind_some, cond_true, cond_false, Bool.not_true, Bool.not_false, Sum.elim_inl, Sum.elim_inr]) pts.length 0 (by omega)
  rw [show ((0 : Nat) : Int) = 0 from rfl, List.take_zero, List.map_nil] at this
  rw [this]
  rfl
/-- The parts of the walk of one scene in the reference. -/
theorem radd_val {l : List ScT} {bs : List PT} {o : OutT} {k : Nat} (hk : k < 4) (hl : k < l.length) (hb : k < bs.length) (hbl : bs.length ≤ 4) (hll : l.length ≤ 4) (ho : SmallO o) (hs : SmallS (l.getD k Sc0)) :
    r32_JoinScenes.p1.step (l, bs, (k : Int), o.1, o.2.1, o.2.2.1, o.2.2.2) = some (.inl (l, bs, ((k + 1 : Nat) : Int), (addV o (l.getD k Sc0) (bs.getD k P0) (letV k)).1, (addV o (l.getD k Sc0) (bs.getD k P0) (letV k)).2.1, (addV o (l.getD k Sc0) (bs.getD k P0) (letV k)).2.2.1, (addV o (l.getD k Sc0) (bs.getD k P0) (letV k)).2.2.2)) := by
  obtain ⟨oj, om, os, ok⟩ := ho
  obtain ⟨sj, sjn, sm, ss, ssp, sk, smm, spr⟩ := hs
  have e4 : (((⟨#[97, 98, 99, 100]⟩ : ByteArray).size : Nat) : Int) = 4 := rfl
  have eS : ((([] : List JT), ([] : List MT)), (([] : List ShT), ([] : List SkT))) = Sc0 := rfl
  have ek : ((k : Int) + 1).toNat = k + 1 := by omega
  unfold r32_JoinScenes.p1.step r32_JoinScenes.p1.round
  simp only []
  rw [dif_dec (by omega), dif_dec (by omega), dif_dec (by omega), Int.toNat_natCast]
  generalize hb' : bs.getD k P0 = b at *
  have l0 := loop_count (step := r32_JoinScenes.p2.step) (fun i : Nat => (l, bs, (k : Int), (o.1.length : Int), (i : Int), b.1, b.2.1, b.2.2, o.1 ++ ((l.getD k Sc0).1.1.take i).map (jJ (letV k) o.1.length b), o.2.1, o.2.2.1, o.2.2.2)) (l.getD k Sc0).1.1.length (l, bs, (k : Int), (o.1.length : Int), b.1, b.2.1, b.2.2, o.1 ++ (l.getD k Sc0).1.1.map (jJ (letV k) o.1.length b), o.2.1, o.2.2.1, o.2.2.2) (by
    intro i hi
    have hn := sjn _ (getD_mem (d := J0) hi)
    have hc := cat_small (x := letV k) (y := ((l.getD k Sc0).1.1.getD i J0).1) (by rw [letV_size]; omega) (by omega)
    have hlen : (o.1 ++ ((l.getD k Sc0).1.1.take i).map (jJ (letV k) o.1.length b)).length ≤ 2000 := by
      rw [List.length_append, List.length_map, List.length_take]; omega
    rw [take_next (d := J0) _ hi, ← List.append_assoc]
    unfold r32_JoinScenes.p2.step r32_JoinScenes.p2.round
    simp only [List.length_cons, List.length_nil, raised_val, Int.toNat_natCast, eS]
    generalize o.1 ++ ((l.getD k Sc0).1.1.take i).map (jJ (letV k) o.1.length b) = O at *
    generalize l.getD k Sc0 = s at *
    rw [dif_dec (by omega), dif_dec (by omega), dif_dec (by omega), dif_dec (by omega), dif_dec (by omega), dif_dec (by omega), dif_dec (by omega), dif_dec (by omega), w64 (n := (k : Int) + 1) (by omega) (by omega), dif_dec (by omega), e4, dif_dec (by omega), ek, letV_eq k hk, hc, cond_true]
    simp only [Option.bind_some]
    rw [dif_dec (by omega), w64 (n := (i : Int) + 1) (by omega) (by omega)]
    by_cases hp : (s.1.1.getD i J0).2.2.1 = -1
    · rw [bif_eq hp]
      unfold jJ
      rw [bif_eq hp]
      rfl
    · rw [bif_neq hp, dif_dec (by omega)]
      unfold jJ
      rw [bif_neq hp]
      rfl) (by
    unfold r32_JoinScenes.p2.step r32_JoinScenes.p2.round
    simp only [List.take_length, Int.toNat_natCast, eS]
    simp (disch := omega) only [dif_dec, dif_ndec, bif_eq, bif_neq, bif_ne, bif_nne, w64, wu64, Int.toNat_natCast, Option.bind_some, cond_true, cond_false, Bool.not_true, Bool.not_false, Sum.elim_inl, Sum.elim_inr]) (l.getD k Sc0).1.1.length 0 (by omega)
  have l1 := loop_count (step := r32_JoinScenes.p3.step) (fun i : Nat => (l, bs, (k : Int), (o.1.length : Int), (i : Int), b.1, b.2.1, b.2.2, o.1 ++ (l.getD k Sc0).1.1.map (jJ (letV k) o.1.length b), o.2.1 ++ ((l.getD k Sc0).1.2.take i).map (mJ o.1.length), o.2.2.1, o.2.2.2)) (l.getD k Sc0).1.2.length (l, bs, (k : Int), (o.1.length : Int), b.1, b.2.1, b.2.2, o.1 ++ (l.getD k Sc0).1.1.map (jJ (letV k) o.1.length b), o.2.1 ++ (l.getD k Sc0).1.2.map (mJ o.1.length), o.2.2.1, o.2.2.2) (by
    intro i hi
    have hm := smm _ (getD_mem (d := M0) hi)
    have hlen : (o.2.1 ++ ((l.getD k Sc0).1.2.take i).map (mJ o.1.length)).length ≤ 2000 := by
      rw [List.length_append, List.length_map, List.length_take]; omega
    rw [take_next (d := M0) _ hi, ← List.append_assoc]
    unfold r32_JoinScenes.p3.step r32_JoinScenes.p3.round
    simp only [List.length_cons, List.length_nil, Int.toNat_natCast, eS]
    generalize o.2.1 ++ ((l.getD k Sc0).1.2.take i).map (mJ o.1.length) = O at *
    generalize l.getD k Sc0 = s at *
    rw [dif_dec (by omega), dif_dec (by omega), dif_dec (by omega), dif_dec (by omega), dif_dec (by omega), dif_dec (by omega), dif_dec (by omega), dif_dec (by omega), w64 (n := (i : Int) + 1) (by omega) (by omega)]
    unfold mJ renV
    rw [bif_neq hm]
    rfl) (by
    unfold r32_JoinScenes.p3.step r32_JoinScenes.p3.round
    simp only [List.take_length, Int.toNat_natCast, eS]
    simp (disch := omega) only [dif_dec, dif_ndec, bif_eq, bif_neq, bif_ne, bif_nne, w64, wu64, Int.toNat_natCast, Option.bind_some, cond_true, cond_false, Bool.not_true, Bool.not_false, Sum.elim_inl, Sum.elim_inr]) (l.getD k Sc0).1.2.length 0 (by omega)
  have l2 := loop_count (step := r32_JoinScenes.p4.step) (fun i : Nat => (l, bs, (k : Int), (o.1.length : Int), (i : Int), b.1, b.2.1, b.2.2, o.1 ++ (l.getD k Sc0).1.1.map (jJ (letV k) o.1.length b), o.2.1 ++ (l.getD k Sc0).1.2.map (mJ o.1.length), o.2.2.1 ++ ((l.getD k Sc0).2.1.take i).map (sJ o.1.length b), o.2.2.2)) (l.getD k Sc0).2.1.length (l, bs, (k : Int), (o.1.length : Int), o.1 ++ (l.getD k Sc0).1.1.map (jJ (letV k) o.1.length b), o.2.1 ++ (l.getD k Sc0).1.2.map (mJ o.1.length), o.2.2.1 ++ (l.getD k Sc0).2.1.map (sJ o.1.length b), o.2.2.2) (by
    intro i hi
    obtain ⟨p1, p8⟩ := ssp _ (getD_mem (d := Sh0) hi)
    have hpr := spr _ (getD_mem (d := Sh0) hi)
    have hlen : (o.2.2.1 ++ ((l.getD k Sc0).2.1.take i).map (sJ o.1.length b)).length ≤ 2000 := by
      rw [List.length_append, List.length_map, List.length_take]; omega
    rw [take_next (d := Sh0) _ hi, ← List.append_assoc]
    unfold r32_JoinScenes.p4.step r32_JoinScenes.p4.round
    simp only [List.length_cons, List.length_nil, raised_val, Int.toNat_natCast, eS]
    generalize o.2.2.1 ++ ((l.getD k Sc0).2.1.take i).map (sJ o.1.length b) = O at *
    generalize l.getD k Sc0 = s at *
    rw [dif_dec (by omega), dif_dec (by omega), dif_dec (by omega), dif_dec (by omega), dif_dec (by omega), dif_dec (by omega), dif_dec (by omega)]
    simp only [Option.bind_some]
    by_cases hp : (s.2.1.getD i Sh0).1 = -1
    · rw [bif_eq hp, shifted_val p8, Option.bind_some, dif_dec (by omega), w64 (n := (i : Int) + 1) (by omega) (by omega)]
      unfold sJ
      rw [bif_eq hp]
      rfl
    · have h0 := shifted_val (link := (s.2.1.getD i Sh0).1) (rad := (s.2.1.getD i Sh0).2.1) (nl := renV (s.2.1.getD i Sh0).1 o.1.length) (b := P0) p8
      have hid : (s.2.1.getD i Sh0).2.2.map (plusV · P0) = (s.2.1.getD i Sh0).2.2 := by
        conv => rhs; rw [← List.map_id (s.2.1.getD i Sh0).2.2]
        exact List.map_congr_left hpr
      rw [hid] at h0
      simp only [] at h0
      rw [bif_neq hp, h0, Option.bind_some, dif_dec (by omega), w64 (n := (i : Int) + 1) (by omega) (by omega)]
      unfold sJ
      rw [bif_neq hp]
      rfl) (by
    unfold r32_JoinScenes.p4.step r32_JoinScenes.p4.round
    simp only [List.take_length, Int.toNat_natCast, eS]
    simp (disch := omega) only [dif_dec, dif_ndec, bif_eq, bif_neq, bif_ne, bif_nne, w64, wu64, Int.toNat_natCast, Option.bind_some, cond_true, cond_false, Bool.not_true, Bool.not_false, Sum.elim_inl, Sum.elim_inr]) (l.getD k Sc0).2.1.length 0 (by omega)
  have l3 := loop_count (step := r32_JoinScenes.p5.step) (fun i : Nat => (l, bs, (k : Int), (o.1.length : Int), (i : Int), o.1 ++ (l.getD k Sc0).1.1.map (jJ (letV k) o.1.length b), o.2.1 ++ (l.getD k Sc0).1.2.map (mJ o.1.length), o.2.2.1 ++ (l.getD k Sc0).2.1.map (sJ o.1.length b), o.2.2.2 ++ ((l.getD k Sc0).2.2.take i).map (kJ o.1.length))) (l.getD k Sc0).2.2.length (l, bs, (k : Int), o.1 ++ (l.getD k Sc0).1.1.map (jJ (letV k) o.1.length b), o.2.1 ++ (l.getD k Sc0).1.2.map (mJ o.1.length), o.2.2.1 ++ (l.getD k Sc0).2.1.map (sJ o.1.length b), o.2.2.2 ++ (l.getD k Sc0).2.2.map (kJ o.1.length)) (by
    intro i hi
    have hlen : (o.2.2.2 ++ ((l.getD k Sc0).2.2.take i).map (kJ o.1.length)).length ≤ 2000 := by
      rw [List.length_append, List.length_map, List.length_take]; omega
    rw [take_next (d := ((0 : Int), (0 : Int))) _ hi, ← List.append_assoc]
    unfold r32_JoinScenes.p5.step r32_JoinScenes.p5.round
    simp only [List.length_cons, List.length_nil, raised_val, Int.toNat_natCast, eS]
    generalize o.2.2.2 ++ ((l.getD k Sc0).2.2.take i).map (kJ o.1.length) = O at *
    generalize l.getD k Sc0 = s at *
    rw [dif_dec (by omega), dif_dec (by omega), dif_dec (by omega), dif_dec (by omega), dif_dec (by omega), dif_dec (by omega), dif_dec (by omega)]
    simp only [Option.bind_some]
    rw [dif_dec (by omega), w64 (n := (i : Int) + 1) (by omega) (by omega)]
    rfl) (by
    unfold r32_JoinScenes.p5.step r32_JoinScenes.p5.round
    simp only [List.take_length, Int.toNat_natCast, eS]
    simp (disch := omega) only [dif_dec, dif_ndec, bif_eq, bif_neq, bif_ne, bif_nne, w64, wu64, Int.toNat_natCast, Option.bind_some, cond_true, cond_false, Bool.not_true, Bool.not_false, Sum.elim_inl, Sum.elim_inr]) (l.getD k Sc0).2.2.length 0 (by omega)
  simp only [show ((0 : Nat) : Int) = 0 from rfl, List.take_zero, List.map_nil, List.append_nil] at l0 l1 l2 l3
  rw [l0, Option.bind_some]
  simp only []
  rw [l1, Option.bind_some]
  simp only []
  rw [l2, Option.bind_some]
  simp only []
  rw [l3, Option.bind_some]
  simp only []
  rw [w64 (n := (k : Int) + 1) (by omega) (by omega)]
  rfl
end Go.Abs
