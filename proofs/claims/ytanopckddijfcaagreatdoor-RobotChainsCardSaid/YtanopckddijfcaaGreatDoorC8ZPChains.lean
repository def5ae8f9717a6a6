/- A part of the proof that the text with the row names: printed readings of functions, or plain lemmas about them. -/
import Derived.Test.YtanopckddijfcaaGreatDoorC8ZLRobotChains
import Derived.Test.YtanopckddijfcaaGreatDoorC8ZM6
set_option linter.unusedVariables false
set_option linter.unusedSimpArgs false
namespace Go.Abs
open Go Go.Proofs
theorem from_val (l : List Int) : armplanmake_From.F l = some (l, 0) := by
  rw [armplanmake_From.F_eq]
  rfl
theorem mkRobot_val {l : List Int} (hl : l.length ≤ 2 ^ 60) : ∃ r, armplanmake_Robot.F l = some r ∧ GoodR r.1 r.2 := by
  rw [armplanmake_Robot.F_eq]
  unfold armplanmake_Robot.F0
  rw [from_val]
  simp only [Option.bind_some]
  obtain ⟨r, h1, h2, _⟩ := robot_val hl (p := 0) (by decide) (by decide)
  rw [h1]
  exact ⟨_, rfl, h2⟩
theorem getD_mem {α : Type} {l : List α} {d : α} {i : Nat} (h : i < l.length) : l.getD i d ∈ l := by
  rw [List.getD_eq_getElem?_getD, List.getElem?_eq_getElem h]
  exact List.getElem_mem _
theorem mem_getD {α : Type} {l : List α} {d x : α} (h : x ∈ l) : ∃ i, i < l.length ∧ l.getD i d = x := by
  obtain ⟨i, hi, e⟩ := List.getElem_of_mem h
  exact ⟨i, hi, by rw [List.getD_eq_getElem?_getD, List.getElem?_eq_getElem hi, e]; rfl⟩
theorem isLink_val (js : List JT) (ms : List MT) (k : Int) : armplanref6_isLink.F js ms k = some (linkB js.length k) := by
  rw [armplanref6_isLink.F_eq]
  unfold armplanref6_isLink.F0 linkB
  by_cases h1 : k ≥ -1
  · simp (disch := omega) only [dif_dec, dif_ndec, bif_eq, bif_neq, bif_ne, bif_nne, w64, wu64, Int.toNat_natCast, Option.bind_some, cond_true, cond_false, Bool.not_true, Bool.not_false, Sum.elim_inl, Sum.elim_inr]
  · simp (disch := omega) only [dif_dec, dif_ndec, bif_eq, bif_neq, bif_ne, bif_nne, w64, wu64, Int.toNat_natCast, Option.bind_some, cond_true, cond_false, Bool.not_true, Bool.not_false, Sum.elim_inl, Sum.elim_inr]
theorem names_robot {js : List JT} {ms : List MT} (h : chkRobot js ms = 0) : ∀ j ∈ js, j.1.size ≤ 2 ^ 60 := by
  obtain ⟨_, _, g3, _⟩ := chkRobot_zero h
  intro j hj
  obtain ⟨i, hi, e⟩ := mem_getD (d := J0) hj
  have hn := (g3 i hi).2.nm
  rw [e] at hn
  unfold nameB at hn
  rw [Bool.and_eq_true, Bool.and_eq_true] at hn
  have := of_decide_eq_true hn.2.1
  omega
theorem rcheck_zero {js : List JT} {ms : List MT} (h : chkRobot js ms = 0) : armplanref6_CheckRobot.F js ms = some 0 := by
  obtain ⟨_, g2, _, g4, _⟩ := chkRobot_zero h
  rw [rrobotCheck_val (by omega) (by omega) (names_robot h), h]
theorem member_val {l : List Int} (v : Int) (hl : l.length ≤ 2 ^ 60) : armplanref6_member.F l v = some (hasB l v) := by
  rw [armplanref6_member.F_eq]
  unfold armplanref6_member.F0 hasB
  have := loop_find (step := armplanref6_member.p0.step) (fun i : Nat => (l, v, (i : Int))) l.length (fun i => bif (fun i => v == l.getD i 0) i then some (.inl true) else none) (.inr ()) (by
    intro i hi
    have hc : (l.getD i 0 == v) = (v == l.getD i 0) := by rw [Bool.eq_iff_iff, beq_iff_eq, beq_iff_eq]; exact eq_comm
    unfold armplanref6_member.p0.step armplanref6_member.p0.round
    simp only []
    simp (disch := omega) only [dif_dec, dif_ndec, bif_eq, bif_neq, bif_ne, bif_nne, w64, wu64, Int.toNat_natCast, Option.bind_some, cond_true, cond_false, Bool.not_true, Bool.not_false, Sum.elim_inl, Sum.elim_inr, hc]
    cases (v == l.getD i 0) <;> rfl) (by
    unfold armplanref6_member.p0.step armplanref6_member.p0.round
    simp only []
    simp (disch := omega) only [dif_dec, dif_ndec, bif_eq, bif_neq, bif_ne, bif_nne, w64, wu64, Int.toNat_natCast, Option.bind_some, cond_true, cond_false, Bool.not_true, Bool.not_false, Sum.elim_inl, Sum.elim_inr]) l.length 0 (by omega)
  rw [show ((0 : Nat) : Int) = 0 from rfl] at this
  rw [this, Option.bind_some, findE_any (P := fun i => v == l.getD i 0) (g := fun _ => .inl true) fun j _ _ => rfl]
  cases anyB (fun i => v == l.getD i 0) 0 l.length <;> rfl
theorem rchain_loop {js : List JT} {ms : List MT} (hd : Down js) (hn : js.length ≤ 10) : ∀ (f : Nat) (k : Int) (out : List Int), -1 ≤ k → k < js.length → k + 1 ≤ f → out.length + f ≤ 100 →
    loopF armplanref6_Chain.p0.step (k, js, ms, out) = some (chainL js f k ++ out)
  | 0, k, out, h1, h2, h3, h4 => by
    obtain rfl : k = -1 := by omega
    refine loop_end ?_
    unfold armplanref6_Chain.p0.step armplanref6_Chain.p0.round
    simp only []
    simp (disch := omega) only [dif_dec, dif_ndec, bif_eq, bif_neq, bif_ne, bif_nne, w64, wu64, Int.toNat_natCast, Option.bind_some, cond_true, cond_false, Bool.not_true, Bool.not_false, Sum.elim_inl, Sum.elim_inr]
    rfl
  | f + 1, k, out, h1, h2, h3, h4 => by
    by_cases h : k = -1
    · rw [chainL, if_pos h]
      refine loop_end ?_
      unfold armplanref6_Chain.p0.step armplanref6_Chain.p0.round
      simp only []
      simp (disch := omega) only [dif_dec, dif_ndec, bif_eq, bif_neq, bif_ne, bif_nne, w64, wu64, Int.toNat_natCast, Option.bind_some, cond_true, cond_false, Bool.not_true, Bool.not_false, Sum.elim_inl, Sum.elim_inr]
      rfl
    · rw [chainL, if_neg h]
      have hp := hd k.toNat (by omega)
      rw [show ((k.toNat : Nat) : Int) = k by omega] at hp
      have := rchain_loop (ms := ms) hd hn f (par_ js k) (k :: out) hp.1 (by omega) (by omega) (by simp only [List.length_cons]; omega)
      rw [List.append_assoc, List.singleton_append, ← this]
      refine loop_next ?_ rfl
      unfold armplanref6_Chain.p0.step armplanref6_Chain.p0.round
      simp only [List.length_cons, List.length_nil]
      simp (disch := omega) only [dif_dec, dif_ndec, bif_eq, bif_neq, bif_ne, bif_nne, w64, wu64, Int.toNat_natCast, Option.bind_some, cond_true, cond_false, Bool.not_true, Bool.not_false, Sum.elim_inl, Sum.elim_inr]
      rfl
theorem rchain_val {js : List JT} {ms : List MT} (h : chkRobot js ms = 0) {k : Int} (hk : linkB js.length k = true) : armplanref6_Chain.F js ms k = some (chainL js 11 k) := by
  obtain ⟨h1, h2, _, _⟩ := chkRobot_zero h
  obtain ⟨h3, h4⟩ := linkB_iff.1 hk
  rw [armplanref6_Chain.F_eq]
  unfold armplanref6_Chain.F0
  rw [rcheck_zero h, Option.bind_some, bif_nne rfl, isLink_val, hk, Option.bind_some, Bool.not_true, cond_false, rchain_loop (down_of h) h2 11 k [] h3 h4 (by omega) (by simp), List.append_nil]
  rfl
theorem rbtw_loop {js : List JT} {ms : List MT} {a b : Int} (hn : js.length ≤ 10) : ∀ (k i : Nat) (out : List Int), i + k = js.length → out.length ≤ i →
    loopF armplanref6_Between.p0.step ((i : Int), js, ms, chainL js 11 a, chainL js 11 b, out) = some (out ++ btwL js a b i k)
  | 0, i, out, h, ho => by
    refine loop_end ?_
    unfold armplanref6_Between.p0.step armplanref6_Between.p0.round
    simp only []
    simp (disch := omega) only [dif_dec, dif_ndec, bif_eq, bif_neq, bif_ne, bif_nne, w64, wu64, Int.toNat_natCast, Option.bind_some, cond_true, cond_false, Bool.not_true, Bool.not_false, Sum.elim_inl, Sum.elim_inr]
    simp [btwL]
  | k + 1, i, out, h, ho => by
    have c1 := chainL_length js 11 a
    have c2 := chainL_length js 11 b
    rw [btwL]
    cases hb : (hasB (chainL js 11 a) (i : Int) == hasB (chainL js 11 b) (i : Int)) with
    | true =>
      rw [if_pos rfl, List.nil_append, ← rbtw_loop hn k (i + 1) out (by omega) (by omega)]
      refine loop_next ?_ rfl
      unfold armplanref6_Between.p0.step armplanref6_Between.p0.round
      simp only []
      simp (disch := omega) only [dif_dec, dif_ndec, bif_eq, bif_neq, bif_ne, bif_nne, w64, wu64, Int.toNat_natCast, Option.bind_some, cond_true, cond_false, Bool.not_true, Bool.not_false, Sum.elim_inl, Sum.elim_inr, member_val (l := chainL js 11 a) (i : Int) (by omega), member_val (l := chainL js 11 b) (i : Int) (by omega), hb]
      rfl
    | false =>
      rw [if_neg (by simp), ← List.append_assoc, ← rbtw_loop hn k (i + 1) (out ++ [(i : Int)]) (by omega) (by simp; omega)]
      refine loop_next ?_ rfl
      unfold armplanref6_Between.p0.step armplanref6_Between.p0.round
      simp only [List.length_cons, List.length_nil]
      simp (disch := omega) only [dif_dec, dif_ndec, bif_eq, bif_neq, bif_ne, bif_nne, w64, wu64, Int.toNat_natCast, Option.bind_some, cond_true, cond_false, Bool.not_true, Bool.not_false, Sum.elim_inl, Sum.elim_inr, member_val (l := chainL js 11 a) (i : Int) (by omega), member_val (l := chainL js 11 b) (i : Int) (by omega), hb]
      rfl
theorem rbetween_val' {js : List JT} {ms : List MT} (h : chkRobot js ms = 0) {a b : Int} (ha : linkB js.length a = true) (hb : linkB js.length b = true) : armplanref6_Between.F js ms a b = some (btwL js a b 0 js.length) := by
  obtain ⟨h1, h2, _, _⟩ := chkRobot_zero h
  rw [armplanref6_Between.F_eq]
  unfold armplanref6_Between.F0
  rw [rcheck_zero h, Option.bind_some, bif_nne rfl, isLink_val, ha, Option.bind_some, Bool.not_true, cond_false, isLink_val, hb, Option.bind_some, Bool.not_true, cond_false, rchain_val h ha, Option.bind_some, rchain_val h hb, Option.bind_some]
  have := rbtw_loop (js := js) (ms := ms) (a := a) (b := b) h2 js.length 0 [] (by omega) (by simp)
  rw [show ((0 : Nat) : Int) = 0 from rfl] at this
  rw [this]
  rfl
theorem rrigid_val {js : List JT} {ms : List MT} (h : chkRobot js ms = 0) (a b : Int) : armplanref6_Rigid.F js ms a b = some (rigidB js a b) := by
  obtain ⟨h1, h2, _, _⟩ := chkRobot_zero h
  rw [armplanref6_Rigid.F_eq]
  unfold armplanref6_Rigid.F0 rigidB
  rw [rcheck_zero h, Option.bind_some, bif_nne rfl, isLink_val, Option.bind_some]
  cases ha : linkB js.length a with
  | false => rfl
  | true =>
    rw [Bool.not_true, cond_false, isLink_val, Option.bind_some]
    cases hb : linkB js.length b with
    | false => rfl
    | true =>
      have hl := btwL_length (js := js) (a := a) (b := b) (k := js.length) (i := 0)
      rw [Bool.not_true, cond_false, rbetween_val' h ha hb, Option.bind_some, Bool.true_and, Bool.true_and]
      have hm : ∀ x ∈ btwL js a b 0 js.length, 0 ≤ x ∧ x < (js.length : Int) := fun x hx => by have := btwL_mem hx; omega
      generalize btwL js a b 0 js.length = l at *
      have := loop_find (step := armplanref6_Rigid.p0.step) (fun i : Nat => ((i : Int), js, ms, l)) l.length (fun i => bif decide (lo__ js (l.getD i 0) < hi__ js (l.getD i 0)) then some (.inl false) else none) (.inr ()) (by
        intro i hi
        obtain ⟨m1, m2⟩ := hm _ (getD_mem (d := 0) hi)
        unfold armplanref6_Rigid.p0.step armplanref6_Rigid.p0.round lo__ hi__
        simp only []
        simp (disch := omega) only [dif_dec, dif_ndec, bif_eq, bif_neq, bif_ne, bif_nne, w64, wu64, Int.toNat_natCast, Option.bind_some, cond_true, cond_false, Bool.not_true, Bool.not_false, Sum.elim_inl, Sum.elim_inr]
        generalize decide ((js.getD (l.getD i 0).toNat J0).2.2.2.2.1 < (js.getD (l.getD i 0).toNat J0).2.2.2.2.2.1) = c
        cases c <;> rfl) (by
        unfold armplanref6_Rigid.p0.step armplanref6_Rigid.p0.round
        simp only []
        simp (disch := omega) only [dif_dec, dif_ndec, bif_eq, bif_neq, bif_ne, bif_nne, w64, wu64, Int.toNat_natCast, Option.bind_some, cond_true, cond_false, Bool.not_true, Bool.not_false, Sum.elim_inl, Sum.elim_inr]) l.length 0 (by omega)
      rw [show ((0 : Nat) : Int) = 0 from rfl] at this
      rw [this, Option.bind_some, findE_any (P := fun i => decide (lo__ js (l.getD i 0) < hi__ js (l.getD i 0))) (g := fun _ => .inl false) fun j _ _ => rfl]
      show Sum.elim _ _ (bif movB js l then _ else _) = _
      cases movB js l <;> rfl
theorem sameInt_refl {l : List Int} (hl : l.length ≤ 2 ^ 60) : armplanmake_Same_int.F l l = some true := by
  rw [armplanmake_Same_int.F_eq]
  unfold armplanmake_Same_int.F0
  rw [bif_nne rfl]
  have := loop_count (step := armplanmake_Same_int.p0.step) (fun j : Nat => (l, l, (j : Int))) l.length (Sum.inr ()) (by
    intro j hj
    unfold armplanmake_Same_int.p0.step armplanmake_Same_int.p0.round
    simp only [bne_self_eq_false]
    simp (disch := omega) only [dif_dec, dif_ndec, bif_eq, bif_neq, bif_ne, bif_nne, w64, wu64, Int.toNat_natCast, Option.bind_some, cond_true, cond_false, Bool.not_true, Bool.not_false, Sum.elim_inl, Sum.elim_inr]
    rfl) (by
    unfold armplanmake_Same_int.p0.step armplanmake_Same_int.p0.round
    simp only []
    simp (disch := omega) only [dif_dec, dif_ndec, bif_eq, bif_neq, bif_ne, bif_nne, w64, wu64, Int.toNat_natCast, Option.bind_some, cond_true, cond_false, Bool.not_true, Bool.not_false, Sum.elim_inl, Sum.elim_inr]) l.length 0 (by omega)
  rw [show ((0 : Nat) : Int) = 0 from rfl] at this
  rw [this]
  rfl

theorem findE_map {O Q : Type} {P : Nat → Bool} {f : Nat → O} {y : O} (g : O → Q) : ∀ {k i : Nat}, g (findE (fun i => bif P i then some (f i) else none) y i k) = findE (fun i => bif P i then some (g (f i)) else none) (g y) i k
  | 0, i => rfl
  | k + 1, i => by
    simp only [findE]
    cases P i with
    | true => rfl
    | false => exact findE_map g
def idxJ (js : List JT) (nm : ByteArray) : Int := findE (fun i => bif eqS (js.getD i J0).1 nm then some (i : Int) else none) (-1) 0 js.length
theorem find_val {js : List JT} {ms : List MT} {nm : ByteArray} (hl : js.length ≤ 2 ^ 60) : robot_Find.F js ms nm = some (idxJ js nm) := by
  rw [robot_Find.F_eq]
  unfold robot_Find.F0
  rw [robot_place.F_eq]
  unfold robot_place.F0
  rw [slices_IndexFunc_Joint__robot_place_1.F_eq]
  unfold slices_IndexFunc_Joint__robot_place_1.F0
  have h := loop_find (step := slices_IndexFunc_Joint__robot_place_1.p0.step) (fun i : Nat => (js, (js.length : Int), (i : Int), nm)) js.length (fun i => bif eqS (js.getD i J0).1 nm then some (.inl ((i : Int), nm)) else none) (.inr nm) (by
    intro i hi
    have e1 : ((i : Int) + 1) = ((i + 1 : Nat) : Int) := by omega
    unfold slices_IndexFunc_Joint__robot_place_1.p0.step slices_IndexFunc_Joint__robot_place_1.p0.round
    rw [robot_place_1.F_eq]
    unfold robot_place_1.F0
    simp only []
    simp (disch := omega) only [dif_dec, dif_ndec, bif_eq, bif_neq, bif_ne, bif_nne, w64, wu64, Int.toNat_natCast, Option.bind_some, cond_true, cond_false, Bool.not_true, Bool.not_false, Sum.elim_inl, Sum.elim_inr, e1]
    cases eqS (js.getD i J0).1 nm <;> rfl) (by
    unfold slices_IndexFunc_Joint__robot_place_1.p0.step slices_IndexFunc_Joint__robot_place_1.p0.round
    simp only []
    simp (disch := omega) only [dif_dec, dif_ndec, bif_eq, bif_neq, bif_ne, bif_nne, w64, wu64, Int.toNat_natCast, Option.bind_some, cond_true, cond_false, Bool.not_true, Bool.not_false, Sum.elim_inl, Sum.elim_inr]) js.length 0 (by omega)
  rw [show ((0 : Nat) : Int) = 0 from rfl] at h
  rw [h]
  simp only [Option.bind_some]
  have h2 := findE_map (P := fun i => eqS (js.getD i J0).1 nm) (f := fun i : Nat => (Sum.inl ((i : Int), nm) : (Int × ByteArray) ⊕ ByteArray)) (y := Sum.inr nm) (fun o => Sum.elim (fun y4 : Int × ByteArray => y4.1) (fun _ => -1) o) (k := js.length) (i := 0)
  unfold idxJ
  simp only [Sum.elim_inl, Sum.elim_inr] at h2
  rw [← h2]
  cases findE (fun i => bif eqS (js.getD i J0).1 nm then some (Sum.inl ((i : Int), nm) : (Int × ByteArray) ⊕ ByteArray) else none) (Sum.inr nm) 0 js.length <;> rfl
theorem rfind_val {js : List JT} {ms : List MT} {nm : ByteArray} (hl : js.length ≤ 2 ^ 60) : armplanref6_Find.F js ms nm = some (idxJ js nm) := by
  rw [armplanref6_Find.F_eq]
  unfold armplanref6_Find.F0
  have h := loop_find (step := armplanref6_Find.p0.step) (fun i : Nat => (nm, (i : Int), js, ms)) js.length (fun i => bif eqS (js.getD i J0).1 nm then some (.inl (i : Int)) else none) (.inr ()) (by
    intro i hi
    have e1 : ((i : Int) + 1) = ((i + 1 : Nat) : Int) := by omega
    unfold armplanref6_Find.p0.step armplanref6_Find.p0.round
    simp only []
    simp (disch := omega) only [dif_dec, dif_ndec, bif_eq, bif_neq, bif_ne, bif_nne, w64, wu64, Int.toNat_natCast, Option.bind_some, cond_true, cond_false, Bool.not_true, Bool.not_false, Sum.elim_inl, Sum.elim_inr, e1]
    cases eqS (js.getD i J0).1 nm <;> rfl) (by
    unfold armplanref6_Find.p0.step armplanref6_Find.p0.round
    simp only []
    simp (disch := omega) only [dif_dec, dif_ndec, bif_eq, bif_neq, bif_ne, bif_nne, w64, wu64, Int.toNat_natCast, Option.bind_some, cond_true, cond_false, Bool.not_true, Bool.not_false, Sum.elim_inl, Sum.elim_inr]) js.length 0 (by omega)
  rw [show ((0 : Nat) : Int) = 0 from rfl] at h
  rw [h]
  simp only [Option.bind_some]
  have h2 := findE_map (P := fun i => eqS (js.getD i J0).1 nm) (f := fun i : Nat => (Sum.inl (i : Int) : Int ⊕ Unit)) (y := Sum.inr ()) (fun o => Sum.elim (fun y4 : Int => y4) (fun _ => -1) o) (k := js.length) (i := 0)
  unfold idxJ
  simp only [Sum.elim_inl, Sum.elim_inr] at h2
  rw [← h2]
  cases findE (fun i => bif eqS (js.getD i J0).1 nm then some (Sum.inl (i : Int) : Int ⊕ Unit) else none) (Sum.inr ()) 0 js.length <;> rfl
theorem isLink_any {js : List JT} {ms : List MT} (hj : js.length ≤ 2 ^ 60) (hm : ms.length ≤ 2 ^ 60) (k : Int) : robot_isLink.F js ms k = some (linkB js.length k && (chkRobot js ms == 0)) := by
  rw [robot_isLink.F_eq]
  unfold robot_isLink.F0 linkB
  rw [robotCheck_val hj hm]
  by_cases h1 : k ≥ -1
  · by_cases h2 : k < js.length
    · simp (disch := omega) only [dif_dec, dif_ndec, bif_eq, bif_neq, bif_ne, bif_nne, w64, wu64, Int.toNat_natCast, Option.bind_some, cond_true, cond_false, Bool.not_true, Bool.not_false, Sum.elim_inl, Sum.elim_inr, decide_eq_true h2, Bool.true_and]
    · simp (disch := omega) only [dif_dec, dif_ndec, bif_eq, bif_neq, bif_ne, bif_nne, w64, wu64, Int.toNat_natCast, Option.bind_some, cond_true, cond_false, Bool.not_true, Bool.not_false, Sum.elim_inl, Sum.elim_inr, decide_eq_false h2, Bool.false_and]
  · simp (disch := omega) only [dif_dec, dif_ndec, bif_eq, bif_neq, bif_ne, bif_nne, w64, wu64, Int.toNat_natCast, Option.bind_some, cond_true, cond_false, Bool.not_true, Bool.not_false, Sum.elim_inl, Sum.elim_inr, Bool.false_and]
/-- What is read of a robot and its links, by both. -/
theorem chains_true {js : List JT} {ms : List MT} (hj : js.length ≤ 2 ^ 60) (hm : ms.length ≤ 2 ^ 60) (hn : ∀ j ∈ js, j.1.size ≤ 2 ^ 60) (nm : ByteArray) (a b : Int) : armplanlaw8_chains.F js ms nm a b = some true := by
  rw [armplanlaw8_chains.F_eq]
  unfold armplanlaw8_chains.F0
  rw [find_val hj, rfind_val hj]
  simp only [Option.bind_some, beq_self_eq_true, cond_true]
  have il := isLink_any hj hm
  have ch : ∀ k, ∃ l, robot_Chain.F js ms k = some l ∧ armplanref6_Chain.F js ms k = some l ∧ l.length ≤ 2 ^ 60 := by
    intro k
    by_cases hc : chkRobot js ms = 0
    · cases hk : linkB js.length k with
      | true => exact ⟨_, chain_val hc hk, rchain_val hc hk, by have := chainL_length js 11 k; omega⟩
      | false =>
        refine ⟨[], ?_, ?_, by simp⟩
        · rw [robot_Chain.F_eq]
          unfold robot_Chain.F0
          rw [il, hk]
          rfl
        · rw [armplanref6_Chain.F_eq]
          unfold armplanref6_Chain.F0
          rw [rrobotCheck_val hj hm hn, hc, isLink_val, hk]
          rfl
    · refine ⟨[], ?_, ?_, by simp⟩
      · rw [robot_Chain.F_eq]
        unfold robot_Chain.F0
        rw [il, beq_false_of_ne hc, Bool.and_false]
        rfl
      · rw [armplanref6_Chain.F_eq]
        unfold armplanref6_Chain.F0
        rw [rrobotCheck_val hj hm hn]
        simp only [Option.bind_some]
        rw [bif_ne hc]
  have bt : ∃ l, robot_Between.F js ms a b = some l ∧ armplanref6_Between.F js ms a b = some l ∧ l.length ≤ 2 ^ 60 := by
    by_cases hc : chkRobot js ms = 0
    · cases ha : linkB js.length a with
      | true =>
        cases hb : linkB js.length b with
        | true => exact ⟨_, between_val' hc ha hb, rbetween_val' hc ha hb, by have : (btwL js a b 0 js.length).length ≤ js.length := btwL_length; omega⟩
        | false =>
          refine ⟨[], ?_, ?_, by simp⟩
          · rw [robot_Between.F_eq]
            unfold robot_Between.F0
            rw [il, il, ha, hb, hc]
            rfl
          · rw [armplanref6_Between.F_eq]
            unfold armplanref6_Between.F0
            rw [rrobotCheck_val hj hm hn, hc, isLink_val, isLink_val, ha, hb]
            rfl
      | false =>
        refine ⟨[], ?_, ?_, by simp⟩
        · rw [robot_Between.F_eq]
          unfold robot_Between.F0
          rw [il, ha]
          rfl
        · rw [armplanref6_Between.F_eq]
          unfold armplanref6_Between.F0
          rw [rrobotCheck_val hj hm hn, hc, isLink_val, ha]
          rfl
    · refine ⟨[], ?_, ?_, by simp⟩
      · rw [robot_Between.F_eq]
        unfold robot_Between.F0
        rw [il, beq_false_of_ne hc, Bool.and_false]
        rfl
      · rw [armplanref6_Between.F_eq]
        unfold armplanref6_Between.F0
        rw [rrobotCheck_val hj hm hn]
        simp only [Option.bind_some]
        rw [bif_ne hc]
  have rg : ∃ q, robot_Rigid.F js ms a b = some q ∧ armplanref6_Rigid.F js ms a b = some q := by
    by_cases hc : chkRobot js ms = 0
    · exact ⟨_, rigid_val hc a b, rrigid_val hc a b⟩
    · refine ⟨false, ?_, ?_⟩
      · rw [robot_Rigid.F_eq]
        unfold robot_Rigid.F0
        rw [il, beq_false_of_ne hc, Bool.and_false]
        rfl
      · rw [armplanref6_Rigid.F_eq]
        unfold armplanref6_Rigid.F0
        rw [rrobotCheck_val hj hm hn]
        simp only [Option.bind_some]
        rw [bif_ne hc]
  obtain ⟨l1, c1, c2, c3⟩ := ch a
  obtain ⟨l2, b1, b2, b3⟩ := bt
  obtain ⟨q, r1, r2⟩ := rg
  rw [c1, c2]
  simp only [Option.bind_some]
  rw [sameInt_refl c3]
  simp only [Option.bind_some, cond_true]
  rw [b1, b2]
  simp only [Option.bind_some]
  rw [sameInt_refl b3]
  simp only [Option.bind_some, cond_true]
  rw [r1, r2]
  simp only [Option.bind_some, beq_self_eq_true]
theorem rchains_law {js0 : List JT} {ms0 : List MT} (a1 : js0.length ≤ 2 ^ 60) (a2 : ms0.length ≤ 2 ^ 60) (a5 : ∀ j ∈ js0, j.1.size ≤ 2 ^ 60) (nm : ByteArray) (a b : Int) {l : List Int} (hl : l.length ≤ 2 ^ 60) : armplanlaw8_RobotChains.F js0 ms0 nm a b l = some true := by
  rw [armplanlaw8_RobotChains.F_eq]
  unfold armplanlaw8_RobotChains.F0
  obtain ⟨⟨js, ms⟩, hR, hG⟩ := mkRobot_val hl
  simp only [] at hG
  have hc := chkRobot_good hG
  have hz := chkRobot_zero hc
  have l1 := hz.2.1
  have l2 := hz.2.2.2.1
  rw [hR]
  simp only [Option.bind_some]
  rw [round_val (by decide) (by decide), round_val (by decide) (by decide)]
  simp only [Option.bind_some]
  rw [awake8_val, chains_true a1 a2 a5, chains_true a1 a2 a5, chains_true (by omega) (by omega) (names_robot hc), chains_true (by omega) (by omega) (names_robot hc)]
  rfl
abbrev chainsAk : List AK := [.ag (.pair (.slc (.pair .str (.pair (.int .i64) (.pair (.int .i64) (.pair (.pair (.int .i64) (.pair (.int .i64) (.int .i64))) (.pair (.int .i64) (.pair (.int .i64) (.pair (.int .i64) (.pair (.int .i64) (.pair (.int .i64) (.int .i64))))))))))) (.slc (.pair (.int .i64) (.pair (.int .i64) (.pair (.int .i64) (.pair (.int .i64) (.int .i64))))))), .lf .str, .lf (.int .i64), .lf (.int .i64), .lf (.slc (.int .i64))]
theorem chains_good (x : ArgT chainsAk) (g : GoodAll chainsAk x) : armplanlaw8_RobotChains.F x.1.1 x.1.2 x.2.1 x.2.2.1 x.2.2.2.1 x.2.2.2.2.1 = some true := by
  obtain ⟨⟨⟨g1, g2⟩, g3, _⟩, _, _, _, ⟨g6, _⟩, _⟩ := g
  simp only [minB, reachBytes] at g1 g3 g6
  refine rchains_law (by omega) (by omega) (fun j hj => ?_) _ _ _ (by omega)
  have : j.1.size ≤ reachBytes := (g2 j hj).1
  simp only [reachBytes] at this
  omega
end Go.Abs
