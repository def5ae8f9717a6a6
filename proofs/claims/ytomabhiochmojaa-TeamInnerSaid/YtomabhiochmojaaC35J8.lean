/- A part of the proof that the text with the row names: printed readings of functions, or plain lemmas about them. -/
import Derived.Test.YtomabhiochmojaaC35J7
set_option linter.unusedVariables false
set_option linter.unusedSimpArgs false
namespace Go.Abs
open Go
theorem names_robot {js : List JT} {ms : List MT} (h : chkRobot js ms = 0) : ∀ j ∈ js, j.1.size ≤ 2 ^ 60 := by
  obtain ⟨_, _, g3, _⟩ := chkRobot_zero h
  intro j hj
  obtain ⟨i, hi, e⟩ := mem_getD (d := J0) hj
  have hn := (g3 i hi).2.nm
  rw [e] at hn
  unfold nameB at hn
  rw [Bool.and_eq_true, Bool.and_eq_true] at hn
  have := of_decide_eq_true hn.2.1
  omega
theorem rcheck_zero {js : List JT} {ms : List MT} (h : chkRobot js ms = 0) : r6_CheckRobot.F js ms = some 0 := by
  obtain ⟨_, g2, _, g4, _⟩ := chkRobot_zero h
  rw [rrobotCheck_val (by omega) (by omega) (names_robot h), h]
theorem member_val {l : List Int} (v : Int) (hl : l.length ≤ 2 ^ 60) : r6_member.F l v = some (hasB l v) := by
  rw [r6_member.F_eq]
  unfold r6_member.F0 hasB
  have := loop_find (step := r6_member.p0.step) (fun i : Nat => (l, v, (i : Int))) l.length (fun i => bif (fun i => v == l.getD i 0) i then some (.inl true) else none) (.inr ()) (by
    intro i hi
    have hc : (l.getD i 0 == v) = (v == l.getD i 0) := by rw [Bool.eq_iff_iff, beq_iff_eq, beq_iff_eq]; exact eq_comm
    unfold r6_member.p0.step r6_member.p0.round
    simp only []
    simp (disch := omega) only [dif_dec, dif_ndec, bif_eq, bif_neq, bif_ne, bif_nne, w64, wu64, Int.toNat_natCast, Option.bind_some, cond_true, cond_false, Bool.not_true, Bool.not_false, Sum.elim_inl, Sum.elim_inr, hc]
    cases (v == l.getD i 0) <;> rfl) (by
    unfold r6_member.p0.step r6_member.p0.round
    simp only []
    simp (disch := omega) only [dif_dec, dif_ndec, bif_eq, bif_neq, bif_ne, bif_nne, w64, wu64, Int.toNat_natCast, Option.bind_some, cond_true, cond_false, Bool.not_true, Bool.not_false, Sum.elim_inl, Sum.elim_inr]) l.length 0 (by omega)
  rw [show ((0 : Nat) : Int) = 0 from rfl] at this
  rw [this, Option.bind_some, findE_any (P := fun i => v == l.getD i 0) (g := fun _ => .inl true) fun j _ _ => rfl]
  cases anyB (fun i => v == l.getD i 0) 0 l.length <;> rfl
theorem rchain_loop {js : List JT} {ms : List MT} (hd : Down js) (hn : js.length ≤ 10) : ∀ (f : Nat) (k : Int) (out : List Int), -1 ≤ k → k < js.length → k + 1 ≤ f → out.length + f ≤ 100 →
    loopF r6_Chain.p0.step (k, js, ms, out) = some (chainL js f k ++ out)
  | 0, k, out, h1, h2, h3, h4 => by
    obtain rfl : k = -1 := by omega
    refine loop_end ?_
    unfold r6_Chain.p0.step r6_Chain.p0.round
    simp only []
    simp (disch := omega) only [dif_dec, dif_ndec, bif_eq, bif_neq, bif_ne, bif_nne, w64, wu64, Int.toNat_natCast, Option.bind_some, cond_true, cond_false, Bool.not_true, Bool.not_false, Sum.elim_inl, Sum.elim_inr]
    rfl
  | f + 1, k, out, h1, h2, h3, h4 => by
    by_cases h : k = -1
    · rw [chainL, if_pos h]
      refine loop_end ?_
      unfold r6_Chain.p0.step r6_Chain.p0.round
      simp only []
      simp (disch := omega) only [dif_dec, dif_ndec, bif_eq, bif_neq, bif_ne, bif_nne, w64, wu64, Int.toNat_natCast, Option.bind_some, cond_true, cond_false, Bool.not_true, Bool.not_false, Sum.elim_inl, Sum.elim_inr]
      rfl
    · rw [chainL, if_neg h]
      have hp := hd k.toNat (by omega)
      rw [show ((k.toNat : Nat) : Int) = k by omega] at hp
      have := rchain_loop (ms := ms) hd hn f (par_ js k) (k :: out) hp.1 (by omega) (by omega) (by simp only [List.length_cons]; omega)
      rw [List.append_assoc, List.singleton_append, ← this]
      refine loop_next ?_ rfl
      unfold r6_Chain.p0.step r6_Chain.p0.round
      simp only [List.length_cons, List.length_nil]
      simp (disch := omega) only [dif_dec, dif_ndec, bif_eq, bif_neq, bif_ne, bif_nne, w64, wu64, Int.toNat_natCast, Option.bind_some, cond_true, cond_false, Bool.not_true, Bool.not_false, Sum.elim_inl, Sum.elim_inr]
      rfl
theorem rchain_val {js : List JT} {ms : List MT} (h : chkRobot js ms = 0) {k : Int} (hk : linkB js.length k = true) : r6_Chain.F js ms k = some (chainL js 11 k) := by
  obtain ⟨h1, h2, _, _⟩ := chkRobot_zero h
  obtain ⟨h3, h4⟩ := linkB_iff.1 hk
  rw [r6_Chain.F_eq]
  unfold r6_Chain.F0
  rw [rcheck_zero h, Option.bind_some, bif_nne rfl, isLink_val, hk, Option.bind_some, Bool.not_true, cond_false, rchain_loop (down_of h) h2 11 k [] h3 h4 (by omega) (by simp), List.append_nil]
  rfl
theorem rbtw_loop {js : List JT} {ms : List MT} {a b : Int} (hn : js.length ≤ 10) : ∀ (k i : Nat) (out : List Int), i + k = js.length → out.length ≤ i →
    loopF r6_Between.p0.step ((i : Int), js, ms, chainL js 11 a, chainL js 11 b, out) = some (out ++ btwL js a b i k)
  | 0, i, out, h, ho => by
    refine loop_end ?_
    unfold r6_Between.p0.step r6_Between.p0.round
    simp only []
    simp (disch := omega) only [dif_dec, dif_ndec, bif_eq, bif_neq, bif_ne, bif_nne, w64, wu64, Int.toNat_natCast, Option.bind_some, cond_true, cond_false, Bool.not_true, Bool.not_false, Sum.elim_inl, Sum.elim_inr]
    simp [btwL]
  | k + 1, i, out, h, ho => by
    have c1 := chainL_length js 11 a
    have c2 := chainL_length js 11 b
    rw [btwL]
    cases hb : (hasB (chainL js 11 a) (i : Int) == hasB (chainL js 11 b) (i : Int)) with
    | true =>
      rw [if_pos rfl, List.nil_append, ← rbtw_loop hn k (i + 1) out (by omega) (by omega)]
      refine loop_next ?_ rfl
      unfold r6_Between.p0.step r6_Between.p0.round
      simp only []
      simp (disch := omega) only [dif_dec, dif_ndec, bif_eq, bif_neq, bif_ne, bif_nne, w64, wu64, Int.toNat_natCast, Option.bind_some, cond_true, cond_false, Bool.not_true, Bool.not_false, Sum.elim_inl, Sum.elim_inr, member_val (l := chainL js 11 a) (i : Int) (by omega), member_val (l := chainL js 11 b) (i : Int) (by omega), hb]
      rfl
    | false =>
      rw [if_neg (by simp), ← List.append_assoc, ← rbtw_loop hn k (i + 1) (out ++ [(i : Int)]) (by omega) (by simp; omega)]
      refine loop_next ?_ rfl
      unfold r6_Between.p0.step r6_Between.p0.round
      simp only [List.length_cons, List.length_nil]
      simp (disch := omega) only [dif_dec, dif_ndec, bif_eq, bif_neq, bif_ne, bif_nne, w64, wu64, Int.toNat_natCast, Option.bind_some, cond_true, cond_false, Bool.not_true, Bool.not_false, Sum.elim_inl, Sum.elim_inr, member_val (l := chainL js 11 a) (i : Int) (by omega), member_val (l := chainL js 11 b) (i : Int) (by omega), hb]
      rfl
theorem rbetween_val' {js : List JT} {ms : List MT} (h : chkRobot js ms = 0) {a b : Int} (ha : linkB js.length a = true) (hb : linkB js.length b = true) : r6_Between.F js ms a b = some (btwL js a b 0 js.length) := by
  obtain ⟨h1, h2, _, _⟩ := chkRobot_zero h
  rw [r6_Between.F_eq]
  unfold r6_Between.F0
  rw [rcheck_zero h, Option.bind_some, bif_nne rfl, isLink_val, ha, Option.bind_some, Bool.not_true, cond_false, isLink_val, hb, Option.bind_some, Bool.not_true, cond_false, rchain_val h ha, Option.bind_some, rchain_val h hb, Option.bind_some]
  have := rbtw_loop (js := js) (ms := ms) (a := a) (b := b) h2 js.length 0 [] (by omega) (by simp)
  rw [show ((0 : Nat) : Int) = 0 from rfl] at this
  rw [this]
  rfl
theorem rrigid_val {js : List JT} {ms : List MT} (h : chkRobot js ms = 0) (a b : Int) : r6_Rigid.F js ms a b = some (rigidB js a b) := by
  obtain ⟨h1, h2, _, _⟩ := chkRobot_zero h
  rw [r6_Rigid.F_eq]
  unfold r6_Rigid.F0 rigidB
  rw [rcheck_zero h, Option.bind_some, bif_nne rfl, isLink_val, Option.bind_some]
  cases ha : linkB js.length a with
  | false => rfl
  | true =>
    rw [Bool.not_true, cond_false, isLink_val, Option.bind_some]
    cases hb : linkB js.length b with
    | false => rfl
    | true =>
      have hl := btwL_length (js := js) (a := a) (b := b) (k := js.length) (i := 0)
      rw [Bool.not_true, cond_false, rbetween_val' h ha hb, Option.bind_some, Bool.true_and, Bool.true_and]
      have hm : ∀ x ∈ btwL js a b 0 js.length, 0 ≤ x ∧ x < (js.length : Int) := fun x hx => by have := btwL_mem hx; omega
      generalize btwL js a b 0 js.length = l at *
      have := loop_find (step := r6_Rigid.p0.step) (fun i : Nat => ((i : Int), js, ms, l)) l.length (fun i => bif decide (lo__ js (l.getD i 0) < hi__ js (l.getD i 0)) then some (.inl false) else none) (.inr ()) (by
        intro i hi
        obtain ⟨m1, m2⟩ := hm _ (getD_mem (d := 0) hi)
        unfold r6_Rigid.p0.step r6_Rigid.p0.round lo__ hi__
        simp only []
        simp (disch := omega) only [dif_dec, dif_ndec, bif_eq, bif_neq, bif_ne, bif_nne, w64, wu64, Int.toNat_natCast, Option.bind_some, cond_true, cond_false, Bool.not_true, Bool.not_false, Sum.elim_inl, Sum.elim_inr]
        generalize decide ((js.getD (l.getD i 0).toNat J0).2.2.2.2.1 < (js.getD (l.getD i 0).toNat J0).2.2.2.2.2.1) = c
        cases c <;> rfl) (by
        unfold r6_Rigid.p0.step r6_Rigid.p0.round
        simp only []
        simp (disch := omega) only [dif_dec, dif_ndec, bif_eq, bif_neq, bif_ne, bif_nne, w64, wu64, Int.toNat_natCast, Option.bind_some, cond_true, cond_false, Bool.not_true, Bool.not_false, Sum.elim_inl, Sum.elim_inr]) l.length 0 (by omega)
      rw [show ((0 : Nat) : Int) = 0 from rfl] at this
      rw [this, Option.bind_some, findE_any (P := fun i => decide (lo__ js (l.getD i 0) < hi__ js (l.getD i 0))) (g := fun _ => .inl false) fun j _ _ => rfl]
      show Sum.elim _ _ (bif movB js l then _ else _) = _
      cases movB js l <;> rfl
theorem rskipped_val {js : List JT} {ms : List MT} {sh : List ShT} {sk : List SkT} (a b : Int) (hl : sk.length ≤ 2 ^ 60) : r6_Skipped.F js ms sh sk a b = some (skipB sk a b) := by
  rw [r6_Skipped.F_eq]
  unfold r6_Skipped.F0
  have := loop_find (step := r6_Skipped.p0.step) (fun i : Nat => (a, b, (i : Int), js, ms, sh, sk)) sk.length (fun i => bif skipOne (sk.getD i (0, 0)) a b then some (.inl true) else none) (.inr ()) (by
    intro i hi
    unfold r6_Skipped.p0.step r6_Skipped.p0.round skipOne
    simp only []
    simp (disch := omega) only [dif_dec, dif_ndec, bif_eq, bif_neq, bif_ne, bif_nne, w64, wu64, Int.toNat_natCast, Option.bind_some, cond_true, cond_false, Bool.not_true, Bool.not_false, Sum.elim_inl, Sum.elim_inr]
    cases ((sk.getD i (0, 0)).1 == a) <;> cases ((sk.getD i (0, 0)).2 == b) <;> cases ((sk.getD i (0, 0)).1 == b) <;> cases ((sk.getD i (0, 0)).2 == a) <;> rfl) (by
    unfold r6_Skipped.p0.step r6_Skipped.p0.round
    simp only []
    simp (disch := omega) only [dif_dec, dif_ndec, bif_eq, bif_neq, bif_ne, bif_nne, w64, wu64, Int.toNat_natCast, Option.bind_some, cond_true, cond_false, Bool.not_true, Bool.not_false, Sum.elim_inl, Sum.elim_inr]) sk.length 0 (by omega)
  rw [show ((0 : Nat) : Int) = 0 from rfl] at this
  rw [this, Option.bind_some, findE_any (P := fun i => skipOne (sk.getD i (0, 0)) a b) (g := fun _ => .inl true) fun j _ _ => rfl]
  show Sum.elim _ _ (bif skipB sk a b then _ else _) = _
  cases skipB sk a b <;> rfl
theorem rpairs_row {js : List JT} {ms : List MT} {sh : List ShT} {sk : List SkT} (h : chkRobot js ms = 0) (hs : sh.length ≤ 24) (hk : sk.length ≤ 64) (i : Nat) (hi : i < sh.length) : ∀ (m k : Nat) (out : List SkT), k + m = sh.length → out.length ≤ 1000 + k →
    loopF r6_Pairs.p1.step ((i : Int), (k : Int), js, ms, sh, sk, out) = some ((i : Int), js, ms, sh, sk, out ++ rowP (keepB js sh sk) i k m)
  | 0, k, out, hm, ho => by
    refine loop_end ?_
    unfold r6_Pairs.p1.step r6_Pairs.p1.round
    simp only []
    simp (disch := omega) only [dif_dec, dif_ndec, bif_eq, bif_neq, bif_ne, bif_nne, w64, wu64, Int.toNat_natCast, Option.bind_some, cond_true, cond_false, Bool.not_true, Bool.not_false, Sum.elim_inl, Sum.elim_inr]
    simp [rowP]
  | m + 1, k, out, hm, ho => by
    have ha : (sh.getD i Sh0).1 = lk sh i := rfl
    have hb' : (sh.getD k Sh0).1 = lk sh k := rfl
    have hst : r6_Pairs.p1.step ((i : Int), (k : Int), js, ms, sh, sk, out) = some (.inl ((i : Int), ((k + 1 : Nat) : Int), js, ms, sh, sk, (if keepB js sh sk i k then out ++ [((i : Int), (k : Int))] else out))) := by
      unfold r6_Pairs.p1.step r6_Pairs.p1.round
      simp only [List.length_cons, List.length_nil]
      simp (disch := omega) only [dif_dec, dif_ndec, bif_eq, bif_neq, bif_ne, bif_nne, w64, wu64, Int.toNat_natCast, Option.bind_some, cond_true, cond_false, Bool.not_true, Bool.not_false, Sum.elim_inl, Sum.elim_inr, rskipped_val (js := js) (ms := ms) (sh := sh) (sk := sk) _ _ (show sk.length ≤ 2 ^ 60 by omega), rrigid_val h]
      simp only [ha, hb']
      unfold keepB
      cases (lk sh i != lk sh k) <;> cases skipB sk (lk sh i) (lk sh k) <;> cases rigidB js (lk sh i) (lk sh k) <;> rfl
    rw [rowP]
    cases hb : keepB js sh sk i k with
    | true =>
      rw [hb] at hst
      rw [if_pos rfl, ← List.append_assoc, loop_next hst (rpairs_row h hs hk i hi m (k + 1) (out ++ [((i : Int), (k : Int))]) (by omega) (by simp; omega))]
    | false =>
      rw [hb] at hst
      rw [if_neg (by simp), List.nil_append, loop_next hst (rpairs_row h hs hk i hi m (k + 1) out (by omega) (by omega))]
theorem rpairs_all {js : List JT} {ms : List MT} {sh : List ShT} {sk : List SkT} (h : chkRobot js ms = 0) (hs : sh.length ≤ 24) (hk : sk.length ≤ 64) : ∀ (m i : Nat) (out : List SkT), i + m = sh.length → out.length ≤ 30 * i →
    loopF r6_Pairs.p0.step ((i : Int), js, ms, sh, sk, out) = some (out ++ allP (keepB js sh sk) sh.length i m)
  | 0, i, out, hm, ho => by
    refine loop_end ?_
    unfold r6_Pairs.p0.step r6_Pairs.p0.round
    simp only []
    simp (disch := omega) only [dif_dec, dif_ndec, bif_eq, bif_neq, bif_ne, bif_nne, w64, wu64, Int.toNat_natCast, Option.bind_some, cond_true, cond_false, Bool.not_true, Bool.not_false, Sum.elim_inl, Sum.elim_inr]
    simp [allP]
  | m + 1, i, out, hm, ho => by
    have hr := rpairs_row h hs hk i (by omega) (sh.length - (i + 1)) (i + 1) out (by omega) (by omega)
    have hl := rowP_length (P := keepB js sh sk) (i := i) (m := sh.length - (i + 1)) (k := i + 1)
    rw [allP, ← List.append_assoc]
    refine loop_next ?_ (rpairs_all h hs hk m (i + 1) _ (by omega) (by rw [List.length_append]; omega))
    unfold r6_Pairs.p0.step r6_Pairs.p0.round
    simp only []
    rw [dif_dec (by omega), w64 (n := (i : Int) + 1) (by omega) (by omega), show ((i : Int) + 1) = ((i + 1 : Nat) : Int) by push_cast; rfl, hr]
    simp only [Option.bind_some]
    rw [w64 (n := (i : Int) + 1) (by omega) (by omega)]
    rfl
theorem rpairs_val {js : List JT} {ms : List MT} {sh : List ShT} {sk : List SkT} (h : chkScene js ms sh sk = 0) : r6_Pairs.F js ms sh sk = some (allP (keepB js sh sk) sh.length 0 sh.length) := by
  obtain ⟨h1, h2, _, h4, _⟩ := chkScene_zero h
  obtain ⟨g1, g2, _, g4, _⟩ := chkRobot_zero h1
  rw [r6_Pairs.F_eq]
  unfold r6_Pairs.F0
  rw [rsceneCheck_val (by omega) (by omega) (by omega) (by omega) (names_robot h1), Option.bind_some, h, bif_nne rfl]
  have := rpairs_all h1 h2 h4 sh.length 0 [] (by omega) (by simp)
  rw [show ((0 : Nat) : Int) = 0 from rfl] at this
  rw [this]
  rfl

theorem findE_hit {O : Type} {P : Nat → Bool} {f : Nat → O} {no : O} : ∀ {k i : Nat}, (∃ j, i ≤ j ∧ j < i + k ∧ P j = true) → ∃ j, i ≤ j ∧ j < i + k ∧ P j = true ∧ findE (fun i => bif P i then some (f i) else none) no i k = f j
  | 0, i, ⟨j, h1, h2, _⟩ => by omega
  | k + 1, i, ⟨j, h1, h2, h3⟩ => by
    simp only [findE]
    cases hp : P i with
    | true => exact ⟨i, Nat.le_refl _, by omega, hp, by simp⟩
    | false =>
      have hne : j ≠ i := by intro e; rw [e, hp] at h3; cases h3
      obtain ⟨j', q1, q2, q3, q4⟩ := findE_hit (f := f) (no := no) (k := k) (i := i + 1) ⟨j, by omega, by omega, h3⟩
      exact ⟨j', by omega, by omega, q3, by simpa using q4⟩
theorem index_val {l : List SkT} {p : SkT} (h : p ∈ l) (hl : l.length ≤ 2 ^ 60) : ∃ i, i < l.length ∧ l.getD i (0, 0) = p ∧ slices_Index_Pair.F l p.1 p.2 = some (i : Int) := by
  rw [slices_Index_Pair.F_eq]
  unfold slices_Index_Pair.F0
  have := loop_find (step := slices_Index_Pair.p0.step) (fun i : Nat => (l, (l.length : Int), (i : Int), p.1, p.2)) l.length (fun i => bif (fun i => (p.1 == (l.getD i (0, 0)).1) && (p.2 == (l.getD i (0, 0)).2)) i then some (.inl (i : Int)) else none) (.inr ()) (by
    intro i hi
    unfold slices_Index_Pair.p0.step slices_Index_Pair.p0.round
    simp only [Bool.and_true]
    simp (disch := omega) only [dif_dec, dif_ndec, bif_eq, bif_neq, bif_ne, bif_nne, w64, wu64, Int.toNat_natCast, Option.bind_some, cond_true, cond_false, Bool.not_true, Bool.not_false, Sum.elim_inl, Sum.elim_inr]
    cases ((p.1 == (l.getD i (0, 0)).1) && (p.2 == (l.getD i (0, 0)).2)) <;> rfl) (by
    unfold slices_Index_Pair.p0.step slices_Index_Pair.p0.round
    simp only []
    simp (disch := omega) only [dif_dec, dif_ndec, bif_eq, bif_neq, bif_ne, bif_nne, w64, wu64, Int.toNat_natCast, Option.bind_some, cond_true, cond_false, Bool.not_true, Bool.not_false, Sum.elim_inl, Sum.elim_inr]) l.length 0 (by omega)
  rw [show ((0 : Nat) : Int) = 0 from rfl] at this
  obtain ⟨j, hj, e⟩ := mem_getD (d := ((0 : Int), (0 : Int))) h
  obtain ⟨i, _, q2, q3, q4⟩ := findE_hit (P := fun i => (p.1 == (l.getD i (0, 0)).1) && (p.2 == (l.getD i (0, 0)).2)) (f := fun i => (.inl (i : Int) : Int ⊕ Unit)) (no := .inr ()) (k := l.length) (i := 0) ⟨j, Nat.zero_le _, by omega, by rw [e]; simp⟩
  rw [this, Option.bind_some, q4]
  rw [Bool.and_eq_true, beq_iff_eq, beq_iff_eq] at q3
  exact ⟨i, by omega, (Prod.ext q3.1 q3.2).symm, rfl⟩
end Go.Abs
