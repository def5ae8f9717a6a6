/- A part of the proof that the text with the row names: printed readings of functions, or plain lemmas about them. -/
import Derived.Test.YtceacicpjgffgaaC41M0
set_option linter.unusedVariables false
set_option linter.unusedSimpArgs false
namespace Go.Abs
open Go
theorem mul_bd {a b : Int} (h1 : -1073741824 ≤ a) (h2 : a ≤ 1073741824) (h3 : -1073741824 ≤ b) (h4 : b ≤ 1073741824) : -1152921504606846976 ≤ a * b ∧ a * b ≤ 1152921504606846976 := by
  have h : (a * b).natAbs ≤ 1073741824 * 1073741824 := by
    rw [Int.natAbs_mul]
    exact Nat.mul_le_mul (by omega) (by omega)
  omega
theorem within_val {a m : Int} (h0 : 0 ≤ m) (h1 : m ≤ 2 ^ 62) : profile_within.F a m = some (decide (-m ≤ a) && decide (a ≤ m)) := by
  rw [profile_within.F_eq]
  unfold profile_within.F0
  rw [w64 (by omega) (by omega), show (0 : Int) - m = -m by omega]
  cases decide (-m ≤ a) <;> rfl
theorem inRange_val (r : RT) : profile_inRange.F r.1 r.2.1 r.2.2.1 r.2.2.2 = some (formB r) := by
  rw [profile_inRange.F_eq]
  unfold profile_inRange.F0
  rw [within_val (by omega) (by omega), Option.bind_some, within_val (by omega) (by omega), within_val (by omega) (by omega)]
  unfold formB
  by_cases h1 : -1073741824 ≤ r.2.1 <;> by_cases h2 : r.2.1 ≤ 1073741824 <;> by_cases h3 : -1073741824 ≤ r.2.2.1 <;> by_cases h4 : r.2.2.1 ≤ 1073741824 <;> by_cases h5 : -1152921504606846976 ≤ r.2.2.2 <;> by_cases h6 : r.2.2.2 ≤ 1152921504606846976 <;> simp [h1, h2, h3, h4, h5, h6]
theorem formed_val (r : RT) : armplanref40_formedRow.F r.1 r.2.1 r.2.2.1 r.2.2.2 = some (formB r) := by
  rw [armplanref40_formedRow.F_eq]
  unfold armplanref40_formedRow.F0 formB
  by_cases h1 : -1073741824 ≤ r.2.1 <;> by_cases h2 : r.2.1 ≤ 1073741824 <;> by_cases h3 : -1073741824 ≤ r.2.2.1 <;> by_cases h4 : r.2.2.1 ≤ 1073741824 <;> by_cases h5 : -1152921504606846976 ≤ r.2.2.2 <;> by_cases h6 : r.2.2.2 ≤ 1152921504606846976 <;> simp [h1, h2, h3, h4, h5, h6]
theorem find_any {S : Type} (P : Nat → Bool) (x : S) : ∀ (k i : Nat), ∃ v : Int, Sum.elim (fun y4 => some (y4.1, y4.2)) (fun z5 => some (-1, z5)) (findE (fun i => bif P i then some (.inl ((i : Int), x)) else none) (.inr x : (Int × S) ⊕ S) i k) = some (v, x) ∧ decide (v ≥ 0) = anyB P i k
  | 0, i => ⟨-1, rfl, rfl⟩
  | k + 1, i => by
    simp only [findE, anyB]
    cases hb : P i with
    | true => exact ⟨i, rfl, by simp⟩
    | false =>
      obtain ⟨v, h1, h2⟩ := find_any P x k (i + 1)
      exact ⟨v, h1, by rw [h2]; rfl⟩
theorem idx_any (P : Nat → Bool) : ∀ (k i : Nat), ∃ v : Int, Sum.elim (fun y4 => some y4) (fun _ => some (-1 : Int)) (findE (fun i => bif P i then some (.inl (i : Int)) else none) (.inr () : Int ⊕ Unit) i k) = some v ∧ decide (v ≥ 0) = anyB P i k
  | 0, i => ⟨-1, rfl, rfl⟩
  | k + 1, i => by
    simp only [findE, anyB]
    cases hb : P i with
    | true => exact ⟨i, rfl, by simp⟩
    | false =>
      obtain ⟨v, h1, h2⟩ := idx_any P k (i + 1)
      exact ⟨v, h1, by rw [h2]; rfl⟩
theorem anyB_congr {P Q : Nat → Bool} : ∀ {k i : Nat}, (∀ j, i ≤ j → j < i + k → P j = Q j) → anyB P i k = anyB Q i k
  | 0, i, h => rfl
  | k + 1, i, h => by
    rw [anyB, anyB, h i (Nat.le_refl _) (by omega), anyB_congr (k := k) (i := i + 1) fun j h1 h2 => h j (by omega) (by omega)]
theorem any_not {P : Nat → Bool} : ∀ {k i : Nat}, anyB (fun j => !P j) i k = !allB P i k
  | 0, i => rfl
  | k + 1, i => by rw [anyB, allB, any_not]; cases P i <;> rfl

/-! ### Least and greatest -/
def foldLo (l : List Int) : Nat → Int
  | 0 => l.getD 0 0
  | i + 1 => bif decide (l.getD (i + 1) 0 < foldLo l i) then l.getD (i + 1) 0 else foldLo l i
def foldHi (l : List Int) : Nat → Int
  | 0 => l.getD 0 0
  | i + 1 => bif decide (l.getD (i + 1) 0 > foldHi l i) then l.getD (i + 1) 0 else foldHi l i
theorem foldLo_any (l : List Int) (c : Int) : ∀ i, decide (foldLo l i < c) = anyB (fun j => decide (l.getD j 0 < c)) 0 (i + 1) := by
  intro i
  rw [Bool.eq_iff_iff, decide_eq_true_eq, anyB_iff]
  induction i with
  | zero =>
    rw [foldLo]
    exact ⟨fun h => ⟨0, Nat.le_refl _, by omega, decide_eq_true h⟩, fun ⟨j, _, h2, h3⟩ => by obtain rfl : j = 0 := (by omega); exact of_decide_eq_true h3⟩
  | succ i ih =>
    rw [foldLo]
    constructor
    · intro h
      by_cases c1 : l.getD (i + 1) 0 < foldLo l i
      · rw [decide_eq_true c1, cond_true] at h
        exact ⟨i + 1, Nat.zero_le _, by omega, decide_eq_true h⟩
      · rw [decide_eq_false c1, cond_false] at h
        obtain ⟨j, h1, h2, h3⟩ := ih.1 h
        exact ⟨j, h1, by omega, h3⟩
    · rintro ⟨j, h1, h2, h3⟩
      have h3 := of_decide_eq_true h3
      by_cases c1 : l.getD (i + 1) 0 < foldLo l i
      · rw [decide_eq_true c1, cond_true]
        by_cases e : j = i + 1
        · rw [e] at h3; exact h3
        · have := ih.2 ⟨j, h1, by omega, decide_eq_true h3⟩
          omega
      · rw [decide_eq_false c1, cond_false]
        by_cases e : j = i + 1
        · rw [e] at h3; omega
        · exact ih.2 ⟨j, h1, by omega, decide_eq_true h3⟩
theorem foldHi_any (l : List Int) (c : Int) : ∀ i, decide (foldHi l i > c) = anyB (fun j => decide (l.getD j 0 > c)) 0 (i + 1) := by
  intro i
  rw [Bool.eq_iff_iff, decide_eq_true_eq, anyB_iff]
  induction i with
  | zero =>
    rw [foldHi]
    exact ⟨fun h => ⟨0, Nat.le_refl _, by omega, decide_eq_true h⟩, fun ⟨j, _, h2, h3⟩ => by obtain rfl : j = 0 := (by omega); exact of_decide_eq_true h3⟩
  | succ i ih =>
    rw [foldHi]
    constructor
    · intro h
      by_cases c1 : l.getD (i + 1) 0 > foldHi l i
      · rw [decide_eq_true c1, cond_true] at h
        exact ⟨i + 1, Nat.zero_le _, by omega, decide_eq_true h⟩
      · rw [decide_eq_false c1, cond_false] at h
        obtain ⟨j, h1, h2, h3⟩ := ih.1 h
        exact ⟨j, h1, by omega, h3⟩
    · rintro ⟨j, h1, h2, h3⟩
      have h3 := of_decide_eq_true h3
      by_cases c1 : l.getD (i + 1) 0 > foldHi l i
      · rw [decide_eq_true c1, cond_true]
        by_cases e : j = i + 1
        · rw [e] at h3; exact h3
        · have := ih.2 ⟨j, h1, by omega, decide_eq_true h3⟩
          omega
      · rw [decide_eq_false c1, cond_false]
        by_cases e : j = i + 1
        · rw [e] at h3; omega
        · exact ih.2 ⟨j, h1, by omega, decide_eq_true h3⟩
theorem min_val {l : List Int} (h1 : 1 ≤ l.length) (hl : l.length ≤ 2 ^ 60) : ∃ m, slices_Min_int64.F l = some m ∧ ∀ c, decide (m < c) = anyB (fun j => decide (l.getD j 0 < c)) 0 l.length := by
  refine ⟨foldLo l (l.length - 1), ?_, fun c => by rw [foldLo_any, show l.length - 1 + 1 = l.length by omega]⟩
  rw [slices_Min_int64.F_eq]
  unfold slices_Min_int64.F0
  rw [dif_ndec (by omega), dif_dec (by omega)]
  have := loop_count (step := slices_Min_int64.p0.step) (fun i : Nat => (l, foldLo l i, ((i : Int) + 1))) (l.length - 1) (foldLo l (l.length - 1)) (by
    intro i hi
    unfold slices_Min_int64.p0.step slices_Min_int64.p0.round
    simp only []
    rw [show ((i : Int) + 1) = ((i + 1 : Nat) : Int) by push_cast; rfl]
    simp (disch := omega) only [dif_dec, dif_ndec, bif_eq, bif_neq, bif_ne, bif_nne, w64, wu64, Int.toNat_natCast, Option.bind_some, cond_true, cond_false, Bool.not_true, Bool.not_false, Sum.elim_inl, Sum.elim_inr]
    rfl) (by
    unfold slices_Min_int64.p0.step slices_Min_int64.p0.round
    simp only []
    simp (disch := omega) only [dif_dec, dif_ndec, bif_eq, bif_neq, bif_ne, bif_nne, w64, wu64, Int.toNat_natCast, Option.bind_some, cond_true, cond_false, Bool.not_true, Bool.not_false, Sum.elim_inl, Sum.elim_inr]) (l.length - 1) 0 (by omega)
  rw [show ((0 : Nat) : Int) + 1 = 1 from rfl] at this
  rw [show l.getD 0 0 = foldLo l 0 from rfl, this]
  rfl
theorem max_val {l : List Int} (h1 : 1 ≤ l.length) (hl : l.length ≤ 2 ^ 60) : ∃ m, slices_Max_int64.F l = some m ∧ ∀ c, decide (m > c) = anyB (fun j => decide (l.getD j 0 > c)) 0 l.length := by
  refine ⟨foldHi l (l.length - 1), ?_, fun c => by rw [foldHi_any, show l.length - 1 + 1 = l.length by omega]⟩
  rw [slices_Max_int64.F_eq]
  unfold slices_Max_int64.F0
  rw [dif_ndec (by omega), dif_dec (by omega)]
  have := loop_count (step := slices_Max_int64.p0.step) (fun i : Nat => (l, foldHi l i, ((i : Int) + 1))) (l.length - 1) (foldHi l (l.length - 1)) (by
    intro i hi
    unfold slices_Max_int64.p0.step slices_Max_int64.p0.round
    simp only []
    rw [show ((i : Int) + 1) = ((i + 1 : Nat) : Int) by push_cast; rfl]
    simp (disch := omega) only [dif_dec, dif_ndec, bif_eq, bif_neq, bif_ne, bif_nne, w64, wu64, Int.toNat_natCast, Option.bind_some, cond_true, cond_false, Bool.not_true, Bool.not_false, Sum.elim_inl, Sum.elim_inr]
    rfl) (by
    unfold slices_Max_int64.p0.step slices_Max_int64.p0.round
    simp only []
    simp (disch := omega) only [dif_dec, dif_ndec, bif_eq, bif_neq, bif_ne, bif_nne, w64, wu64, Int.toNat_natCast, Option.bind_some, cond_true, cond_false, Bool.not_true, Bool.not_false, Sum.elim_inl, Sum.elim_inr]) (l.length - 1) 0 (by omega)
  rw [show ((0 : Nat) : Int) + 1 = 1 from rfl] at this
  rw [show l.getD 0 0 = foldHi l 0 from rfl, this]
  rfl

/-! ### Valid -/
theorem valid1_val {top : List Int} (h1 : 2 ≤ top.length) (hl : top.length ≤ 2 ^ 60) (r : RT) : profile_Valid_1.F r.1 r.2.1 r.2.2.1 r.2.2.2 top = some (!rowB top.length r, top) := by
  rw [profile_Valid_1.F_eq]
  unfold profile_Valid_1.F0 rowB
  rw [inRange_val]
  by_cases a : r.1 < 0
  · rw [dif_dec a, decide_eq_false (show ¬ (0 ≤ r.1 ∧ r.1 ≤ (top.length : Int) - 2) by omega), Bool.false_and, Bool.and_false]; rfl
  · rw [dif_ndec a, w64 (by omega) (by omega)]
    by_cases b : r.1 > (top.length : Int) - 2
    · rw [dif_dec b, decide_eq_false (show ¬ (0 ≤ r.1 ∧ r.1 ≤ (top.length : Int) - 2) by omega), Bool.false_and, Bool.and_false]; rfl
    · rw [dif_ndec b, decide_eq_true (show 0 ≤ r.1 ∧ r.1 ≤ (top.length : Int) - 2 by omega), Bool.true_and, Option.bind_some]
      cases formB r with
      | false => rfl
      | true =>
        by_cases c1 : 0 < r.2.1 <;> by_cases c2 : 0 < r.2.2.1 <;> simp [c1, c2]
theorem containsV_val {top : List Int} {rows : List RT} (h1 : 2 ≤ top.length) (hl : top.length ≤ 2 ^ 60) (hr : rows.length ≤ 2 ^ 60) : slices_ContainsFunc_Row__profile_Valid_1.F rows top = some (!allB (fun k => rowB top.length (rows.getD k R0)) 0 rows.length, top) := by
  rw [slices_ContainsFunc_Row__profile_Valid_1.F_eq]
  unfold slices_ContainsFunc_Row__profile_Valid_1.F0
  rw [slices_IndexFunc_Row__profile_Valid_1.F_eq]
  unfold slices_IndexFunc_Row__profile_Valid_1.F0
  have h := loop_find (step := slices_IndexFunc_Row__profile_Valid_1.p0.step) (fun i : Nat => (rows, (rows.length : Int), (i : Int), top)) rows.length (fun i => bif (fun k => !rowB top.length (rows.getD k R0)) i then some (.inl ((i : Int), top)) else none) (.inr top) (by
    intro i hi
    unfold slices_IndexFunc_Row__profile_Valid_1.p0.step slices_IndexFunc_Row__profile_Valid_1.p0.round
    simp only []
    simp (disch := omega) only [dif_dec, dif_ndec, bif_eq, bif_neq, bif_ne, bif_nne, w64, wu64, Int.toNat_natCast, Option.bind_some, cond_true, cond_false, Bool.not_true, Bool.not_false, Sum.elim_inl, Sum.elim_inr, valid1_val h1 hl]
    cases rowB top.length (rows.getD i R0) <;> rfl) (by
    unfold slices_IndexFunc_Row__profile_Valid_1.p0.step slices_IndexFunc_Row__profile_Valid_1.p0.round
    simp only []
    simp (disch := omega) only [dif_dec, dif_ndec, bif_eq, bif_neq, bif_ne, bif_nne, w64, wu64, Int.toNat_natCast, Option.bind_some, cond_true, cond_false, Bool.not_true, Bool.not_false, Sum.elim_inl, Sum.elim_inr]) rows.length 0 (by omega)
  rw [show ((0 : Nat) : Int) = 0 from rfl] at h
  obtain ⟨v, e1, e2⟩ := find_any (fun k => !rowB top.length (rows.getD k R0)) top rows.length 0
  rw [h, Option.bind_some, e1]
  simp only [Option.bind_some, e2, any_not]
theorem lo_hi_top (top : List Int) : (!anyB (fun j => decide (top.getD j 0 < 0)) 0 top.length && !anyB (fun j => decide (top.getD j 0 > 4096)) 0 top.length) = allB (fun i => topB (top.getD i 0)) 0 top.length := by
  rw [Bool.eq_iff_iff, Bool.and_eq_true, Bool.not_eq_true', Bool.not_eq_true', allB_iff]
  unfold topB
  constructor
  · rintro ⟨h1, h2⟩ j h3 h4
    have n1 : ¬ top.getD j 0 < 0 := fun h => by
      have := anyB_iff (P := fun j => decide (top.getD j 0 < 0)).2 ⟨j, h3, h4, decide_eq_true h⟩
      rw [h1] at this; cases this
    have n2 : ¬ top.getD j 0 > 4096 := fun h => by
      have := anyB_iff (P := fun j => decide (top.getD j 0 > 4096)).2 ⟨j, h3, h4, decide_eq_true h⟩
      rw [h2] at this; cases this
    exact decide_eq_true (by omega)
  · intro h
    constructor
    · cases hb : anyB (fun j => decide (top.getD j 0 < 0)) 0 top.length with
      | false => rfl
      | true =>
        obtain ⟨j, h1, h2, h3⟩ := anyB_iff.1 hb
        have a := of_decide_eq_true h3
        have b := of_decide_eq_true (h j h1 h2)
        omega
    · cases hb : anyB (fun j => decide (top.getD j 0 > 4096)) 0 top.length with
      | false => rfl
      | true =>
        obtain ⟨j, h1, h2, h3⟩ := anyB_iff.1 hb
        have a := of_decide_eq_true h3
        have b := of_decide_eq_true (h j h1 h2)
        omega
theorem valid_val (top : List Int) (rows : List RT) : profile_Valid.F top rows = some (validB top rows) := by
  rw [profile_Valid.F_eq]
  unfold profile_Valid.F0 validB
  by_cases a : (top.length : Int) < 2
  · rw [dif_dec a, decide_eq_false (by omega)]; rfl
  · rw [dif_ndec a]
    by_cases b : (top.length : Int) > 65
    · rw [dif_dec b, decide_eq_false (by omega)]; rfl
    · rw [dif_ndec b]
      by_cases c : (rows.length : Int) > 16384
      · rw [dif_dec c, decide_eq_false (by omega)]; rfl
      · rw [dif_ndec c, decide_eq_true (by omega), Bool.true_and]
        obtain ⟨m, h1, h2⟩ := min_val (l := top) (by omega) (by omega)
        obtain ⟨m', h3, h4⟩ := max_val (l := top) (by omega) (by omega)
        rw [h1, Option.bind_some, h2, h3, Option.bind_some, h4, containsV_val (by omega) (by omega) (by omega), ← lo_hi_top]
        simp only [Option.bind_some, Bool.not_not]
        cases anyB (fun j => decide (top.getD j 0 < 0)) 0 top.length <;> cases anyB (fun j => decide (top.getD j 0 > 4096)) 0 top.length <;> rfl
theorem findE_all {O : Type} {P : Nat → Bool} {E : Nat → Option O} {no yes : O} : ∀ {k i : Nat}, (∀ j, i ≤ j → j < i + k → E j = (bif P j then none else some no)) → findE E yes i k = (bif allB P i k then yes else no)
  | 0, i, h => rfl
  | k + 1, i, h => by
    have e := h i (Nat.le_refl _) (by omega)
    simp only [findE, allB]
    cases hp : P i with
    | true =>
      rw [hp] at e
      rw [e]
      exact findE_all fun j h1 h2 => h j (by omega) (by omega)
    | false =>
      rw [hp] at e
      rw [e]
      rfl
theorem row_if {α : Type} (n : Nat) (r : RT) (no yes : α) : (bif decide (r.1 < 0) then no else bif decide (r.1 > (n : Int) - 2) then no else bif decide (r.2.1 > 0) then bif decide (r.2.2.1 > 0) then no else yes else yes) = bif (decide (0 ≤ r.1 ∧ r.1 ≤ (n : Int) - 2) && !(decide (0 < r.2.1) && decide (0 < r.2.2.1))) then yes else no := by
  by_cases q1 : r.1 < 0
  · rw [dif_dec q1, decide_eq_false (show ¬ (0 ≤ r.1 ∧ r.1 ≤ (n : Int) - 2) by omega)]; rfl
  · rw [dif_ndec q1]
    by_cases q2 : r.1 > (n : Int) - 2
    · rw [dif_dec q2, decide_eq_false (show ¬ (0 ≤ r.1 ∧ r.1 ≤ (n : Int) - 2) by omega)]; rfl
    · rw [dif_ndec q2, decide_eq_true (show 0 ≤ r.1 ∧ r.1 ≤ (n : Int) - 2 by omega)]
      by_cases q3 : 0 < r.2.1 <;> by_cases q4 : 0 < r.2.2.1 <;> simp [q3, q4]
theorem top_if {α : Type} (v : Int) (no yes : α) : (bif decide (v < 0) then no else bif decide (v > 4096) then no else yes) = bif topB v then yes else no := by
  unfold topB
  by_cases q1 : v < 0
  · rw [dif_dec q1, decide_eq_false (show ¬ (0 ≤ v ∧ v ≤ 4096) by omega)]; rfl
  · rw [dif_ndec q1]
    by_cases q2 : v > 4096
    · rw [dif_dec q2, decide_eq_false (show ¬ (0 ≤ v ∧ v ≤ 4096) by omega)]; rfl
    · rw [dif_ndec q2, decide_eq_true (show 0 ≤ v ∧ v ≤ 4096 by omega)]; rfl
theorem rvalid_val (top : List Int) (rows : List RT) : armplanref40_ValidRows.F top rows = some (validB top rows) := by
  rw [armplanref40_ValidRows.F_eq]
  unfold armplanref40_ValidRows.F0 validB
  by_cases a : (top.length : Int) < 2
  · rw [dif_dec a, decide_eq_false (by omega)]; rfl
  · rw [dif_ndec a]
    by_cases b : (top.length : Int) > 65
    · rw [dif_dec b, decide_eq_false (by omega)]; rfl
    · rw [dif_ndec b]
      by_cases c : (rows.length : Int) > 16384
      · rw [dif_dec c, decide_eq_false (by omega)]; rfl
      · rw [dif_ndec c, decide_eq_true (by omega), Bool.true_and]
        have l0 := loop_find (step := armplanref40_ValidRows.p0.step) (fun i : Nat => (top, rows, (i : Int))) top.length (fun i => bif topB (top.getD i 0) then none else some (.inl false)) (.inr (top, rows)) (by
          intro i hi
          unfold armplanref40_ValidRows.p0.step armplanref40_ValidRows.p0.round
          simp only []
          simp (disch := omega) only [dif_dec, dif_ndec, bif_eq, bif_neq, bif_ne, bif_nne, w64, wu64, Int.toNat_natCast, Option.bind_some, cond_true, cond_false, Bool.not_true, Bool.not_false, Sum.elim_inl, Sum.elim_inr]
          rw [top_if]
          cases topB (top.getD i 0) <;> rfl) (by
          unfold armplanref40_ValidRows.p0.step armplanref40_ValidRows.p0.round
          simp only []
          simp (disch := omega) only [dif_dec, dif_ndec, bif_eq, bif_neq, bif_ne, bif_nne, w64, wu64, Int.toNat_natCast, Option.bind_some, cond_true, cond_false, Bool.not_true, Bool.not_false, Sum.elim_inl, Sum.elim_inr]) top.length 0 (by omega)
        have l1 := loop_find (step := armplanref40_ValidRows.p1.step) (fun i : Nat => (top, rows, (i : Int))) rows.length (fun i => bif rowB top.length (rows.getD i R0) then none else some (.inl false)) (.inr ()) (by
          intro i hi
          unfold armplanref40_ValidRows.p1.step armplanref40_ValidRows.p1.round rowB
          simp only []
          simp (disch := omega) only [dif_dec, dif_ndec, bif_eq, bif_neq, bif_ne, bif_nne, w64, wu64, Int.toNat_natCast, Option.bind_some, cond_true, cond_false, Bool.not_true, Bool.not_false, Sum.elim_inl, Sum.elim_inr, formed_val]
          rw [row_if]
          cases formB (rows.getD i R0) with
          | false => rfl
          | true =>
            rw [Bool.true_and]
            generalize (decide (0 ≤ (rows.getD i R0).1 ∧ (rows.getD i R0).1 ≤ (top.length : Int) - 2) && !(decide (0 < (rows.getD i R0).2.1) && decide (0 < (rows.getD i R0).2.2.1))) = c
            cases c <;> rfl) (by
          unfold armplanref40_ValidRows.p1.step armplanref40_ValidRows.p1.round
          simp only []
          simp (disch := omega) only [dif_dec, dif_ndec, bif_eq, bif_neq, bif_ne, bif_nne, w64, wu64, Int.toNat_natCast, Option.bind_some, cond_true, cond_false, Bool.not_true, Bool.not_false, Sum.elim_inl, Sum.elim_inr]) rows.length 0 (by omega)
        rw [show ((0 : Nat) : Int) = 0 from rfl] at l0 l1
        rw [l0, Option.bind_some, findE_all (P := fun i => topB (top.getD i 0)) fun j _ _ => by cases topB (top.getD j 0) <;> rfl]
        cases allB (fun i => topB (top.getD i 0)) 0 top.length with
        | false => rfl
        | true =>
          simp only [cond_true, Sum.elim_inr, Bool.true_and]
          rw [l1, Option.bind_some, findE_all (P := fun k => rowB top.length (rows.getD k R0)) fun j _ _ => by cases rowB top.length (rows.getD j R0) <;> rfl]
          cases allB (fun k => rowB top.length (rows.getD k R0)) 0 rows.length <;> rfl
end Go.Abs
