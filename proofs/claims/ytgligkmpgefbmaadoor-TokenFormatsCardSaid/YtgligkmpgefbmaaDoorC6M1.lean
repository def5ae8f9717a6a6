/- A part of the proof that the text with the row names: printed readings of functions, or plain lemmas about them. -/
import Derived.Test.YtgligkmpgefbmaaDoorC6G
import Derived.Test.YtgligkmpgefbmaaDoorAbsD
set_option linter.unusedVariables false
set_option linter.unusedSimpArgs false
namespace Go.Abs
open Go

def worldB : ByteArray := ⟨#[119, 111, 114, 108, 100]⟩

/-! ### Names -/
def nchar (s : ByteArray) (i : Nat) : Bool :=
  let c := btI s (i : Int)
  (decide (c ≥ 97) && decide (c ≤ 122)) || (decide (i ≠ 0) && (decide (c = 95) || (decide (c ≥ 48) && decide (c ≤ 57))))
def nameB (s : ByteArray) : Bool := decide (1 ≤ s.size) && (decide (s.size ≤ 16) && (!(eqS s worldB) && allB (nchar s) 0 s.size))
theorem findE_all {O : Type} {P : Nat → Bool} {E : Nat → Option O} {no yes : O} : ∀ {k i : Nat}, (∀ j, i ≤ j → j < i + k → E j = (bif P j then none else some no)) → findE E yes i k = (bif allB P i k then yes else no)
  | 0, i, _ => rfl
  | k + 1, i, h => by
    have h0 := h i (Nat.le_refl _) (by omega)
    have ih := findE_all (no := no) (yes := yes) (k := k) (i := i + 1) fun j h1 h2 => h j (by omega) (by omega)
    simp only [findE, allB]
    rw [h0]
    cases hb : P i with
    | true => simp only [cond_true, Bool.true_and]; exact ih
    | false => simp only [cond_false, Bool.false_and]

theorem rname_loop {s : ByteArray} (hs : s.size ≤ 2 ^ 60) : loopF armplanref6_Name.p0.step (s, (0 : Int)) = some (bif allB (nchar s) 0 s.size then .inr () else .inl false) := by
  have h := loop_find (step := armplanref6_Name.p0.step) (fun i : Nat => (s, (i : Int))) s.size (fun i => bif nchar s i then none else some (.inl false)) (.inr ()) (by
    intro i hi
    unfold armplanref6_Name.p0.step armplanref6_Name.p0.round nchar
    simp only []
    simp (disch := omega) only [dif_dec, dif_ndec, bif_eq, bif_neq, bif_ne, bif_nne, w64, wu64, Int.toNat_natCast, Option.bind_some, cond_true, cond_false, Bool.not_true, Bool.not_false, Sum.elim_inl, Sum.elim_inr]
    generalize btI s (i : Int) = c
    have e1 : ((i : Int) + 1) = ((i + 1 : Nat) : Int) := by omega
    by_cases h1 : c ≥ 97
    · by_cases h2 : c ≤ 122
      · simp (disch := omega) only [dif_dec, dif_ndec, bif_eq, bif_neq, bif_ne, bif_nne, w64, wu64, Int.toNat_natCast, Option.bind_some, cond_true, cond_false, Bool.not_true, Bool.not_false, Sum.elim_inl, Sum.elim_inr, decide_eq_true h1, decide_eq_true h2, Bool.true_and, Bool.true_or, e1]
      · by_cases h0 : (i : Int) = 0
        · have h0' : i = 0 := by omega
          simp (disch := omega) only [dif_dec, dif_ndec, bif_eq, bif_neq, bif_ne, bif_nne, w64, wu64, Int.toNat_natCast, Option.bind_some, cond_true, cond_false, Bool.not_true, Bool.not_false, Sum.elim_inl, Sum.elim_inr, decide_eq_true h1, decide_eq_false h2, Bool.and_false, Bool.false_or, h0', decide_eq_false (show ¬ (0 ≠ 0) by simp), Bool.false_and]
        · have h0' : i ≠ 0 := by omega
          have h5 : ¬ c = 95 := by omega
          have h6 : ¬ c ≤ 57 := by omega
          simp (disch := omega) only [dif_dec, dif_ndec, bif_eq, bif_neq, bif_ne, bif_nne, w64, wu64, Int.toNat_natCast, Option.bind_some, cond_true, cond_false, Bool.not_true, Bool.not_false, Sum.elim_inl, Sum.elim_inr, decide_eq_true h1, decide_eq_false h2, Bool.and_false, Bool.false_or, decide_eq_true h0', Bool.true_and, decide_eq_false h5, decide_eq_false h6]
    · by_cases h0 : (i : Int) = 0
      · have h0' : i = 0 := by omega
        simp (disch := omega) only [dif_dec, dif_ndec, bif_eq, bif_neq, bif_ne, bif_nne, w64, wu64, Int.toNat_natCast, Option.bind_some, cond_true, cond_false, Bool.not_true, Bool.not_false, Sum.elim_inl, Sum.elim_inr, decide_eq_false h1, Bool.false_and, Bool.false_or, h0', decide_eq_false (show ¬ (0 ≠ 0) by simp)]
      · have h0' : i ≠ 0 := by omega
        by_cases h5 : c = 95
        · simp (disch := omega) only [dif_dec, dif_ndec, bif_eq, bif_neq, bif_ne, bif_nne, w64, wu64, Int.toNat_natCast, Option.bind_some, cond_true, cond_false, Bool.not_true, Bool.not_false, Sum.elim_inl, Sum.elim_inr, decide_eq_false h1, Bool.false_and, Bool.false_or, decide_eq_true h0', Bool.true_and, decide_eq_true h5, Bool.true_or, e1]
        · by_cases h6 : c ≥ 48
          · by_cases h7 : c ≤ 57
            · simp (disch := omega) only [dif_dec, dif_ndec, bif_eq, bif_neq, bif_ne, bif_nne, w64, wu64, Int.toNat_natCast, Option.bind_some, cond_true, cond_false, Bool.not_true, Bool.not_false, Sum.elim_inl, Sum.elim_inr, decide_eq_false h1, Bool.false_and, Bool.false_or, decide_eq_true h0', Bool.true_and, decide_eq_false h5, decide_eq_true h6, decide_eq_true h7, e1]
            · simp (disch := omega) only [dif_dec, dif_ndec, bif_eq, bif_neq, bif_ne, bif_nne, w64, wu64, Int.toNat_natCast, Option.bind_some, cond_true, cond_false, Bool.not_true, Bool.not_false, Sum.elim_inl, Sum.elim_inr, decide_eq_false h1, Bool.false_and, Bool.false_or, decide_eq_true h0', Bool.true_and, decide_eq_false h5, decide_eq_true h6, decide_eq_false h7]
          · simp (disch := omega) only [dif_dec, dif_ndec, bif_eq, bif_neq, bif_ne, bif_nne, w64, wu64, Int.toNat_natCast, Option.bind_some, cond_true, cond_false, Bool.not_true, Bool.not_false, Sum.elim_inl, Sum.elim_inr, decide_eq_false h1, Bool.false_and, Bool.false_or, decide_eq_true h0', Bool.true_and, decide_eq_false h5, decide_eq_false h6]) (by
    unfold armplanref6_Name.p0.step armplanref6_Name.p0.round
    simp only []
    simp (disch := omega) only [dif_dec, dif_ndec, bif_eq, bif_neq, bif_ne, bif_nne, w64, wu64, Int.toNat_natCast, Option.bind_some, cond_true, cond_false, Bool.not_true, Bool.not_false, Sum.elim_inl, Sum.elim_inr]) s.size 0 (by omega)
  rw [show ((0 : Nat) : Int) = 0 from rfl] at h
  rw [h, findE_all (fun j _ _ => rfl)]

theorem get_bt {s : ByteArray} (i : Nat) : ((s.get! i).toNat : Int) = btI s (i : Int) := by
  unfold btI
  rw [Int.toNat_natCast]
  congr 2
theorem rn_ascii {s : ByteArray} {i : Nat} (h : btI s (i : Int) < 128) : rnC s (i : Int) = btI s (i : Int) ∧ rnW s (i : Int) = 1 := by
  have hg := get_bt (s := s) i
  unfold rnC rnW
  rw [Int.toNat_natCast]
  have h2 : (s.get! (i + 0)).toNat < 0x80 := by rw [Nat.add_zero]; omega
  unfold Utf8.decode
  simp only [h2, if_true]
  exact ⟨by rw [Nat.add_zero]; exact hg, rfl⟩
theorem rn_high {s : ByteArray} {i : Nat} (h : ¬ btI s (i : Int) < 128) : 128 ≤ rnC s (i : Int) := by
  have hg := get_bt (s := s) i
  unfold rnC
  rw [Int.toNat_natCast]
  have h2 : ¬ (s.get! (i + 0)).toNat < 0x80 := by rw [Nat.add_zero]; omega
  unfold Utf8.decode
  simp only [h2, if_false]
  split
  · split
    · simp only []; omega
    · decide
  · split
    · split
      · rename_i h3
        simp only [Bool.and_eq_true, decide_eq_true_eq] at h3
        simp only []; omega
      · decide
    · split
      · split
        · rename_i h3
          simp only [Bool.and_eq_true, decide_eq_true_eq] at h3
          simp only []; omega
        · decide
      · decide
theorem tname_loop {s : ByteArray} : loopF token_Name.p0.step (s, s, (0 : Int)) = some (bif allB (nchar s) 0 s.size then .inr s else .inl false) := by
  have h := loop_find (step := token_Name.p0.step) (fun i : Nat => (s, s, (i : Int))) s.size (fun i => bif nchar s i then none else some (.inl false)) (.inr s) (by
    intro i hi
    unfold token_Name.p0.step token_Name.p0.round nchar
    simp only []
    have e1 : ((i : Int) + 1) = ((i + 1 : Nat) : Int) := by omega
    by_cases ha : btI s (i : Int) < 128
    · obtain ⟨hc, hw⟩ := rn_ascii ha
      rw [hc, hw]
      generalize btI s (i : Int) = c at *
      by_cases h1 : c ≥ 97
      · by_cases h2 : c ≤ 122
        · simp (disch := omega) only [dif_dec, dif_ndec, bif_eq, bif_neq, bif_ne, bif_nne, w64, wu64, Int.toNat_natCast, Option.bind_some, cond_true, cond_false, Bool.not_true, Bool.not_false, Sum.elim_inl, Sum.elim_inr, decide_eq_true h1, decide_eq_true h2, Bool.true_and, Bool.true_or, e1]
        · by_cases h0 : (i : Int) = 0
          · have h0' : i = 0 := by omega
            simp (disch := omega) only [dif_dec, dif_ndec, bif_eq, bif_neq, bif_ne, bif_nne, w64, wu64, Int.toNat_natCast, Option.bind_some, cond_true, cond_false, Bool.not_true, Bool.not_false, Sum.elim_inl, Sum.elim_inr, decide_eq_true h1, decide_eq_false h2, Bool.and_false, Bool.false_or, h0', decide_eq_false (show ¬ (0 ≠ 0) by simp), Bool.false_and]
          · have h0' : i ≠ 0 := by omega
            have h5 : ¬ c = 95 := by omega
            have h6 : ¬ c ≤ 57 := by omega
            simp (disch := omega) only [dif_dec, dif_ndec, bif_eq, bif_neq, bif_ne, bif_nne, w64, wu64, Int.toNat_natCast, Option.bind_some, cond_true, cond_false, Bool.not_true, Bool.not_false, Sum.elim_inl, Sum.elim_inr, decide_eq_true h1, decide_eq_false h2, Bool.and_false, Bool.false_or, decide_eq_true h0', Bool.true_and, decide_eq_false h5, decide_eq_false h6]
      · by_cases h0 : (i : Int) = 0
        · have h0' : i = 0 := by omega
          simp (disch := omega) only [dif_dec, dif_ndec, bif_eq, bif_neq, bif_ne, bif_nne, w64, wu64, Int.toNat_natCast, Option.bind_some, cond_true, cond_false, Bool.not_true, Bool.not_false, Sum.elim_inl, Sum.elim_inr, decide_eq_false h1, Bool.false_and, Bool.false_or, h0', decide_eq_false (show ¬ (0 ≠ 0) by simp)]
        · have h0' : i ≠ 0 := by omega
          by_cases h5 : c = 95
          · simp (disch := omega) only [dif_dec, dif_ndec, bif_eq, bif_neq, bif_ne, bif_nne, w64, wu64, Int.toNat_natCast, Option.bind_some, cond_true, cond_false, Bool.not_true, Bool.not_false, Sum.elim_inl, Sum.elim_inr, decide_eq_false h1, Bool.false_and, Bool.false_or, decide_eq_true h0', Bool.true_and, decide_eq_true h5, Bool.true_or, e1]
          · by_cases h6 : c ≥ 48
            · by_cases h7 : c ≤ 57
              · simp (disch := omega) only [dif_dec, dif_ndec, bif_eq, bif_neq, bif_ne, bif_nne, w64, wu64, Int.toNat_natCast, Option.bind_some, cond_true, cond_false, Bool.not_true, Bool.not_false, Sum.elim_inl, Sum.elim_inr, decide_eq_false h1, Bool.false_and, Bool.false_or, decide_eq_true h0', Bool.true_and, decide_eq_false h5, decide_eq_true h6, decide_eq_true h7, e1]
              · simp (disch := omega) only [dif_dec, dif_ndec, bif_eq, bif_neq, bif_ne, bif_nne, w64, wu64, Int.toNat_natCast, Option.bind_some, cond_true, cond_false, Bool.not_true, Bool.not_false, Sum.elim_inl, Sum.elim_inr, decide_eq_false h1, Bool.false_and, Bool.false_or, decide_eq_true h0', Bool.true_and, decide_eq_false h5, decide_eq_true h6, decide_eq_false h7]
            · simp (disch := omega) only [dif_dec, dif_ndec, bif_eq, bif_neq, bif_ne, bif_nne, w64, wu64, Int.toNat_natCast, Option.bind_some, cond_true, cond_false, Bool.not_true, Bool.not_false, Sum.elim_inl, Sum.elim_inr, decide_eq_false h1, Bool.false_and, Bool.false_or, decide_eq_true h0', Bool.true_and, decide_eq_false h5, decide_eq_false h6]
    · have hc := rn_high ha
      generalize btI s (i : Int) = c at *
      generalize rnC s (i : Int) = d at *
      have g1 : ¬ c ≤ 122 := by omega
      have g2 : ¬ c = 95 := by omega
      have g3 : ¬ c ≤ 57 := by omega
      have g4 : ¬ d ≤ 122 := by omega
      by_cases h0 : (i : Int) = 0
      · simp (disch := omega) only [dif_dec, dif_ndec, bif_eq, bif_neq, bif_ne, bif_nne, w64, wu64, Int.toNat_natCast, Option.bind_some, cond_true, cond_false, Bool.not_true, Bool.not_false, Sum.elim_inl, Sum.elim_inr, decide_eq_false g1, decide_eq_false g2, decide_eq_false g3, decide_eq_false g4, Bool.and_false, Bool.false_or, Bool.or_false]
      · simp (disch := omega) only [dif_dec, dif_ndec, bif_eq, bif_neq, bif_ne, bif_nne, w64, wu64, Int.toNat_natCast, Option.bind_some, cond_true, cond_false, Bool.not_true, Bool.not_false, Sum.elim_inl, Sum.elim_inr, decide_eq_false g1, decide_eq_false g2, decide_eq_false g3, decide_eq_false g4, Bool.and_false, Bool.false_or, Bool.or_false]) (by
    unfold token_Name.p0.step token_Name.p0.round
    simp only []
    simp (disch := omega) only [dif_dec, dif_ndec, bif_eq, bif_neq, bif_ne, bif_nne, w64, wu64, Int.toNat_natCast, Option.bind_some, cond_true, cond_false, Bool.not_true, Bool.not_false, Sum.elim_inl, Sum.elim_inr]) s.size 0 (by omega)
  rw [show ((0 : Nat) : Int) = 0 from rfl] at h
  rw [h, findE_all (fun j _ _ => rfl)]
theorem rname_val {s : ByteArray} (hs : s.size ≤ 2 ^ 60) : armplanref6_Name.F s = some (nameB s) := by
  rw [armplanref6_Name.F_eq]
  unfold armplanref6_Name.F0 nameB
  rw [rname_loop hs, show (⟨#[119, 111, 114, 108, 100]⟩ : ByteArray) = worldB from rfl]
  by_cases h1 : 1 ≤ s.size
  · by_cases h2 : s.size ≤ 16
    · cases hw : eqS s worldB with
      | true => simp (disch := omega) only [dif_dec, dif_ndec, bif_eq, bif_neq, bif_ne, bif_nne, w64, wu64, Int.toNat_natCast, Option.bind_some, cond_true, cond_false, Bool.not_true, Bool.not_false, Sum.elim_inl, Sum.elim_inr, decide_eq_true h1, decide_eq_true h2, hw, Bool.false_and, Bool.true_and]
      | false =>
        cases ha : allB (nchar s) 0 s.size with
        | true => simp (disch := omega) only [dif_dec, dif_ndec, bif_eq, bif_neq, bif_ne, bif_nne, w64, wu64, Int.toNat_natCast, Option.bind_some, cond_true, cond_false, Bool.not_true, Bool.not_false, Sum.elim_inl, Sum.elim_inr, decide_eq_true h1, decide_eq_true h2, hw, ha, Bool.true_and]
        | false => simp (disch := omega) only [dif_dec, dif_ndec, bif_eq, bif_neq, bif_ne, bif_nne, w64, wu64, Int.toNat_natCast, Option.bind_some, cond_true, cond_false, Bool.not_true, Bool.not_false, Sum.elim_inl, Sum.elim_inr, decide_eq_true h1, decide_eq_true h2, hw, ha, Bool.true_and]
    · simp (disch := omega) only [dif_dec, dif_ndec, bif_eq, bif_neq, bif_ne, bif_nne, w64, wu64, Int.toNat_natCast, Option.bind_some, cond_true, cond_false, Bool.not_true, Bool.not_false, Sum.elim_inl, Sum.elim_inr, decide_eq_false h2, Bool.false_and, Bool.and_false]
  · simp (disch := omega) only [dif_dec, dif_ndec, bif_eq, bif_neq, bif_ne, bif_nne, w64, wu64, Int.toNat_natCast, Option.bind_some, cond_true, cond_false, Bool.not_true, Bool.not_false, Sum.elim_inl, Sum.elim_inr, decide_eq_false h1, Bool.false_and]
theorem tname_val {s : ByteArray} : token_Name.F s = some (nameB s) := by
  rw [token_Name.F_eq]
  unfold token_Name.F0 nameB
  rw [tname_loop, show (⟨#[119, 111, 114, 108, 100]⟩ : ByteArray) = worldB from rfl]
  cases ha : allB (nchar s) 0 s.size with
  | false => simp (disch := omega) only [dif_dec, dif_ndec, bif_eq, bif_neq, bif_ne, bif_nne, w64, wu64, Int.toNat_natCast, Option.bind_some, cond_true, cond_false, Bool.not_true, Bool.not_false, Sum.elim_inl, Sum.elim_inr, Bool.and_false]
  | true =>
    by_cases h1 : 1 ≤ s.size
    · by_cases h2 : s.size ≤ 16
      · simp (disch := omega) only [dif_dec, dif_ndec, bif_eq, bif_neq, bif_ne, bif_nne, w64, wu64, Int.toNat_natCast, Option.bind_some, cond_true, cond_false, Bool.not_true, Bool.not_false, Sum.elim_inl, Sum.elim_inr, decide_eq_true h1, decide_eq_true h2, Bool.true_and, Bool.and_true]
      · simp (disch := omega) only [dif_dec, dif_ndec, bif_eq, bif_neq, bif_ne, bif_nne, w64, wu64, Int.toNat_natCast, Option.bind_some, cond_true, cond_false, Bool.not_true, Bool.not_false, Sum.elim_inl, Sum.elim_inr, decide_eq_false h2, Bool.false_and, Bool.and_false]
    · simp (disch := omega) only [dif_dec, dif_ndec, bif_eq, bif_neq, bif_ne, bif_nne, w64, wu64, Int.toNat_natCast, Option.bind_some, cond_true, cond_false, Bool.not_true, Bool.not_false, Sum.elim_inl, Sum.elim_inr, decide_eq_false h1, Bool.false_and]

/-- A rune of several bytes: they are all above 127. -/
theorem rn_wide {s : ByteArray} {i : Nat} (hi : i < s.size) (h : ¬ btI s (i : Int) < 128) : ∃ w : Nat, rnW s (i : Int) = (w : Int) ∧ 1 ≤ w ∧ i + w ≤ s.size ∧ ∀ j : Nat, i ≤ j → j < i + w → 128 ≤ btI s (j : Int) := by
  have hg := get_bt (s := s) i
  unfold rnW
  rw [Int.toNat_natCast]
  have h2 : ¬ (s.get! (i + 0)).toNat < 0x80 := by rw [Nat.add_zero]; omega
  have one : ∃ w : Nat, ((1 : Nat) : Int) = (w : Int) ∧ 1 ≤ w ∧ i + w ≤ s.size ∧ ∀ j : Nat, i ≤ j → j < i + w → 128 ≤ btI s (j : Int) :=
    ⟨1, rfl, Nat.le_refl _, by omega, fun j h3 h4 => by
      have e : j = i := by omega
      subst e
      omega⟩
  have more : ∀ k : Nat, i + k < s.size ∧ (s.get! (i + k)).toNat / 64 = 2 → 128 ≤ btI s ((i + k : Nat) : Int) := by
    intro k ⟨h3, h4⟩
    rw [← get_bt]
    omega
  unfold Utf8.decode
  simp only [h2, if_false]
  split
  · rename_i h5
    simp only [Bool.and_eq_true, decide_eq_true_eq, beq_iff_eq] at h5
    split
    · refine ⟨2, rfl, by omega, by omega, fun j h6 h7 => ?_⟩
      have : j = i ∨ j = i + 1 := by omega
      rcases this with rfl | rfl
      · omega
      · exact more 1 h5.2
    · exact one
  · split
    · rename_i h5
      simp only [Bool.and_eq_true, decide_eq_true_eq, beq_iff_eq] at h5
      split
      · refine ⟨3, rfl, by omega, by omega, fun j h6 h7 => ?_⟩
        have : j = i ∨ j = i + 1 ∨ j = i + 2 := by omega
        rcases this with rfl | rfl | rfl
        · omega
        · exact more 1 h5.1.2
        · exact more 2 h5.2
      · exact one
    · split
      · rename_i h5
        simp only [Bool.and_eq_true, decide_eq_true_eq, beq_iff_eq] at h5
        split
        · refine ⟨4, rfl, by omega, by omega, fun j h6 h7 => ?_⟩
          have : j = i ∨ j = i + 1 ∨ j = i + 2 ∨ j = i + 3 := by omega
          rcases this with rfl | rfl | rfl | rfl
          · omega
          · exact more 1 h5.1.1.2
          · exact more 2 h5.1.2
          · exact more 3 h5.2
        · exact one
      · exact one
theorem bt_range (s : ByteArray) (i : Int) : 0 ≤ btI s i ∧ btI s i ≤ 255 := by
  unfold btI
  have := (s.data.getD i.toNat 0).toNat_lt
  omega

end Go.Abs
