/- A part of the proof that the text with the row names: printed readings of functions, or plain lemmas about them. -/
import Derived.Test.YtanopckddijfcaaGreatDoorC8Yb
import Derived.Test.YtanopckddijfcaaGreatDoorAbsD
set_option linter.unusedVariables false
set_option linter.unusedSimpArgs false
namespace Go.Abs
open Go

abbrev JT := ByteArray × (Int × (Int × ((Int × (Int × Int)) × (Int × (Int × (Int × (Int × (Int × Int))))))))
abbrev MT := Int × (Int × (Int × (Int × Int)))
abbrev PT := Int × (Int × Int)
abbrev ShT := Int × (Int × List PT)
abbrev SkT := Int × Int
abbrev J0 : JT := ((⟨#[]⟩ : ByteArray), ((0 : Int), ((0 : Int), (((0 : Int), ((0 : Int), (0 : Int))), ((0 : Int), ((0 : Int), ((0 : Int), ((0 : Int), ((0 : Int), (0 : Int))))))))))
abbrev M0 : MT := ((0 : Int), ((0 : Int), ((0 : Int), ((0 : Int), (0 : Int)))))
def worldB : ByteArray := ⟨#[119, 111, 114, 108, 100]⟩

/-! ### Names -/
def nchar (s : ByteArray) (i : Nat) : Bool :=
  let c := btI s (i : Int)
  (decide (c ≥ 97) && decide (c ≤ 122)) || (decide (i ≠ 0) && (decide (c = 95) || (decide (c ≥ 48) && decide (c ≤ 57))))
def nameB (s : ByteArray) : Bool := decide (1 ≤ s.size) && (decide (s.size ≤ 16) && (!(eqS s worldB) && allB (nchar s) 0 s.size))
theorem findE_all {O : Type} {P : Nat → Bool} {E : Nat → Option O} {no yes : O} : ∀ {k i : Nat}, (∀ j, i ≤ j → j < i + k → E j = (bif P j then none else some no)) → findE E yes i k = (bif allB P i k then yes else no)
  | 0, i, _ => rfl
  | k + 1, i, h => by
    have h0 := h i (Nat.le_refl _) (by omega)
    have ih := findE_all (no := no) (yes := yes) (k := k) (i := i + 1) fun j h1 h2 => h j (by omega) (by omega)
    simp only [findE, allB]
    rw [h0]
    cases hb : P i with
    | true => simp only [cond_true, Bool.true_and]; exact ih
    | false => simp only [cond_false, Bool.false_and]

theorem rname_loop {s : ByteArray} (hs : s.size ≤ 2 ^ 60) : loopF armplanref6_Name.p0.step (s, (0 : Int)) = some (bif allB (nchar s) 0 s.size then .inr () else .inl false) := by
  have h := loop_find (step := armplanref6_Name.p0.step) (fun i : Nat => (s, (i : Int))) s.size (fun i => bif nchar s i then none else some (.inl false)) (.inr ()) (by
    intro i hi
    unfold armplanref6_Name.p0.step armplanref6_Name.p0.round nchar
    simp only []
    simp (disch := omega) only [dif_dec, dif_ndec, bif_eq, bif_neq, bif_ne, bif_nne, w64, wu64, Int.toNat_natCast, Option.bind_some, cond_true, cond_false, Bool.not_true, Bool.not_false, Sum.elim_inl, Sum.elim_inr]
    generalize btI s (i : Int) = c
    have e1 : ((i : Int) + 1) = ((i + 1 : Nat) : Int) := by omega
    by_cases h1 : c ≥ 97
    · by_cases h2 : c ≤ 122
      · simp (disch := omega) only [dif_dec, dif_ndec, bif_eq, bif_neq, bif_ne, bif_nne, w64, wu64, Int.toNat_natCast, Option.bind_some, cond_true, cond_false, Bool.not_true, Bool.not_false, Sum.elim_inl, Sum.elim_inr, decide_eq_true h1, decide_eq_true h2, Bool.true_and, Bool.true_or, e1]
      · by_cases h0 : (i : Int) = 0
        · have h0' : i = 0 := by omega
          simp (disch := omega) only [dif_dec, dif_ndec, bif_eq, bif_neq, bif_ne, bif_nne, w64, wu64, Int.toNat_natCast, Option.bind_some, cond_true, cond_false, Bool.not_true, Bool.not_false, Sum.elim_inl, Sum.elim_inr, decide_eq_true h1, decide_eq_false h2, Bool.and_false, Bool.false_or, h0', decide_eq_false (show ¬ (0 ≠ 0) by simp), Bool.false_and]
        · have h0' : i ≠ 0 := by omega
          have h5 : ¬ c = 95 := by omega
          have h6 : ¬ c ≤ 57 := by omega
          simp (disch := omega) only [dif_dec, dif_ndec, bif_eq, bif_neq, bif_ne, bif_nne, w64, wu64, Int.toNat_natCast, Option.bind_some, cond_true, cond_false, Bool.not_true, Bool.not_false, Sum.elim_inl, Sum.elim_inr, decide_eq_true h1, decide_eq_false h2, Bool.and_false, Bool.false_or, decide_eq_true h0', Bool.true_and, decide_eq_false h5, decide_eq_false h6]
    · by_cases h0 : (i : Int) = 0
      · have h0' : i = 0 := by omega
        simp (disch := omega) only [dif_dec, dif_ndec, bif_eq, bif_neq, bif_ne, bif_nne, w64, wu64, Int.toNat_natCast, Option.bind_some, cond_true, cond_false, Bool.not_true, Bool.not_false, Sum.elim_inl, Sum.elim_inr, decide_eq_false h1, Bool.false_and, Bool.false_or, h0', decide_eq_false (show ¬ (0 ≠ 0) by simp)]
      · have h0' : i ≠ 0 := by omega
        by_cases h5 : c = 95
        · simp (disch := omega) only [dif_dec, dif_ndec, bif_eq, bif_neq, bif_ne, bif_nne, w64, wu64, Int.toNat_natCast, Option.bind_some, cond_true, cond_false, Bool.not_true, Bool.not_false, Sum.elim_inl, Sum.elim_inr, decide_eq_false h1, Bool.false_and, Bool.false_or, decide_eq_true h0', Bool.true_and, decide_eq_true h5, Bool.true_or, e1]
        · by_cases h6 : c ≥ 48
          · by_cases h7 : c ≤ 57
            · simp (disch := omega) only [dif_dec, dif_ndec, bif_eq, bif_neq, bif_ne, bif_nne, w64, wu64, Int.toNat_natCast, Option.bind_some, cond_true, cond_false, Bool.not_true, Bool.not_false, Sum.elim_inl, Sum.elim_inr, decide_eq_false h1, Bool.false_and, Bool.false_or, decide_eq_true h0', Bool.true_and, decide_eq_false h5, decide_eq_true h6, decide_eq_true h7, e1]
            · simp (disch := omega) only [dif_dec, dif_ndec, bif_eq, bif_neq, bif_ne, bif_nne, w64, wu64, Int.toNat_natCast, Option.bind_some, cond_true, cond_false, Bool.not_true, Bool.not_false, Sum.elim_inl, Sum.elim_inr, decide_eq_false h1, Bool.false_and, Bool.false_or, decide_eq_true h0', Bool.true_and, decide_eq_false h5, decide_eq_true h6, decide_eq_false h7]
          · simp (disch := omega) only [dif_dec, dif_ndec, bif_eq, bif_neq, bif_ne, bif_nne, w64, wu64, Int.toNat_natCast, Option.bind_some, cond_true, cond_false, Bool.not_true, Bool.not_false, Sum.elim_inl, Sum.elim_inr, decide_eq_false h1, Bool.false_and, Bool.false_or, decide_eq_true h0', Bool.true_and, decide_eq_false h5, decide_eq_false h6]) (by
    unfold armplanref6_Name.p0.step armplanref6_Name.p0.round
    simp only []
    simp (disch := omega) only [dif_dec, dif_ndec, bif_eq, bif_neq, bif_ne, bif_nne, w64, wu64, Int.toNat_natCast, Option.bind_some, cond_true, cond_false, Bool.not_true, Bool.not_false, Sum.elim_inl, Sum.elim_inr]) s.size 0 (by omega)
  rw [show ((0 : Nat) : Int) = 0 from rfl] at h
  rw [h, findE_all (fun j _ _ => rfl)]

theorem get_bt {s : ByteArray} (i : Nat) : ((s.get! i).toNat : Int) = btI s (i : Int) := by
  unfold btI
  rw [Int.toNat_natCast]
  congr 2
theorem rn_ascii {s : ByteArray} {i : Nat} (h : btI s (i : Int) < 128) : rnC s (i : Int) = btI s (i : Int) ∧ rnW s (i : Int) = 1 := by
  have hg := get_bt (s := s) i
  unfold rnC rnW
  rw [Int.toNat_natCast]
  have h2 : (s.get! (i + 0)).toNat < 0x80 := by rw [Nat.add_zero]; omega
  unfold Utf8.decode
  simp only [h2, if_true]
  exact ⟨by rw [Nat.add_zero]; exact hg, rfl⟩
theorem rn_high {s : ByteArray} {i : Nat} (h : ¬ btI s (i : Int) < 128) : 128 ≤ rnC s (i : Int) := by
  have hg := get_bt (s := s) i
  unfold rnC
  rw [Int.toNat_natCast]
  have h2 : ¬ (s.get! (i + 0)).toNat < 0x80 := by rw [Nat.add_zero]; omega
  unfold Utf8.decode
  simp only [h2, if_false]
  split
  · split
    · simp only []; omega
    · decide
  · split
    · split
      · rename_i h3
        simp only [Bool.and_eq_true, decide_eq_true_eq] at h3
        simp only []; omega
      · decide
    · split
      · split
        · rename_i h3
          simp only [Bool.and_eq_true, decide_eq_true_eq] at h3
          simp only []; omega
        · decide
      · decide
theorem tname_loop {s : ByteArray} : loopF token_Name.p0.step (s, s, (0 : Int)) = some (bif allB (nchar s) 0 s.size then .inr s else .inl false) := by
  have h := loop_find (step := token_Name.p0.step) (fun i : Nat => (s, s, (i : Int))) s.size (fun i => bif nchar s i then none else some (.inl false)) (.inr s) (by
    intro i hi
    unfold token_Name.p0.step token_Name.p0.round nchar
    simp only []
    have e1 : ((i : Int) + 1) = ((i + 1 : Nat) : Int) := by omega
    by_cases ha : btI s (i : Int) < 128
    · obtain ⟨hc, hw⟩ := rn_ascii ha
      rw [hc, hw]
      generalize btI s (i : Int) = c at *
      by_cases h1 : c ≥ 97
      · by_cases h2 : c ≤ 122
        · simp (disch := omega) only [dif_dec, dif_ndec, bif_eq, bif_neq, bif_ne, bif_nne, w64, wu64, Int.toNat_natCast, Option.bind_some, cond_true, cond_false, Bool.not_true, Bool.not_false, Sum.elim_inl, Sum.elim_inr, decide_eq_true h1, decide_eq_true h2, Bool.true_and, Bool.true_or, e1]
        · by_cases h0 : (i : Int) = 0
          · have h0' : i = 0 := by omega
            simp (disch := omega) only [dif_dec, dif_ndec, bif_eq, bif_neq, bif_ne, bif_nne, w64, wu64, Int.toNat_natCast, Option.bind_some, cond_true, cond_false, Bool.not_true, Bool.not_false, Sum.elim_inl, Sum.elim_inr, decide_eq_true h1, decide_eq_false h2, Bool.and_false, Bool.false_or, h0', decide_eq_false (show ¬ (0 ≠ 0) by simp), Bool.false_and]
          · have h0' : i ≠ 0 := by omega
            have h5 : ¬ c = 95 := by omega
            have h6 : ¬ c ≤ 57 := by omega
            simp (disch := omega) only [dif_dec, dif_ndec, bif_eq, bif_neq, bif_ne, bif_nne, w64, wu64, Int.toNat_natCast, Option.bind_some, cond_true, cond_false, Bool.not_true, Bool.not_false, Sum.elim_inl, Sum.elim_inr, decide_eq_true h1, decide_eq_false h2, Bool.and_false, Bool.false_or, decide_eq_true h0', Bool.true_and, decide_eq_false h5, decide_eq_false h6]
      · by_cases h0 : (i : Int) = 0
        · have h0' : i = 0 := by omega
          simp (disch := omega) only [dif_dec, dif_ndec, bif_eq, bif_neq, bif_ne, bif_nne, w64, wu64, Int.toNat_natCast, Option.bind_some, cond_true, cond_false, Bool.not_true, Bool.not_false, Sum.elim_inl, Sum.elim_inr, decide_eq_false h1, Bool.false_and, Bool.false_or, h0', decide_eq_false (show ¬ (0 ≠ 0) by simp)]
        · have h0' : i ≠ 0 := by omega
          by_cases h5 : c = 95
          · simp (disch := omega) only [dif_dec, dif_ndec, bif_eq, bif_neq, bif_ne, bif_nne, w64, wu64, Int.toNat_natCast, Option.bind_some, cond_true, cond_false, Bool.not_true, Bool.not_false, Sum.elim_inl, Sum.elim_inr, decide_eq_false h1, Bool.false_and, Bool.false_or, decide_eq_true h0', Bool.true_and, decide_eq_true h5, Bool.true_or, e1]
          · by_cases h6 : c ≥ 48
            · by_cases h7 : c ≤ 57
              · simp (disch := omega) only [dif_dec, dif_ndec, bif_eq, bif_neq, bif_ne, bif_nne, w64, wu64, Int.toNat_natCast, Option.bind_some, cond_true, cond_false, Bool.not_true, Bool.not_false, Sum.elim_inl, Sum.elim_inr, decide_eq_false h1, Bool.false_and, Bool.false_or, decide_eq_true h0', Bool.true_and, decide_eq_false h5, decide_eq_true h6, decide_eq_true h7, e1]
              · simp (disch := omega) only [dif_dec, dif_ndec, bif_eq, bif_neq, bif_ne, bif_nne, w64, wu64, Int.toNat_natCast, Option.bind_some, cond_true, cond_false, Bool.not_true, Bool.not_false, Sum.elim_inl, Sum.elim_inr, decide_eq_false h1, Bool.false_and, Bool.false_or, decide_eq_true h0', Bool.true_and, decide_eq_false h5, decide_eq_true h6, decide_eq_false h7]
            · simp (disch := omega) only [dif_dec, dif_ndec, bif_eq, bif_neq, bif_ne, bif_nne, w64, wu64, Int.toNat_natCast, Option.bind_some, cond_true, cond_false, Bool.not_true, Bool.not_false, Sum.elim_inl, Sum.elim_inr, decide_eq_false h1, Bool.false_and, Bool.false_or, decide_eq_true h0', Bool.true_and, decide_eq_false h5, decide_eq_false h6]
    · have hc := rn_high ha
      generalize btI s (i : Int) = c at *
      generalize rnC s (i : Int) = d at *
      have g1 : ¬ c ≤ 122 := by omega
      have g2 : ¬ c = 95 := by omega
      have g3 : ¬ c ≤ 57 := by omega
      have g4 : ¬ d ≤ 122 := by omega
      by_cases h0 : (i : Int) = 0
      · simp (disch := omega) only [dif_dec, dif_ndec, bif_eq, bif_neq, bif_ne, bif_nne, w64, wu64, Int.toNat_natCast, Option.bind_some, cond_true, cond_false, Bool.not_true, Bool.not_false, Sum.elim_inl, Sum.elim_inr, decide_eq_false g1, decide_eq_false g2, decide_eq_false g3, decide_eq_false g4, Bool.and_false, Bool.false_or, Bool.or_false]
      · simp (disch := omega) only [dif_dec, dif_ndec, bif_eq, bif_neq, bif_ne, bif_nne, w64, wu64, Int.toNat_natCast, Option.bind_some, cond_true, cond_false, Bool.not_true, Bool.not_false, Sum.elim_inl, Sum.elim_inr, decide_eq_false g1, decide_eq_false g2, decide_eq_false g3, decide_eq_false g4, Bool.and_false, Bool.false_or, Bool.or_false]) (by
    unfold token_Name.p0.step token_Name.p0.round
    simp only []
    simp (disch := omega) only [dif_dec, dif_ndec, bif_eq, bif_neq, bif_ne, bif_nne, w64, wu64, Int.toNat_natCast, Option.bind_some, cond_true, cond_false, Bool.not_true, Bool.not_false, Sum.elim_inl, Sum.elim_inr]) s.size 0 (by omega)
  rw [show ((0 : Nat) : Int) = 0 from rfl] at h
  rw [h, findE_all (fun j _ _ => rfl)]
theorem rname_val {s : ByteArray} (hs : s.size ≤ 2 ^ 60) : armplanref6_Name.F s = some (nameB s) := by
  rw [armplanref6_Name.F_eq]
  unfold armplanref6_Name.F0 nameB
  rw [rname_loop hs, show (⟨#[119, 111, 114, 108, 100]⟩ : ByteArray) = worldB from rfl]
  by_cases h1 : 1 ≤ s.size
  · by_cases h2 : s.size ≤ 16
    · cases hw : eqS s worldB with
      | true => simp (disch := omega) only [dif_dec, dif_ndec, bif_eq, bif_neq, bif_ne, bif_nne, w64, wu64, Int.toNat_natCast, Option.bind_some, cond_true, cond_false, Bool.not_true, Bool.not_false, Sum.elim_inl, Sum.elim_inr, decide_eq_true h1, decide_eq_true h2, hw, Bool.false_and, Bool.true_and]
      | false =>
        cases ha : allB (nchar s) 0 s.size with
        | true => simp (disch := omega) only [dif_dec, dif_ndec, bif_eq, bif_neq, bif_ne, bif_nne, w64, wu64, Int.toNat_natCast, Option.bind_some, cond_true, cond_false, Bool.not_true, Bool.not_false, Sum.elim_inl, Sum.elim_inr, decide_eq_true h1, decide_eq_true h2, hw, ha, Bool.true_and]
        | false => simp (disch := omega) only [dif_dec, dif_ndec, bif_eq, bif_neq, bif_ne, bif_nne, w64, wu64, Int.toNat_natCast, Option.bind_some, cond_true, cond_false, Bool.not_true, Bool.not_false, Sum.elim_inl, Sum.elim_inr, decide_eq_true h1, decide_eq_true h2, hw, ha, Bool.true_and]
    · simp (disch := omega) only [dif_dec, dif_ndec, bif_eq, bif_neq, bif_ne, bif_nne, w64, wu64, Int.toNat_natCast, Option.bind_some, cond_true, cond_false, Bool.not_true, Bool.not_false, Sum.elim_inl, Sum.elim_inr, decide_eq_false h2, Bool.false_and, Bool.and_false]
  · simp (disch := omega) only [dif_dec, dif_ndec, bif_eq, bif_neq, bif_ne, bif_nne, w64, wu64, Int.toNat_natCast, Option.bind_some, cond_true, cond_false, Bool.not_true, Bool.not_false, Sum.elim_inl, Sum.elim_inr, decide_eq_false h1, Bool.false_and]
theorem tname_val {s : ByteArray} : token_Name.F s = some (nameB s) := by
  rw [token_Name.F_eq]
  unfold token_Name.F0 nameB
  rw [tname_loop, show (⟨#[119, 111, 114, 108, 100]⟩ : ByteArray) = worldB from rfl]
  cases ha : allB (nchar s) 0 s.size with
  | false => simp (disch := omega) only [dif_dec, dif_ndec, bif_eq, bif_neq, bif_ne, bif_nne, w64, wu64, Int.toNat_natCast, Option.bind_some, cond_true, cond_false, Bool.not_true, Bool.not_false, Sum.elim_inl, Sum.elim_inr, Bool.and_false]
  | true =>
    by_cases h1 : 1 ≤ s.size
    · by_cases h2 : s.size ≤ 16
      · simp (disch := omega) only [dif_dec, dif_ndec, bif_eq, bif_neq, bif_ne, bif_nne, w64, wu64, Int.toNat_natCast, Option.bind_some, cond_true, cond_false, Bool.not_true, Bool.not_false, Sum.elim_inl, Sum.elim_inr, decide_eq_true h1, decide_eq_true h2, Bool.true_and, Bool.and_true]
      · simp (disch := omega) only [dif_dec, dif_ndec, bif_eq, bif_neq, bif_ne, bif_nne, w64, wu64, Int.toNat_natCast, Option.bind_some, cond_true, cond_false, Bool.not_true, Bool.not_false, Sum.elim_inl, Sum.elim_inr, decide_eq_false h2, Bool.false_and, Bool.and_false]
    · simp (disch := omega) only [dif_dec, dif_ndec, bif_eq, bif_neq, bif_ne, bif_nne, w64, wu64, Int.toNat_natCast, Option.bind_some, cond_true, cond_false, Bool.not_true, Bool.not_false, Sum.elim_inl, Sum.elim_inr, decide_eq_false h1, Bool.false_and]

/-! ### Joints -/
def okC (m c : Int) : Bool := decide (-m ≤ c) && decide (c ≤ m)
theorem okC_iff {m c : Int} : okC m c = true ↔ -m ≤ c ∧ c ≤ m := by unfold okC; simp
def vecB (x y z : Int) : Bool := okC 4194304 x && (okC 4194304 y && okC 4194304 z)
theorem ok_or {α : Type} {m c : Int} (hm : 0 ≤ m) (no yes : α) : (bif decide (c < -m) then no else bif decide (c > m) then no else yes) = bif okC m c then yes else no := by
  unfold okC
  by_cases h1 : c < -m
  · simp (disch := omega) only [dif_dec, dif_ndec, bif_eq, bif_neq, bif_ne, bif_nne, w64, wu64, Int.toNat_natCast, Option.bind_some, cond_true, cond_false, Bool.not_true, Bool.not_false, Sum.elim_inl, Sum.elim_inr, decide_eq_false (show ¬ -m ≤ c by omega), Bool.false_and]
  · by_cases h2 : c > m
    · simp (disch := omega) only [dif_dec, dif_ndec, bif_eq, bif_neq, bif_ne, bif_nne, w64, wu64, Int.toNat_natCast, Option.bind_some, cond_true, cond_false, Bool.not_true, Bool.not_false, Sum.elim_inl, Sum.elim_inr, decide_eq_true (show -m ≤ c by omega), decide_eq_false (show ¬ c ≤ m by omega), Bool.true_and]
    · simp (disch := omega) only [dif_dec, dif_ndec, bif_eq, bif_neq, bif_ne, bif_nne, w64, wu64, Int.toNat_natCast, Option.bind_some, cond_true, cond_false, Bool.not_true, Bool.not_false, Sum.elim_inl, Sum.elim_inr, decide_eq_true (show -m ≤ c by omega), decide_eq_true (show c ≤ m by omega), Bool.true_and]
theorem long_val (x y z : Int) : robot_long.F x y z = some (!vecB x y z) := by
  rw [robot_long.F_eq]
  unfold robot_long.F0 vecB
  have h := loop_find (step := robot_long.p0.step) (fun i : Nat => (x, y, z, (i : Int))) 3 (fun i => bif okC 4194304 (([x, y, z] : List Int).getD i 0) then none else some (.inl true)) (.inr ()) (by
    intro i hi
    unfold robot_long.p0.step robot_long.p0.round
    simp only []
    simp (disch := omega) only [dif_dec, dif_ndec, bif_eq, bif_neq, bif_ne, bif_nne, w64, wu64, Int.toNat_natCast, Option.bind_some, cond_true, cond_false, Bool.not_true, Bool.not_false, Sum.elim_inl, Sum.elim_inr]
    rw [show (-4194304 : Int) = -(4194304 : Int) from rfl, ok_or (by omega)]
    cases okC 4194304 (([x, y, z] : List Int).getD i 0) <;> rfl) (by
    unfold robot_long.p0.step robot_long.p0.round
    simp only []
    simp (disch := omega) only [dif_dec, dif_ndec, bif_eq, bif_neq, bif_ne, bif_nne, w64, wu64, Int.toNat_natCast, Option.bind_some, cond_true, cond_false, Bool.not_true, Bool.not_false, Sum.elim_inl, Sum.elim_inr]) 3 0 (by omega)
  rw [show ((0 : Nat) : Int) = 0 from rfl] at h
  rw [h, findE_all (fun j _ _ => rfl)]
  simp only [allB, List.getD_cons_zero, List.getD_cons_succ, Bool.and_true]
  cases okC 4194304 x <;> cases okC 4194304 y <;> cases okC 4194304 z <;> rfl
theorem near_val (x y z : Int) : armplanref6_Near.F x y z 4194304 = some (vecB x y z) := by
  rw [armplanref6_Near.F_eq]
  unfold armplanref6_Near.F0 vecB
  have e2 : IntKind.wrap .i64 (0 - 4194304) = -(4194304 : Int) := by rw [w64 (by omega) (by omega)]; rfl
  have h := loop_find (step := armplanref6_Near.p0.step) (fun i : Nat => ((4194304 : Int), (i : Int), x, y, z)) 3 (fun i => bif okC 4194304 (([x, y, z] : List Int).getD i 0) then none else some (.inl false)) (.inr ()) (by
    intro i hi
    unfold armplanref6_Near.p0.step armplanref6_Near.p0.round
    simp only [e2]
    match i, hi with
    | 0, _ => simp (disch := omega) only [dif_dec, dif_ndec, bif_eq, bif_neq, bif_ne, bif_nne, w64, wu64, Int.toNat_natCast, Option.bind_some, cond_true, cond_false, Bool.not_true, Bool.not_false, Sum.elim_inl, Sum.elim_inr, ok_or, List.getD_cons_zero, List.getD_cons_succ]; cases okC 4194304 x <;> rfl
    | 1, _ => simp (disch := omega) only [dif_dec, dif_ndec, bif_eq, bif_neq, bif_ne, bif_nne, w64, wu64, Int.toNat_natCast, Option.bind_some, cond_true, cond_false, Bool.not_true, Bool.not_false, Sum.elim_inl, Sum.elim_inr, ok_or, List.getD_cons_zero, List.getD_cons_succ]; cases okC 4194304 y <;> rfl
    | 2, _ => simp (disch := omega) only [dif_dec, dif_ndec, bif_eq, bif_neq, bif_ne, bif_nne, w64, wu64, Int.toNat_natCast, Option.bind_some, cond_true, cond_false, Bool.not_true, Bool.not_false, Sum.elim_inl, Sum.elim_inr, ok_or, List.getD_cons_zero, List.getD_cons_succ]; cases okC 4194304 z <;> rfl) (by
    unfold armplanref6_Near.p0.step armplanref6_Near.p0.round
    simp only []
    simp (disch := omega) only [dif_dec, dif_ndec, bif_eq, bif_neq, bif_ne, bif_nne, w64, wu64, Int.toNat_natCast, Option.bind_some, cond_true, cond_false, Bool.not_true, Bool.not_false, Sum.elim_inl, Sum.elim_inr]) 3 0 (by omega)
  rw [show ((0 : Nat) : Int) = 0 from rfl] at h
  rw [h, findE_all (fun j _ _ => rfl)]
  simp only [allB, List.getD_cons_zero, List.getD_cons_succ, Bool.and_true]
  cases okC 4194304 x <;> cases okC 4194304 y <;> cases okC 4194304 z <;> rfl
def btwB (a x b : Int) : Bool := decide (a ≤ x) && decide (x ≤ b)
theorem between_val (a x b : Int) : robot_between.F a x b = some (btwB a x b) := by
  rw [robot_between.F_eq]
  unfold robot_between.F0 btwB
  by_cases h : a ≤ x
  · simp (disch := omega) only [dif_dec, dif_ndec, bif_eq, bif_neq, bif_ne, bif_nne, w64, wu64, Int.toNat_natCast, Option.bind_some, cond_true, cond_false, Bool.not_true, Bool.not_false, Sum.elim_inl, Sum.elim_inr, decide_eq_true h, Bool.true_and]
  · simp (disch := omega) only [dif_dec, dif_ndec, bif_eq, bif_neq, bif_ne, bif_nne, w64, wu64, Int.toNat_natCast, Option.bind_some, cond_true, cond_false, Bool.not_true, Bool.not_false, Sum.elim_inl, Sum.elim_inr, decide_eq_false h, Bool.false_and]
theorem rbetween_val (x a b : Int) : armplanref6_between.F x a b = some (btwB a x b) := by
  rw [armplanref6_between.F_eq]
  unfold armplanref6_between.F0 btwB
  by_cases h : a ≤ x
  · simp (disch := omega) only [dif_dec, dif_ndec, bif_eq, bif_neq, bif_ne, bif_nne, w64, wu64, Int.toNat_natCast, Option.bind_some, cond_true, cond_false, Bool.not_true, Bool.not_false, Sum.elim_inl, Sum.elim_inr, decide_eq_true h, Bool.true_and]
  · simp (disch := omega) only [dif_dec, dif_ndec, bif_eq, bif_neq, bif_ne, bif_nne, w64, wu64, Int.toNat_natCast, Option.bind_some, cond_true, cond_false, Bool.not_true, Bool.not_false, Sum.elim_inl, Sum.elim_inr, decide_eq_false h, Bool.false_and]
def reachV (k : Int) : Int := bif k == 0 then 0 else bif k == 1 then 524288 else bif k == 2 then 524288 else bif k == 3 then 524288 else 4194304
theorem bound_val (k : Int) : robot_bound.F k = some (reachV k) := by
  rw [robot_bound.F_eq]
  unfold robot_bound.F0 reachV
  simp only [some_bif]
theorem reach_val (k : Int) : armplanref6_reach.F k = some (reachV k) := by
  rw [armplanref6_reach.F_eq]
  unfold armplanref6_reach.F0 reachV
  simp only [some_bif]
theorem reachV_range (k : Int) : 0 ≤ reachV k ∧ reachV k ≤ 4194304 := by
  unfold reachV
  cases k == 0 <;> cases k == 1 <;> cases k == 2 <;> cases k == 3 <;> decide
/-- The joints before have this name. -/
def nameIn (js : List JT) (nm : ByteArray) (n : Nat) : Bool := anyB (fun i => eqS (js.getD i J0).1 nm) 0 n
theorem indexJ_val {js : List JT} {nm : ByteArray} (hl : js.length ≤ 2 ^ 60) : ∃ i : Int, slices_IndexFunc_Joint__robot_place_1.F js nm = some (i, nm) ∧ decide (i ≥ 0) = nameIn js nm js.length := by
  rw [slices_IndexFunc_Joint__robot_place_1.F_eq]
  unfold slices_IndexFunc_Joint__robot_place_1.F0
  have h := loop_find (step := slices_IndexFunc_Joint__robot_place_1.p0.step) (fun i : Nat => (js, (js.length : Int), (i : Int), nm)) js.length (fun i => bif eqS (js.getD i J0).1 nm then some (.inl ((i : Int), nm)) else none) (.inr nm) (by
    intro i hi
    unfold slices_IndexFunc_Joint__robot_place_1.p0.step slices_IndexFunc_Joint__robot_place_1.p0.round
    rw [robot_place_1.F_eq]
    unfold robot_place_1.F0
    simp only []
    simp (disch := omega) only [dif_dec, dif_ndec, bif_eq, bif_neq, bif_ne, bif_nne, w64, wu64, Int.toNat_natCast, Option.bind_some, cond_true, cond_false, Bool.not_true, Bool.not_false, Sum.elim_inl, Sum.elim_inr]
    cases eqS (js.getD i J0).1 nm <;> rfl) (by
    unfold slices_IndexFunc_Joint__robot_place_1.p0.step slices_IndexFunc_Joint__robot_place_1.p0.round
    simp only []
    simp (disch := omega) only [dif_dec, dif_ndec, bif_eq, bif_neq, bif_ne, bif_nne, w64, wu64, Int.toNat_natCast, Option.bind_some, cond_true, cond_false, Bool.not_true, Bool.not_false, Sum.elim_inl, Sum.elim_inr]) js.length 0 (by omega)
  rw [show ((0 : Nat) : Int) = 0 from rfl] at h
  rw [h, Option.bind_some]
  unfold nameIn
  generalize hk : js.length = n
  clear h hk
  have key : ∀ (k i : Nat), ∃ v : Int, Sum.elim (fun y4 => some (y4.1, y4.2)) (fun z5 => some (-1, z5)) (findE (fun i => bif eqS (js.getD i J0).1 nm then some (.inl ((i : Int), nm)) else none) (.inr nm : (Int × ByteArray) ⊕ ByteArray) i k) = some (v, nm) ∧ decide (v ≥ 0) = anyB (fun i => eqS (js.getD i J0).1 nm) i k := by
    intro k
    induction k with
    | zero => intro i; exact ⟨-1, rfl, rfl⟩
    | succ k ih =>
      intro i
      simp only [findE, anyB]
      cases hb : eqS (js.getD i J0).1 nm with
      | true => exact ⟨i, rfl, by simp⟩
      | false =>
        obtain ⟨v, h1, h2⟩ := ih (i + 1)
        exact ⟨v, h1, by rw [h2]; rfl⟩
  exact key n 0
theorem place_val {js : List JT} {nm : ByteArray} (hl : js.length ≤ 2 ^ 60) : ∃ i : Int, robot_place.F js nm = some i ∧ decide (i ≥ 0) = nameIn js nm js.length := by
  obtain ⟨i, h1, h2⟩ := indexJ_val (nm := nm) hl
  rw [robot_place.F_eq]
  unfold robot_place.F0
  rw [h1]
  exact ⟨i, rfl, h2⟩
/-- The error of a joint: the names before it, their number, the joint. -/
def chkJ (twice : Bool) (n : Int) (j : JT) : Int :=
  bif !nameB j.1 then 802 else bif twice then 802 else
  bif decide (j.2.1 < 0) then 803 else bif decide (j.2.1 > 6) then 803 else
  bif decide (j.2.2.1 < -1) then 804 else bif decide (j.2.2.1 ≥ n) then 804 else
  bif !vecB j.2.2.2.1.1 j.2.2.2.1.2.1 j.2.2.2.1.2.2 then 805 else
  bif decide (j.2.2.2.2.1 > j.2.2.2.2.2.1) then 806 else bif decide (j.2.2.2.2.1 < -(reachV j.2.1)) then 806 else bif decide (j.2.2.2.2.2.1 > reachV j.2.1) then 806 else
  bif !btwB 1 j.2.2.2.2.2.2.1 1024 then 807 else bif !btwB 1 j.2.2.2.2.2.2.2.1 1048576 then 807 else bif !btwB 1 j.2.2.2.2.2.2.2.2.1 1048576 then 807 else bif !btwB 1 j.2.2.2.2.2.2.2.2.2 1099511627776 then 807 else 0
theorem negW {k : Int} : IntKind.wrap .i64 (0 - reachV k) = -(reachV k) := by
  have := reachV_range k
  rw [w64 (by omega) (by omega)]; omega
theorem checkJ_val {js : List JT} (hl : js.length ≤ 2 ^ 60) (j : JT) : robot_checkJoint.F js j.1 j.2.1 j.2.2.1 j.2.2.2.1.1 j.2.2.2.1.2.1 j.2.2.2.1.2.2 j.2.2.2.2.1 j.2.2.2.2.2.1 j.2.2.2.2.2.2.1 j.2.2.2.2.2.2.2.1 j.2.2.2.2.2.2.2.2.1 j.2.2.2.2.2.2.2.2.2 = some (chkJ (nameIn js j.1 js.length) js.length j) := by
  obtain ⟨i, h1, h2⟩ := place_val (nm := j.1) hl
  rw [robot_checkJoint.F_eq]
  unfold robot_checkJoint.F0 chkJ
  simp only [bound_val, tname_val, h1, h2, long_val, between_val, Option.bind_some, some_bif, negW]
theorem rcheckJ_val {js : List JT} (hl : js.length ≤ 2 ^ 60) {i : Nat} (hi : i < js.length) (hn : (js.getD i J0).1.size ≤ 2 ^ 60) : armplanref6_checkJoint.F js (i : Int) = some (chkJ (nameIn js (js.getD i J0).1 i) (i : Int) (js.getD i J0)) := by
  rw [armplanref6_checkJoint.F_eq]
  unfold armplanref6_checkJoint.F0 chkJ
  simp (disch := omega) only [dif_dec, dif_ndec, bif_eq, bif_neq, bif_ne, bif_nne, w64, wu64, Int.toNat_natCast, Option.bind_some, cond_true, cond_false, Bool.not_true, Bool.not_false, Sum.elim_inl, Sum.elim_inr, rname_val hn]
  generalize hj : js.getD i J0 = j at *
  obtain ⟨j1, j2, j3, ⟨j4, j5, j6⟩, j7, j8, j9, j10, j11, j12⟩ := j
  simp only []
  have h := loop_find (step := armplanref6_checkJoint.p0.step) (fun k : Nat => (js, (i : Int), (k : Int), j1, j2, j3, j4, j5, j6, j7, j8, j9, j10, j11, j12)) i (fun k => bif eqS (js.getD k J0).1 j1 then some (.inl 802) else none) (.inr ((i : Int), j1, j2, j3, j4, j5, j6, j7, j8, j9, j10, j11, j12)) (by
    intro k hk
    unfold armplanref6_checkJoint.p0.step armplanref6_checkJoint.p0.round
    simp only []
    simp (disch := omega) only [dif_dec, dif_ndec, bif_eq, bif_neq, bif_ne, bif_nne, w64, wu64, Int.toNat_natCast, Option.bind_some, cond_true, cond_false, Bool.not_true, Bool.not_false, Sum.elim_inl, Sum.elim_inr]
    cases eqS (js.getD k J0).1 j1 <;> rfl) (by
    unfold armplanref6_checkJoint.p0.step armplanref6_checkJoint.p0.round
    simp only []
    simp (disch := omega) only [dif_dec, dif_ndec, bif_eq, bif_neq, bif_ne, bif_nne, w64, wu64, Int.toNat_natCast, Option.bind_some, cond_true, cond_false, Bool.not_true, Bool.not_false, Sum.elim_inl, Sum.elim_inr]) i 0 (by omega)
  rw [show ((0 : Nat) : Int) = 0 from rfl] at h
  rw [h, Option.bind_some, findE_any (P := fun k => eqS (js.getD k J0).1 j1) (g := fun _ => .inl 802) (fun _ _ _ => rfl), bif_elim]
  simp only [Sum.elim_inl, Sum.elim_inr, near_val, reach_val, rbetween_val, Option.bind_some, negW, some_bif]
  unfold nameIn
  congr 1
end Go.Abs
