/- A part of the proof that the text with the row names: printed readings of functions, or plain lemmas about them. -/
import Derived.Test.YtanopckddijfcaaGreatDoorC8YM1
set_option linter.unusedVariables false
set_option linter.unusedSimpArgs false
namespace Go.Abs
open Go

theorem idx_any (P : Nat → Bool) : ∀ (k i : Nat), ∃ v : Int, Sum.elim (fun y4 => some y4) (fun _ => some (-1 : Int)) (findE (fun i => bif P i then some (.inl (i : Int)) else none) (.inr () : Int ⊕ Unit) i k) = some v ∧ decide (v ≥ 0) = anyB P i k
  | 0, i => ⟨-1, rfl, rfl⟩
  | k + 1, i => by
    simp only [findE, anyB]
    cases hb : P i with
    | true => exact ⟨i, rfl, by simp⟩
    | false =>
      obtain ⟨v, h1, h2⟩ := idx_any P k (i + 1)
      exact ⟨v, h1, by rw [h2]; rfl⟩
theorem anyB_congr {P Q : Nat → Bool} : ∀ {k i : Nat}, (∀ j, i ≤ j → j < i + k → P j = Q j) → anyB P i k = anyB Q i k
  | 0, _, _ => rfl
  | k + 1, i, h => by
    simp only [anyB]
    rw [h i (Nat.le_refl _) (by omega), anyB_congr (k := k) fun j h1 h2 => h j (by omega) (by omega)]
theorem allB_congr {P Q : Nat → Bool} : ∀ {k i : Nat}, (∀ j, i ≤ j → j < i + k → P j = Q j) → allB P i k = allB Q i k
  | 0, _, _ => rfl
  | k + 1, i, h => by
    simp only [allB]
    rw [h i (Nat.le_refl _) (by omega), allB_congr (k := k) fun j h1 h2 => h j (by omega) (by omega)]
theorem any_not {P : Nat → Bool} : ∀ {k i : Nat}, anyB (fun j => !P j) i k = !allB P i k
  | 0, _ => rfl
  | k + 1, i => by simp only [anyB, allB, any_not (P := P) (k := k) (i := i + 1)]; cases P i <;> rfl
theorem btwB_iff {a x b : Int} : btwB a x b = true ↔ a ≤ x ∧ x ≤ b := by unfold btwB; simp
theorem btw_or {α : Type} {a x b : Int} (no yes : α) : (bif decide (x < a) then no else bif decide (x > b) then no else yes) = bif btwB a x b then yes else no := by
  unfold btwB
  by_cases h1 : x < a
  · simp (disch := omega) only [dif_dec, dif_ndec, bif_eq, bif_neq, bif_ne, bif_nne, w64, wu64, Int.toNat_natCast, Option.bind_some, cond_true, cond_false, Bool.not_true, Bool.not_false, Sum.elim_inl, Sum.elim_inr, decide_eq_false (show ¬ a ≤ x by omega), Bool.false_and]
  · by_cases h2 : x > b
    · simp (disch := omega) only [dif_dec, dif_ndec, bif_eq, bif_neq, bif_ne, bif_nne, w64, wu64, Int.toNat_natCast, Option.bind_some, cond_true, cond_false, Bool.not_true, Bool.not_false, Sum.elim_inl, Sum.elim_inr, decide_eq_true (show a ≤ x by omega), decide_eq_false (show ¬ x ≤ b by omega), Bool.true_and]
    · simp (disch := omega) only [dif_dec, dif_ndec, bif_eq, bif_neq, bif_ne, bif_nne, w64, wu64, Int.toNat_natCast, Option.bind_some, cond_true, cond_false, Bool.not_true, Bool.not_false, Sum.elim_inl, Sum.elim_inr, decide_eq_true (show a ≤ x by omega), decide_eq_true (show x ≤ b by omega), Bool.true_and]

/-! ### Robots -/
def chkM (n : Int) (m : MT) : Int :=
  bif decide (m.1 < 0) then 808 else bif decide (m.1 ≥ n) then 808 else bif !btwB 1 m.2.1 65536 then 808 else bif !vecB m.2.2.1 m.2.2.2.1 m.2.2.2.2 then 808 else 0
def mErr (n : Int) (ms : List MT) (i : Nat) : Int := chkM n (ms.getD i M0)
def jErr (js : List JT) (i : Nat) : Int := chkJ (nameIn js (js.getD i J0).1 i) (i : Int) (js.getD i J0)
def chkRobot (js : List JT) (ms : List MT) : Int :=
  bif decide ((js.length : Int) < 1) then 801 else bif decide ((js.length : Int) > 10) then 801 else
  bif firstErr (jErr js) 0 js.length != 0 then firstErr (jErr js) 0 js.length else
  bif decide ((ms.length : Int) > 32) then 808 else firstErr (mErr js.length ms) 0 ms.length
theorem nameIn_take {js : List JT} {nm : ByteArray} {i : Nat} (hi : i ≤ js.length) : nameIn (js.take i) nm (js.take i).length = nameIn js nm i := by
  have hl : (js.take i).length = i := by rw [List.length_take]; omega
  rw [hl]
  unfold nameIn
  refine anyB_congr fun j _ h => ?_
  rw [List.getD_eq_getElem?_getD, List.getD_eq_getElem?_getD, List.getElem?_take, if_pos (by omega)]
theorem findE_inl {B : Type} (f : Nat → Int) (y : B) (i k : Nat) : findE (fun j => bif f j != 0 then some (Sum.inl (f j)) else none) (Sum.inr y : Int ⊕ B) i k = (bif firstErr f i k != 0 then .inl (firstErr f i k) else .inr y) := findE_err (g := Sum.inl) fun _ _ _ => rfl
theorem bif_ne0 (x : Int) : (bif x != 0 then x else 0) = x := by
  cases h : (x != 0) with
  | true => rfl
  | false => simpa using Eq.symm (by simpa using h : x = 0)
theorem robotCheck_val {js : List JT} {ms : List MT} (hj : js.length ≤ 2 ^ 60) (hm : ms.length ≤ 2 ^ 60) : robot_Check.F js ms = some (chkRobot js ms) := by
  rw [robot_Check.F_eq]
  unfold robot_Check.F0 chkRobot
  have h1 := loop_find (step := robot_Check.p0.step) (fun i : Nat => (js, (js.length : Int), (i : Int), js, ms)) js.length (fun i => bif jErr js i != 0 then some (.inl (jErr js i)) else none) (.inr (js, ms)) (by
    intro i hi
    unfold robot_Check.p0.step robot_Check.p0.round
    simp only []
    have hl : (js.take i).length = i := by rw [List.length_take]; omega
    have hc := checkJ_val (js := js.take i) (by rw [hl]; omega) (js.getD i J0)
    rw [nameIn_take (by omega), hl] at hc
    simp (disch := omega) only [dif_dec, dif_ndec, bif_eq, bif_neq, bif_ne, bif_nne, w64, wu64, Int.toNat_natCast, Option.bind_some, cond_true, cond_false, Bool.not_true, Bool.not_false, Sum.elim_inl, Sum.elim_inr, hc]
    unfold jErr
    cases (chkJ (nameIn js (js.getD i J0).1 i) (i : Int) (js.getD i J0) != 0) <;> rfl) (by
    unfold robot_Check.p0.step robot_Check.p0.round
    simp only []
    simp (disch := omega) only [dif_dec, dif_ndec, bif_eq, bif_neq, bif_ne, bif_nne, w64, wu64, Int.toNat_natCast, Option.bind_some, cond_true, cond_false, Bool.not_true, Bool.not_false, Sum.elim_inl, Sum.elim_inr]) js.length 0 (by omega)
  have h2 := loop_find (step := robot_Check.p1.step) (fun i : Nat => (ms, (ms.length : Int), (i : Int), js, ms)) ms.length (fun i => bif mErr js.length ms i != 0 then some (.inl (mErr js.length ms i)) else none) (.inr ()) (by
    intro i hi
    unfold robot_Check.p1.step robot_Check.p1.round
    simp only []
    simp (disch := omega) only [dif_dec, dif_ndec, bif_eq, bif_neq, bif_ne, bif_nne, w64, wu64, Int.toNat_natCast, Option.bind_some, cond_true, cond_false, Bool.not_true, Bool.not_false, Sum.elim_inl, Sum.elim_inr, between_val, long_val]
    unfold mErr chkM
    generalize decide ((ms.getD i M0).1 < 0) = b1
    generalize decide ((ms.getD i M0).1 ≥ (js.length : Int)) = b2
    generalize btwB 1 (ms.getD i M0).2.1 65536 = b3
    generalize vecB (ms.getD i M0).2.2.1 (ms.getD i M0).2.2.2.1 (ms.getD i M0).2.2.2.2 = b4
    cases b1 <;> cases b2 <;> cases b3 <;> cases b4 <;> rfl) (by
    unfold robot_Check.p1.step robot_Check.p1.round
    simp only []
    simp (disch := omega) only [dif_dec, dif_ndec, bif_eq, bif_neq, bif_ne, bif_nne, w64, wu64, Int.toNat_natCast, Option.bind_some, cond_true, cond_false, Bool.not_true, Bool.not_false, Sum.elim_inl, Sum.elim_inr]) ms.length 0 (by omega)
  rw [show ((0 : Nat) : Int) = 0 from rfl] at h1 h2
  rw [h1, Option.bind_some, findE_inl (jErr js), bif_elim]
  simp only [Sum.elim_inl, Sum.elim_inr]
  rw [h2, Option.bind_some, findE_inl (mErr js.length ms), bif_elim]
  simp only [Sum.elim_inl, Sum.elim_inr, some_bif, bif_ne0]
theorem rrobotCheck_val {js : List JT} {ms : List MT} (hj : js.length ≤ 2 ^ 60) (hm : ms.length ≤ 2 ^ 60) (hn : ∀ j ∈ js, j.1.size ≤ 2 ^ 60) : armplanref6_CheckRobot.F js ms = some (chkRobot js ms) := by
  rw [armplanref6_CheckRobot.F_eq]
  unfold armplanref6_CheckRobot.F0 chkRobot
  have h1 := loop_find (step := armplanref6_CheckRobot.p0.step) (fun i : Nat => ((i : Int), js, ms)) js.length (fun i => bif jErr js i != 0 then some (.inl (jErr js i)) else none) (.inr (js, ms)) (by
    intro i hi
    unfold armplanref6_CheckRobot.p0.step armplanref6_CheckRobot.p0.round
    simp only []
    have hmem : js.getD i J0 ∈ js := by rw [List.getD_eq_getElem?_getD, List.getElem?_eq_getElem hi]; exact List.getElem_mem _
    have hc := rcheckJ_val hj hi (hn _ hmem)
    simp (disch := omega) only [dif_dec, dif_ndec, bif_eq, bif_neq, bif_ne, bif_nne, w64, wu64, Int.toNat_natCast, Option.bind_some, cond_true, cond_false, Bool.not_true, Bool.not_false, Sum.elim_inl, Sum.elim_inr, hc]
    unfold jErr
    cases (chkJ (nameIn js (js.getD i J0).1 i) (i : Int) (js.getD i J0) != 0) <;> rfl) (by
    unfold armplanref6_CheckRobot.p0.step armplanref6_CheckRobot.p0.round
    simp only []
    simp (disch := omega) only [dif_dec, dif_ndec, bif_eq, bif_neq, bif_ne, bif_nne, w64, wu64, Int.toNat_natCast, Option.bind_some, cond_true, cond_false, Bool.not_true, Bool.not_false, Sum.elim_inl, Sum.elim_inr]) js.length 0 (by omega)
  have h2 := loop_find (step := armplanref6_CheckRobot.p1.step) (fun i : Nat => ((i : Int), js, ms)) ms.length (fun i => bif mErr js.length ms i != 0 then some (.inl (mErr js.length ms i)) else none) (.inr ()) (by
    intro i hi
    unfold armplanref6_CheckRobot.p1.step armplanref6_CheckRobot.p1.round
    simp only []
    simp (disch := omega) only [dif_dec, dif_ndec, bif_eq, bif_neq, bif_ne, bif_nne, w64, wu64, Int.toNat_natCast, Option.bind_some, cond_true, cond_false, Bool.not_true, Bool.not_false, Sum.elim_inl, Sum.elim_inr, rbetween_val, near_val]
    unfold mErr chkM
    generalize decide ((ms.getD i M0).1 < 0) = b1
    generalize decide ((ms.getD i M0).1 ≥ (js.length : Int)) = b2
    generalize btwB 1 (ms.getD i M0).2.1 65536 = b3
    generalize vecB (ms.getD i M0).2.2.1 (ms.getD i M0).2.2.2.1 (ms.getD i M0).2.2.2.2 = b4
    cases b1 <;> cases b2 <;> cases b3 <;> cases b4 <;> rfl) (by
    unfold armplanref6_CheckRobot.p1.step armplanref6_CheckRobot.p1.round
    simp only []
    simp (disch := omega) only [dif_dec, dif_ndec, bif_eq, bif_neq, bif_ne, bif_nne, w64, wu64, Int.toNat_natCast, Option.bind_some, cond_true, cond_false, Bool.not_true, Bool.not_false, Sum.elim_inl, Sum.elim_inr]) ms.length 0 (by omega)
  rw [show ((0 : Nat) : Int) = 0 from rfl] at h1 h2
  rw [h1, Option.bind_some, findE_inl (jErr js), bif_elim]
  simp only [Sum.elim_inl, Sum.elim_inr]
  rw [h2, Option.bind_some, findE_inl (mErr js.length ms), bif_elim]
  simp only [Sum.elim_inl, Sum.elim_inr, some_bif, bif_ne0]

/-! ### Scenes -/
def linkB (n k : Int) : Bool := bif decide (k ≥ -1) then decide (k < n) else false

end Go.Abs
