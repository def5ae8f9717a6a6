/- A part of the proof that the text with the row names: printed readings of functions, or plain lemmas about them. -/
import Derived.Test.YtceacicpjgffgaaAbsD
set_option linter.unusedVariables false
set_option linter.unusedSimpArgs false
namespace Go.Abs
open Go

theorem mulnp {a x y : Int} (h : y ≤ x) (ha : a ≤ 0) : a * x ≤ a * y := by
  have := Int.mul_le_mul_of_nonneg_left h (show 0 ≤ -a by omega)
  rw [Int.neg_mul, Int.neg_mul] at this
  omega
/-! ### Rows of a speed profile: plain definitions -/
abbrev RT := Int × (Int × (Int × Int))
abbrev R0 : RT := ((0 : Int), ((0 : Int), ((0 : Int), (0 : Int))))
def formB (r : RT) : Bool := decide (-1073741824 ≤ r.2.1 ∧ r.2.1 ≤ 1073741824 ∧ -1073741824 ≤ r.2.2.1 ∧ r.2.2.1 ≤ 1073741824 ∧ -1152921504606846976 ≤ r.2.2.2 ∧ r.2.2.2 ≤ 1152921504606846976)
/-- A row that is valid for n levels. -/
def rowB (n : Nat) (r : RT) : Bool := formB r && (decide (0 ≤ r.1 ∧ r.1 ≤ (n : Int) - 2) && !(decide (0 < r.2.1) && decide (0 < r.2.2.1)))
def topB (v : Int) : Bool := decide (0 ≤ v ∧ v ≤ 4096)
def validB (top : List Int) (rows : List RT) : Bool :=
  decide (2 ≤ top.length ∧ top.length ≤ 65 ∧ rows.length ≤ 16384) && (allB (fun i => topB (top.getD i 0)) 0 top.length && allB (fun k => rowB top.length (rows.getD k R0)) 0 rows.length)
structure VRow (n : Nat) (r : RT) : Prop where
  a : -1073741824 ≤ r.2.1 ∧ r.2.1 ≤ 1073741824
  b : -1073741824 ≤ r.2.2.1 ∧ r.2.2.1 ≤ 1073741824
  c : -1152921504606846976 ≤ r.2.2.2 ∧ r.2.2.2 ≤ 1152921504606846976
  lo : 0 ≤ r.1
  hi : r.1 ≤ (n : Int) - 2
  np : ¬ (0 < r.2.1 ∧ 0 < r.2.2.1)
structure ValidP (top : List Int) (rows : List RT) : Prop where
  n2 : 2 ≤ top.length
  n65 : top.length ≤ 65
  rl : rows.length ≤ 16384
  t : ∀ i, i < top.length → 0 ≤ top.getD i 0 ∧ top.getD i 0 ≤ 4096
  r : ∀ k, k < rows.length → VRow top.length (rows.getD k R0)
theorem rowB_iff {n : Nat} {r : RT} : rowB n r = true ↔ VRow n r := by
  unfold rowB formB
  simp only [Bool.and_eq_true, decide_eq_true_eq, Bool.not_eq_true', Bool.and_eq_false_iff, decide_eq_false_iff_not]
  constructor
  · rintro ⟨⟨h1, h2, h3, h4, h5, h6⟩, ⟨h7, h8⟩, h9⟩
    exact ⟨⟨h1, h2⟩, ⟨h3, h4⟩, ⟨h5, h6⟩, h7, h8, fun h => by omega⟩
  · rintro ⟨⟨h1, h2⟩, ⟨h3, h4⟩, ⟨h5, h6⟩, h7, h8, h9⟩
    exact ⟨⟨h1, h2, h3, h4, h5, h6⟩, ⟨h7, h8⟩, by omega⟩
theorem validB_iff {top : List Int} {rows : List RT} : validB top rows = true ↔ ValidP top rows := by
  unfold validB topB
  rw [Bool.and_eq_true, Bool.and_eq_true, decide_eq_true_eq, allB_iff, allB_iff]
  constructor
  · rintro ⟨⟨h1, h2, h3⟩, h4, h5⟩
    exact ⟨h1, h2, h3, fun i hi => of_decide_eq_true (h4 i (Nat.zero_le _) (by omega)), fun k hk => rowB_iff.1 (h5 k (Nat.zero_le _) (by omega))⟩
  · rintro ⟨h1, h2, h3, h4, h5⟩
    exact ⟨⟨h1, h2, h3⟩, fun i _ hi => decide_eq_true (h4 i (by omega)), fun k _ hk => rowB_iff.2 (h5 k (by omega))⟩

/-! ### Satisfied rows, feasible levels -/
def satB (r : RT) (x : List Int) : Bool := decide (r.2.1 * x.getD r.1.toNat 0 + r.2.2.1 * x.getD (r.1.toNat + 1) 0 ≤ r.2.2.2)
def underB (top x : List Int) : Bool := allB (fun i => decide (0 ≤ x.getD i 0 ∧ x.getD i 0 ≤ top.getD i 0)) 0 x.length
def satsB (rows : List RT) (x : List Int) : Bool := allB (fun k => satB (rows.getD k R0) x) 0 rows.length
def feasB (top : List Int) (rows : List RT) (x : List Int) : Bool := validB top rows && (decide (x.length = top.length) && (underB top x && satsB rows x))
structure FeasP (top : List Int) (rows : List RT) (x : List Int) : Prop where
  v : ValidP top rows
  l : x.length = top.length
  u : ∀ i, i < x.length → 0 ≤ x.getD i 0 ∧ x.getD i 0 ≤ top.getD i 0
  s : ∀ k, k < rows.length → (rows.getD k R0).2.1 * x.getD (rows.getD k R0).1.toNat 0 + (rows.getD k R0).2.2.1 * x.getD ((rows.getD k R0).1.toNat + 1) 0 ≤ (rows.getD k R0).2.2.2
theorem satsB_iff {rows : List RT} {x : List Int} : satsB rows x = true ↔ ∀ k, k < rows.length → (rows.getD k R0).2.1 * x.getD (rows.getD k R0).1.toNat 0 + (rows.getD k R0).2.2.1 * x.getD ((rows.getD k R0).1.toNat + 1) 0 ≤ (rows.getD k R0).2.2.2 := by
  unfold satsB satB
  rw [allB_iff]
  constructor
  · intro h k hk
    exact of_decide_eq_true (h k (Nat.zero_le _) (by omega))
  · intro h k _ hk
    exact decide_eq_true (h k (by omega))
theorem feasB_iff {top : List Int} {rows : List RT} {x : List Int} : feasB top rows x = true ↔ FeasP top rows x := by
  unfold feasB underB
  rw [Bool.and_eq_true, Bool.and_eq_true, Bool.and_eq_true, validB_iff, decide_eq_true_eq, allB_iff, satsB_iff]
  constructor
  · rintro ⟨h1, h2, h3, h4⟩
    exact ⟨h1, h2, fun i hi => of_decide_eq_true (h3 i (Nat.zero_le _) (by omega)), h4⟩
  · rintro ⟨h1, h2, h3, h4⟩
    exact ⟨h1, h2, fun i _ hi => decide_eq_true (h3 i (by omega)), h4⟩

/-! ### What a row bounds -/
def actB (r : RT) : Bool := decide (0 < r.2.1) != decide (0 < r.2.2.1)
def tgt (r : RT) : Nat := if 0 < r.2.1 then r.1.toNat else r.1.toNat + 1
def bnd (r : RT) (x : List Int) : Int := if 0 < r.2.1 then (r.2.2.2 - r.2.2.1 * x.getD (r.1.toNat + 1) 0) / r.2.1 else (r.2.2.2 - r.2.1 * x.getD r.1.toNat 0) / r.2.2.1
def nearB (x : List Int) : Bool := allB (fun i => decide (-1073741824 ≤ x.getD i 0 ∧ x.getD i 0 ≤ 1073741824)) 0 x.length
def bndOk (r : RT) (x : List Int) : Bool := actB r && (formB r && (decide (0 ≤ r.1 ∧ r.1 ≤ (x.length : Int) - 2) && nearB x))
def boundV (r : RT) (x : List Int) : Int × (Int × Bool) := bif bndOk r x then ((tgt r : Int), (bnd r x, true)) else ((0 : Int), ((0 : Int), false))
def impB (r : RT) (x : List Int) : Bool := actB r && decide (bnd r x < x.getD (tgt r) 0)
theorem tgt_lt {n : Nat} {r : RT} (h : VRow n r) : tgt r < n := by
  have h1 := h.lo
  have h2 := h.hi
  unfold tgt
  split <;> omega

/-- A feasible list lies below a bound that is taken from above it. -/
theorem below_bnd {n : Nat} {r : RT} (h : VRow n r) (ha : actB r = true) {x y : List Int} (hxy : ∀ i, i < n → y.getD i 0 ≤ x.getD i 0) (hs : r.2.1 * y.getD r.1.toNat 0 + r.2.2.1 * y.getD (r.1.toNat + 1) 0 ≤ r.2.2.2) : y.getD (tgt r) 0 ≤ bnd r x := by
  obtain ⟨_, _, _, h1, h2, h3⟩ := h
  unfold actB at ha
  unfold tgt bnd
  by_cases hA : 0 < r.2.1
  · rw [if_pos hA, if_pos hA]
    have hB : r.2.2.1 ≤ 0 := by omega
    rw [Int.le_ediv_iff_mul_le hA]
    have h4 := hxy (r.1.toNat + 1) (by omega)
    have h5 : r.2.2.1 * x.getD (r.1.toNat + 1) 0 ≤ r.2.2.1 * y.getD (r.1.toNat + 1) 0 := mulnp h4 hB
    rw [Int.mul_comm]
    omega
  · rw [if_neg hA, if_neg hA]
    have hB : 0 < r.2.2.1 := by
      rw [decide_eq_false hA] at ha
      cases hb : decide (0 < r.2.2.1) with
      | false => rw [hb] at ha; cases ha
      | true => exact of_decide_eq_true hb
    rw [Int.le_ediv_iff_mul_le hB]
    have h4 := hxy r.1.toNat (by omega)
    have h5 : r.2.1 * x.getD r.1.toNat 0 ≤ r.2.1 * y.getD r.1.toNat 0 := mulnp h4 (by omega)
    rw [Int.mul_comm]
    omega
/-- A row that bounds and does not improve is satisfied. -/
theorem sat_of_fix {r : RT} {x : List Int} (ha : actB r = true) (h : ¬ bnd r x < x.getD (tgt r) 0) : r.2.1 * x.getD r.1.toNat 0 + r.2.2.1 * x.getD (r.1.toNat + 1) 0 ≤ r.2.2.2 := by
  unfold actB at ha
  unfold tgt bnd at h
  by_cases hA : 0 < r.2.1
  · rw [if_pos hA, if_pos hA, Int.not_lt, Int.le_ediv_iff_mul_le hA, Int.mul_comm] at h
    omega
  · have hB : 0 < r.2.2.1 := by
      rw [decide_eq_false hA] at ha
      cases hb : decide (0 < r.2.2.1) with
      | false => rw [hb] at ha; cases ha
      | true => exact of_decide_eq_true hb
    rw [if_neg hA, if_neg hA, Int.not_lt, Int.le_ediv_iff_mul_le hB, Int.mul_comm] at h
    omega
/-- A row without a positive coefficient that is broken is broken below. -/
theorem broken_below {n : Nat} {r : RT} (h : VRow n r) (ha : actB r = false) {x y : List Int} (hxy : ∀ i, i < n → y.getD i 0 ≤ x.getD i 0) (hs : ¬ r.2.1 * x.getD r.1.toNat 0 + r.2.2.1 * x.getD (r.1.toNat + 1) 0 ≤ r.2.2.2) : ¬ r.2.1 * y.getD r.1.toNat 0 + r.2.2.1 * y.getD (r.1.toNat + 1) 0 ≤ r.2.2.2 := by
  obtain ⟨_, _, _, h1, h2, h3⟩ := h
  have hA : r.2.1 ≤ 0 ∧ r.2.2.1 ≤ 0 := by
    unfold actB at ha
    by_cases c1 : 0 < r.2.1
    · by_cases c2 : 0 < r.2.2.1
      · exact absurd ⟨c1, c2⟩ h3
      · rw [decide_eq_true c1, decide_eq_false c2] at ha; cases ha
    · by_cases c2 : 0 < r.2.2.1
      · rw [decide_eq_false c1, decide_eq_true c2] at ha; cases ha
      · omega
  have h4 : r.2.1 * x.getD r.1.toNat 0 ≤ r.2.1 * y.getD r.1.toNat 0 := mulnp (hxy _ (by omega)) hA.1
  have h5 : r.2.2.1 * x.getD (r.1.toNat + 1) 0 ≤ r.2.2.1 * y.getD (r.1.toNat + 1) 0 := mulnp (hxy _ (by omega)) hA.2
  omega
end Go.Abs
