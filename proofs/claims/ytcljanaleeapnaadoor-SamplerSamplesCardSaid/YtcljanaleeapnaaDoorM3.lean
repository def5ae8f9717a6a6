/- A part of the proof that the text with the row names: printed readings of functions, or plain lemmas about them. -/
import Derived.Test.YtcljanaleeapnaaDoorM2
set_option linter.unusedVariables false
set_option linter.unusedSimpArgs false
namespace Go.Abs
open Go

theorem power_val {b : Nat} : ∀ (k n : Nat), n * b ^ k < 2 ^ 63 → k < 2 ^ 62 → 1 ≤ b → loopF armplanlaw23_power.p0.step ((b : Int), (k : Int), (n : Int)) = some ((n * b ^ k : Nat) : Int)
  | 0, n, h, hk, hb => by
    refine loop_end ?_
    unfold armplanlaw23_power.p0.step armplanlaw23_power.p0.round
    simp only []
    rw [dif_ndec (by omega)]
    simp
  | k + 1, n, h, hk, hb => by
    have e : n * b ^ (k + 1) = n * b * b ^ k := by rw [Nat.pow_succ]; grind
    have h1 : n * b < 2 ^ 63 := by
      refine Nat.lt_of_le_of_lt ?_ (e ▸ h)
      exact Nat.le_mul_of_pos_right _ (Nat.pow_pos hb)
    have := power_val k (n * b) (e ▸ h) (by omega) hb
    rw [e, ← this]
    refine loop_next (y := ((b : Int), ((k : Nat) : Int), ((n * b : Nat) : Int))) ?_ rfl
    unfold armplanlaw23_power.p0.step armplanlaw23_power.p0.round
    simp only []
    rw [dif_dec (by omega), w64 (by omega) (by omega), ← Int.natCast_mul, wu64_nat, Nat.mod_eq_of_lt (by omega)]
    congr 4
    omega
theorem power_F {b k : Nat} (h : b ^ k < 2 ^ 63) (hk : k < 2 ^ 62) (hb : 1 ≤ b) : armplanlaw23_power.F (b : Int) (k : Int) = some ((b ^ k : Nat) : Int) := by
  rw [armplanlaw23_power.F_eq]
  unfold armplanlaw23_power.F0
  have := power_val k 1 (by omega) hk hb
  rw [show (1 : Int) = ((1 : Nat) : Int) from rfl, this]
  simp

/-- Where the fraction lies. -/
theorem at_val {b i m : Nat} (hb : 2 ≤ b) (hb' : b ≤ 29) (hi : i < 2 ^ 32) (hm : b ^ m ≤ 2 ^ 20) :
    IntKind.wrap .u64 ((IntKind.wrap .u64 (((rv b 32 i : Nat) : Int) * ((b ^ m : Nat) : Int))).tdiv ((b ^ nd b 32 i : Nat) : Int)) = ((lead b m i : Nat) : Int) := by
  have hV : b ^ nd b 32 i ≤ 2 ^ 37 := by
    by_cases h0 : i = 0
    · rw [h0]; simp [nd]
    · have := nd_pow hb 32 i (by omega)
      have h2 : i * b ≤ 2 ^ 32 * 29 := Nat.mul_le_mul (by omega) hb'
      omega
  have hR := rv_lt hb 32 i
  have hm2 : rv b 32 i * b ^ m ≤ 2 ^ 37 * 2 ^ 20 := Nat.mul_le_mul (by omega) hm
  have hl := lead_lt hb m i
  rw [← Int.natCast_mul, wu64_nat, Nat.mod_eq_of_lt (by omega), tdiv_nat, rv_lead hb m 32 i hi, wu64_nat, Nat.mod_eq_of_lt (by omega)]
theorem den_pos {b i : Nat} (hb : 2 ≤ b) : 0 < b ^ nd b 32 i := Nat.pow_pos (by omega)
theorem den_le {b i : Nat} (hb : 2 ≤ b) (hb' : b ≤ 29) (hi : i < 2 ^ 32) : b ^ nd b 32 i ≤ 2 ^ 37 := by
  by_cases h0 : i = 0
  · rw [h0]; simp [nd]
  · have := nd_pow hb 32 i (by omega)
    have h2 : i * b ≤ 2 ^ 32 * 29 := Nat.mul_le_mul (by omega) hb'
    omega

/-- What has been marked. -/
structure Marks (A : Nat → Nat) (N from_ i : Nat) (s : List Bool) : Prop where
  len : s.length = N
  mark : ∀ k, s.getD k false = true → ∃ j, from_ ≤ j ∧ j < i ∧ A j = k
theorem Marks.start (A : Nat → Nat) (N f : Nat) : Marks A N f f (List.replicate N false) :=
  ⟨by simp, fun k h => by
    rw [List.getD_eq_getElem?_getD, List.getElem?_replicate] at h
    split at h <;> simp at h⟩
theorem Marks.next {A : Nat → Nat} {N f i : Nat} {s : List Bool} (h : Marks A N f i s) (hf : f ≤ i) : Marks A N f (i + 1) (s.set (A i) true) := by
  refine ⟨by simp [h.len], fun k hk => ?_⟩
  by_cases e : A i = k
  · exact ⟨i, hf, by omega, e⟩
  · rw [List.getD_eq_getElem?_getD, List.getElem?_set_ne e, ← List.getD_eq_getElem?_getD] at hk
    obtain ⟨j, h1, h2, h3⟩ := h.mark k hk
    exact ⟨j, h1, by omega, h3⟩
theorem Marks.free {A : Nat → Nat} {N f i : Nat} {s : List Bool} (h : Marks A N f i s) (hA : ∀ j, f ≤ j → j < i → A j ≠ A i) : s.getD (A i) false = false := by
  cases hb : s.getD (A i) false with
  | false => rfl
  | true =>
    obtain ⟨j, h1, h2, h3⟩ := h.mark _ hb
    exact absurd h3 (hA j h1 h2)
end Go.Abs
