/- A part of the proof that the text with the row names: printed readings of functions, or plain lemmas about them. -/
import Derived.Test.YtanopckddijfcaaGreatDoorC8Yb
import Derived.Test.YtanopckddijfcaaGreatDoorAbsD
set_option linter.unusedVariables false
set_option linter.unusedSimpArgs false
namespace Go.Abs
open Go
/-! ### Round -/
theorem round_val {a k : Int} (hk : 0 < k) (hk' : k ≤ 4611686018427387904) : armplanmake_Round.F a k = some (a % k) := by
  rw [armplanmake_Round.F_eq]
  unfold armplanmake_Round.F0
  rw [bif_pos (by simp; omega)]
  have h := Int.emod_nonneg a (show k ≠ 0 by omega)
  have h' := Int.emod_lt_of_pos a hk
  rcases Int.lt_or_le a 0 with ha | ha
  · have e : a.tmod k = if k ∣ a then 0 else a % k - k := by
      rw [Int.tmod_eq_emod]
      have : ¬ 0 ≤ a := by omega
      by_cases hd : k ∣ a
      · simp [hd, Int.emod_eq_zero_of_dvd hd]
      · simp [this, hd]; omega
    rw [e]
    split
    · rename_i hd
      rw [dif_ndec (by omega), Int.emod_eq_zero_of_dvd hd]
    · rename_i hd
      rw [dif_dec (by omega), w64 (by omega) (by omega)]
      congr 1; omega
  · rw [Int.tmod_eq_emod_of_nonneg ha, dif_ndec (by omega)]
theorem next_val {k i : Int} {l : List Int} (hk : 0 < k) (hk' : k ≤ 4611686018427387904) (hl : l.length ≤ 2 ^ 60) (hi : 0 ≤ i) (hi' : i ≤ 2 ^ 62) :
    ∃ v i', armplanmake_Source_Next.F k l i = some (v, l, i') ∧ 0 ≤ v ∧ v < k ∧ 0 ≤ i' ∧ i' ≤ 2 ^ 62 := by
  rw [armplanmake_Source_Next.F_eq]
  unfold armplanmake_Source_Next.F0
  by_cases h : i ≥ (l.length : Int)
  · rw [dif_dec h]; exact ⟨0, i, rfl, by omega, by omega, hi, hi'⟩
  · rw [dif_ndec h]
    have e : IntKind.wrap .i64 (IntKind.wrap .i64 (i + 1) - 1) = i := by rw [w64 (n := i + 1) (by omega) (by omega), w64 (by omega) (by omega)]; omega
    rw [e, dif_dec (by omega), dif_dec (by omega), round_val hk hk', Option.bind_some, w64 (by omega) (by omega)]
    exact ⟨_, _, rfl, Int.emod_nonneg _ (by omega), Int.emod_lt_of_pos _ hk, by omega, by omega⟩
theorem signed_val {k i : Int} {l : List Int} (hk : 0 ≤ k) (hk' : k ≤ 2 ^ 40) (hl : l.length ≤ 2 ^ 60) (hi : 0 ≤ i) (hi' : i ≤ 2 ^ 62) :
    ∃ v i', armplanmake_Source_Signed.F k l i = some (v, l, i') ∧ -k ≤ v ∧ v ≤ k ∧ 0 ≤ i' ∧ i' ≤ 2 ^ 62 := by
  rw [armplanmake_Source_Signed.F_eq]
  unfold armplanmake_Source_Signed.F0
  have e : IntKind.wrap .i64 (IntKind.wrap .i64 (2 * k) + 1) = 2 * k + 1 := by rw [w64 (n := 2 * k) (by omega) (by omega), w64 (by omega) (by omega)]
  rw [e]
  obtain ⟨v, i', h, h1, h2, h3, h4⟩ := next_val (k := 2 * k + 1) (l := l) (by omega) (by omega) hl hi hi'
  rw [h, Option.bind_some]
  simp only []
  rw [w64 (by omega) (by omega)]
  exact ⟨_, _, rfl, by omega, by omega, h3, h4⟩

theorem next_bind {α : Type} {k i : Int} {l : List Int} {f : Int × List Int × Int → Option α} {Q : α → Prop} (hk : 0 < k) (hk' : k ≤ 4611686018427387904) (hl : l.length ≤ 2 ^ 60) (hi : 0 ≤ i) (hi' : i ≤ 2 ^ 62)
    (h : ∀ v p, 0 ≤ v → v < k → 0 ≤ p → p ≤ 2 ^ 62 → ∃ r, f (v, l, p) = some r ∧ Q r) : ∃ r, (armplanmake_Source_Next.F k l i).bind f = some r ∧ Q r := by
  obtain ⟨v, p, e, h1, h2, h3, h4⟩ := next_val hk hk' hl hi hi'
  rw [e]
  exact h v p h1 h2 h3 h4
theorem signed_bind {α : Type} {k i : Int} {l : List Int} {f : Int × List Int × Int → Option α} {Q : α → Prop} (hk : 0 ≤ k) (hk' : k ≤ 2 ^ 40) (hl : l.length ≤ 2 ^ 60) (hi : 0 ≤ i) (hi' : i ≤ 2 ^ 62)
    (h : ∀ v p, -k ≤ v → v ≤ k → 0 ≤ p → p ≤ 2 ^ 62 → ∃ r, f (v, l, p) = some r ∧ Q r) : ∃ r, (armplanmake_Source_Signed.F k l i).bind f = some r ∧ Q r := by
  obtain ⟨v, p, e, h1, h2, h3, h4⟩ := signed_val hk hk' hl hi hi'
  rw [e]
  exact h v p h1 h2 h3 h4
theorem some_bind {α β : Type} {x : Option α} {f : α → Option β} {P : α → Prop} {Q : β → Prop} (hx : ∃ r, x = some r ∧ P r) (h : ∀ r, P r → ∃ s, f r = some s ∧ Q s) : ∃ s, x.bind f = some s ∧ Q s := by
  obtain ⟨r, e, hp⟩ := hx
  rw [e]
  exact h r hp
end Go.Abs
