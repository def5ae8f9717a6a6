/- A part of the proof that the text with the row names: printed readings of functions, or plain lemmas about them. -/
import Derived.Test.YtcljanaleeapnaaDoorL12
import Derived.Test.YtcljanaleeapnaaDoorM7
set_option linter.unusedVariables false
set_option linter.unusedSimpArgs false
namespace Go.Abs
open Go
theorem moderate_us {b : List (Int × Int)} (hm : Moderate b) (hm' : ∀ x ∈ b, x.1 ≤ 40) : usB b = true := usB_iff.2 ⟨hm.1, by have := hm.2.1; omega, fun i hi => (moderate_valid hm hm' i hi).1⟩
theorem hv_range {b : List (Int × Int)} {i k : Nat} (hk : k < 10) (h : validB (lo_ b k) (hi_ b k) = true) (hs : hi_ b k ≤ lo_ b k + 200) : hv b i k = lo_ b k + ((radN k i * (hi_ b k - lo_ b k + 1).toNat / radD k i : Nat) : Int) ∧ lo_ b k ≤ hv b i k ∧ hv b i k ≤ hi_ b k := by
  obtain ⟨_, h1, h2⟩ := rad_at (i := i) hk
  obtain ⟨v1, v2, v3⟩ := validB_iff.1 h
  have hm : radN k i * (hi_ b k - lo_ b k + 1).toNat ≤ 2 ^ 37 * 2 ^ 8 := Nat.mul_le_mul (by omega) (by omega)
  obtain ⟨e, hlt⟩ := place_val (num := radN k i) (den := radD k i) h (by omega) h1 (by omega)
  have := (hv_val b (i := i) hk).1
  rw [e] at this
  have e2 := (Option.some.inj this).symm
  generalize radN k i * (hi_ b k - lo_ b k + 1).toNat / radD k i = q at *
  omega
theorem within_true {l : List Int} {s i : Int} (hl : l.length ≤ 2 ^ 60) (hs : 0 ≤ s) (hs' : s ≤ 18446744073709551615) (hi : 0 ≤ i) : armplanlaw23_SamplerWithin.F l s i = some true := by
  rw [armplanlaw23_SamplerWithin.F_eq]
  unfold armplanlaw23_SamplerWithin.F0
  obtain ⟨i, rfl⟩ : ∃ n : Nat, i = n := ⟨i.toNat, by omega⟩
  obtain ⟨b, hb, hm, hm'⟩ := root_val hl
  have hb3 := hm.2.1
  have hmv := moderate_valid hm hm'
  have hus := moderate_us hm hm'
  rw [hb, Option.bind_some, awake_true, Option.bind_some, cond_true, uniform_val hs hs' (by omega), Option.bind_some, if_pos hus,
    has_val (by omega) (fun i hi => (hmv i hi).1) (fun k hk => by obtain ⟨_, _, _, _, _, h⟩ := uv_val b (i := (i : Int)) hs hs' (hmv k hk).1; exact h), Option.bind_some, cond_true, halton_val i (by omega), Option.bind_some, if_pos hus,
    has_val (by omega) (fun i hi => (hmv i hi).1) (fun k hk => (hv_range (by omega) (hmv k hk).1 (by have := hmv k hk; omega)).2)]
  rfl
theorem within_good (x : List Int × Int × Int × Unit) (g : GoodAll [.lf (.slc (.int .i64)), .lf (.int .u64), .lf (.int .u64)] x) : armplanlaw23_SamplerWithin.F x.1 x.2.1 x.2.2.1 = some true := by
  obtain ⟨⟨h2, _⟩, ⟨h3, h4⟩, ⟨h5, h6⟩, _⟩ := g
  simp only [maxu64, minu64] at h3 h4 h5 h6
  simp only [minB, reachBytes] at h2
  exact within_true (by omega) h3 h4 h5
end Go.Abs
