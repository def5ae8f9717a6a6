/- A part of the proof that the text with the row names: printed readings of functions, or plain lemmas about them. -/
import Derived.Test.YtcljanaleeapnaaDoorL11
import Derived.Test.YtcljanaleeapnaaDoorM7
set_option linter.unusedVariables false
set_option linter.unusedSimpArgs false
namespace Go.Abs
open Go
theorem samples_val {b : List (Int × Int)} {s i : Int} (hs : 0 ≤ s) (hs' : s ≤ 18446744073709551615) (hi : 0 ≤ i) (hb : b.length ≤ 2 ^ 60) : armplanlaw23_samples.F b s i = some true := by
  rw [armplanlaw23_samples.F_eq]
  unfold armplanlaw23_samples.F0
  obtain ⟨i, rfl⟩ : ∃ n : Nat, i = n := ⟨i.toNat, by omega⟩
  have e1 : ∀ f : Nat → Int, armplanmake_Same.F (if usB b = true then (List.range b.length).map f else []) (if usB b = true then (List.range b.length).map f else []) = some true := by
    intro f
    refine same_refl ?_
    split <;> simp; omega
  rw [uniform_val hs hs' hb, Option.bind_some, runiform_val hs hs' hb, Option.bind_some, e1, Option.bind_some, cond_true, halton_val i hb, Option.bind_some, rhalton_val i hb, Option.bind_some, e1]
  rfl
theorem and_range (a : Int) (m : Int) : 0 ≤ ibits .and .u64 a m ∧ ibits .and .u64 a m ≤ 18446744073709551615 := wu64_range _
theorem samplesLaw_true {raw : List (Int × Int)} {l : List Int} {s i : Int} (hr : raw.length ≤ 2 ^ 60) (hl : l.length ≤ 2 ^ 60) (hs : 0 ≤ s) (hs' : s ≤ 18446744073709551615) (hi : 0 ≤ i) : armplanlaw23_SamplerSamples.F raw l s i = some true := by
  rw [armplanlaw23_SamplerSamples.F_eq]
  unfold armplanlaw23_SamplerSamples.F0
  obtain ⟨b, hb, hm, _⟩ := root_val hl
  have hb3 := hm.2.1
  rw [hb, Option.bind_some, awake_true, Option.bind_some, cond_true, samples_val hs hs' hi hr, Option.bind_some, cond_true, samples_val hs hs' hi (by omega), Option.bind_some, cond_true,
    samples_val (and_range _ _).1 (and_range _ _).2 (and_range _ _).1 (by omega)]
  rfl
theorem samples_good (x : List (Int × Int) × List Int × Int × Int × Unit) (g : GoodAll [.lf (.slc (.pair (.int .i64) (.int .i64))), .lf (.slc (.int .i64)), .lf (.int .u64), .lf (.int .u64)] x) : armplanlaw23_SamplerSamples.F x.1 x.2.1 x.2.2.1 x.2.2.2.1 = some true := by
  obtain ⟨⟨h1, _⟩, ⟨h2, _⟩, ⟨h3, h4⟩, ⟨h5, h6⟩, _⟩ := g
  simp only [maxu64, minu64] at h3 h4 h5 h6
  simp only [minB, reachBytes] at h1 h2
  exact samplesLaw_true (by omega) (by omega) h3 h4 h5
end Go.Abs
