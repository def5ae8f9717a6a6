/- A part of the proof that the text with the row names: printed readings of functions, or plain lemmas about them. -/
import Derived.Test.YtcljanaleeapnaaDoorL3
import Derived.Test.YtcljanaleeapnaaDoorM2
set_option linter.unusedVariables false
set_option linter.unusedSimpArgs false
namespace Go.Abs
open Go
theorem radicals_true {b i : Int} (k : Int) (hb : 0 ≤ b) (hb' : b ≤ 18446744073709551615) (hi : 0 ≤ i) : armplanlaw23_SamplerRadicals.F b i k = some true := by
  rw [armplanlaw23_SamplerRadicals.F_eq]
  unfold armplanlaw23_SamplerRadicals.F0
  have h0 := Int.tmod_nonneg (40 : Int) hb
  have h0' := Int.tmod_lt_of_pos b (show (0 : Int) < 40 by decide)
  obtain ⟨r1, h1⟩ := rad_some hb hb' hi
  obtain ⟨r2, h2⟩ := rad_some (i := i) h0 (by omega) hi
  obtain ⟨r3, h3⟩ := prime_some k
  obtain ⟨r4, h4⟩ := prime_some (ibits .and .i64 k 15)
  simp only [radical_eq, prime_eq, h1, h2, h3, h4, awake_true, Option.bind_some, beq_self_eq_true, cond_true]
theorem radicals_good (x : Int × Int × Int × Unit) (g : GoodAll [.lf (.int .u64), .lf (.int .u64), .lf (.int .i64)] x) : armplanlaw23_SamplerRadicals.F x.1 x.2.1 x.2.2.1 = some true := by
  obtain ⟨⟨h1, h2⟩, ⟨h3, h4⟩, _⟩ := g
  simp only [maxu64, minu64] at h1 h2 h3 h4
  exact radicals_true _ h1 h2 h3
end Go.Abs
