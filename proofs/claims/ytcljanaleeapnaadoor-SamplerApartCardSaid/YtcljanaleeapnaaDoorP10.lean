import Derived.Test.YtcljanaleeapnaaDoorL10
import Derived.Test.YtcljanaleeapnaaDoorM2
set_option linter.unusedVariables false
set_option linter.unusedSimpArgs false
namespace Go.Abs
open Go
theorem apart_true {s i j : Int} (hs : 0 ≤ s) (hs' : s ≤ 18446744073709551615) (hi : 0 ≤ i) (hi' : i ≤ 18446744073709551615) (hj : 0 ≤ j) (hj' : j ≤ 18446744073709551615) : armplanlaw23_SamplerApart.F s i j = some true := by
  obtain ⟨S, rfl⟩ := bvI_of hs hs'
  obtain ⟨I, rfl⟩ := bvI_of hi hi'
  obtain ⟨J, rfl⟩ := bvI_of hj hj'
  rw [armplanlaw23_SamplerApart.F_eq]
  unfold armplanlaw23_SamplerApart.F0
  simp only [awake_true, Option.bind_some, cond_true, word_val]
  by_cases h : I = J
  · subst h
    simp
  · have h1 : bvI I ≠ bvI J := fun e => h (bvI_inj e)
    have h2 : bvI (wordB S I) ≠ bvI (wordB S J) := fun e => h (wordB_inj (bvI_inj e))
    rw [beq_false_of_ne h1, beq_false_of_ne h2]
    rfl
theorem apart_good (x : Int × Int × Int × Unit) (g : GoodAll [.lf (.int .u64), .lf (.int .u64), .lf (.int .u64)] x) : armplanlaw23_SamplerApart.F x.1 x.2.1 x.2.2.1 = some true := by
  obtain ⟨⟨h1, h2⟩, ⟨h3, h4⟩, ⟨h5, h6⟩, _⟩ := g
  simp only [maxu64, minu64] at h1 h2 h3 h4 h5 h6
  exact apart_true h1 h2 h3 h4 h5 h6
end Go.Abs
