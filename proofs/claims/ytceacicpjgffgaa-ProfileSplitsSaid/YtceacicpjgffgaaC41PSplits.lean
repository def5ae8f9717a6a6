/- A part of the proof that the text with the row names: printed readings of functions, or plain lemmas about them. -/
import Derived.Test.YtceacicpjgffgaaC41GLProfileSplits
import Derived.Test.YtceacicpjgffgaaC41M6
set_option linter.unusedVariables false
set_option linter.unusedSimpArgs false
namespace Go.Abs
open Go
theorem splits_law {x l : List Int} (a0 a1 a2 a3 b c : Int) (hl : l.length ≤ 2 ^ 60) : armplanlaw41_ProfileSplits.F a0 a1 a2 a3 x l b c = some true := by
  rw [armplanlaw41_ProfileSplits.F_eq]
  unfold armplanlaw41_ProfileSplits.F0
  by_cases h : (x.length : Int) > 200
  · rw [dif_dec h, awake41_true]; rfl
  · obtain ⟨top, rows, e, hM⟩ := limits_val hl
    have ht := hM.t
    have p1 := phL_length x (x.length - 1)
    have p2 := phL_length top (top.length - 1)
    rw [dif_ndec h, e, Option.bind_some, round_val (by omega) (by omega), Option.bind_some, round_val (by omega) (by omega), Option.bind_some, awake41_true, Option.bind_some, cond_true]
    have s1 := splits_true (a0, (a1, (a2, a3)))
    have s2 : ∀ u v w : Int, armplanlaw41_splits.F a0 u v w = some true := fun u v w => splits_true (a0, (u, (v, w)))
    have s3 : ∀ u v w : Int, armplanlaw41_splits.F 3 u v w = some true := fun u v w => splits_true (3, (u, (v, w)))
    rw [s2, Option.bind_some, cond_true, s2, Option.bind_some, cond_true, s3, Option.bind_some, cond_true, phases_val (by omega), rphases_val (by omega), Option.bind_some, Option.bind_some, samePh_refl (by unfold phasesV; omega), Option.bind_some, cond_true]
    simp only []
    rw [phases_val (by omega), rphases_val (by omega), Option.bind_some, Option.bind_some, samePh_refl (by unfold phasesV; omega)]
    rfl
abbrev splitsAk : List AK := [.ag (.pair (.int .i64) (.pair (.int .i64) (.pair (.int .i64) (.int .i64)))), .lf (.slc (.int .i64)), .lf (.slc (.int .i64)), .lf (.int .i64), .lf (.int .i64)]
theorem splits_good (x : ArgT splitsAk) (g : GoodAll splitsAk x) : armplanlaw41_ProfileSplits.F x.1.1 x.1.2.1 x.1.2.2.1 x.1.2.2.2 x.2.1 x.2.2.1 x.2.2.2.1 x.2.2.2.2.1 = some true := by
  obtain ⟨_, _, ⟨g1, _⟩, _⟩ := g
  simp only [minB, reachBytes] at g1
  exact splits_law _ _ _ _ _ _ (by omega)
end Go.Abs
