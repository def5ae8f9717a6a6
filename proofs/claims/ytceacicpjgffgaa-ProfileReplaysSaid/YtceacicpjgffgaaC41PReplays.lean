/- A part of the proof that the text with the row names: printed readings of functions, or plain lemmas about them. -/
import Derived.Test.YtceacicpjgffgaaC41GLProfileReplays
import Derived.Test.YtceacicpjgffgaaC41M6
set_option linter.unusedVariables false
set_option linter.unusedSimpArgs false
namespace Go.Abs
open Go
theorem replays_law {a0 a2 a3 l m : List Int} (a1 : List RT) (b c d : Int) (hl : l.length ≤ 2 ^ 60) (hm : m.length ≤ 2 ^ 60) : armplanlaw41_ProfileReplays.F a0 a1 a2 a3 l m b c d = some true := by
  rw [armplanlaw41_ProfileReplays.F_eq]
  unfold armplanlaw41_ProfileReplays.F0
  obtain ⟨q, h1, h2⟩ := few_val a0 a1 a2 a3
  rw [h1, Option.bind_some]
  cases q with
  | false => rw [Bool.not_false, cond_true, awake41_true]; rfl
  | true =>
    obtain ⟨g1, g2, g3, _⟩ := h2 rfl
    obtain ⟨top, rows, e, hM⟩ := limits_val hl
    have ht := hM.t
    have hr := hM.r
    have k1 := great_len top rows
    have k2 := great_steps top rows
    rw [Bool.not_true, cond_false, e, Option.bind_some]
    simp only []
    rw [rgreat_val, Option.bind_some]
    simp only []
    obtain ⟨u, e2, hu⟩ := altered_val (s := (greatV top rows).2.1) (n := rows.length) b c d (by omega) (by omega)
    obtain ⟨y, e3, hy⟩ := levels_val (top := top) hm (by omega)
    rw [e2, Option.bind_some, awake41_true, Option.bind_some, cond_true, replays_true _ _ (by omega), Option.bind_some, cond_true, replays_true _ _ (by omega), Option.bind_some, cond_true, replays_true _ _ (by omega), Option.bind_some, cond_true, e3, Option.bind_some, replays_true _ _ (by omega), Option.bind_some, cond_true, replays_true _ _ (by omega)]
    rfl
abbrev replaysAk : List AK := [.lf (.slc (.int .i64)), .lf (.slc (.pair (.int .i64) (.pair (.int .i64) (.pair (.int .i64) (.int .i64))))), .lf (.slc (.int .i64)), .lf (.slc (.int .i64)), .lf (.slc (.int .i64)), .lf (.slc (.int .i64)), .lf (.int .i64), .lf (.int .i64), .lf (.int .i64)]
theorem replays_good (x : ArgT replaysAk) (g : GoodAll replaysAk x) : armplanlaw41_ProfileReplays.F x.1 x.2.1 x.2.2.1 x.2.2.2.1 x.2.2.2.2.1 x.2.2.2.2.2.1 x.2.2.2.2.2.2.1 x.2.2.2.2.2.2.2.1 x.2.2.2.2.2.2.2.2.1 = some true := by
  obtain ⟨_, _, _, _, ⟨g4, _⟩, ⟨g5, _⟩, _⟩ := g
  simp only [minB, reachBytes] at g4 g5
  exact replays_law _ _ _ _ (by omega) (by omega)
end Go.Abs
