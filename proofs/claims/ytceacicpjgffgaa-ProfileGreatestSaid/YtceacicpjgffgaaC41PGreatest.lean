/- A part of the proof that the text with the row names: printed readings of functions, or plain lemmas about them. -/
import Derived.Test.YtceacicpjgffgaaC41GLProfileGreatest
import Derived.Test.YtceacicpjgffgaaC41M6
set_option linter.unusedVariables false
set_option linter.unusedSimpArgs false
namespace Go.Abs
open Go
theorem greatest_law {a0 l : List Int} (a1 : List RT) (a2 a3 a4 a5 : Int) (hl : l.length ≤ 2 ^ 60) : armplanlaw41_ProfileGreatest.F a0 a1 a2 a3 a4 a5 l = some true := by
  rw [armplanlaw41_ProfileGreatest.F_eq]
  unfold armplanlaw41_ProfileGreatest.F0
  obtain ⟨q, h1, h2⟩ := few_val a0 a1 [] []
  rw [h1, Option.bind_some]
  cases q with
  | false => rw [Bool.not_false, cond_true, awake41_true]; rfl
  | true =>
    obtain ⟨g1, g2, _, _⟩ := h2 rfl
    obtain ⟨top, rows, e, hm⟩ := limits_val hl
    have ht := hm.t
    have hr := hm.r
    rw [Bool.not_true, cond_false, e, Option.bind_some, awake41_true, Option.bind_some, cond_true, greatest_true _ (by omega), Option.bind_some, cond_true]
    simp only [List.length_cons, List.length_nil]
    rw [greatest_true _ (by omega), Option.bind_some, cond_true, dif_dec (by omega), greatest_true _ (by omega), Option.bind_some, cond_true, greatest_true _ (by omega)]
    rfl
abbrev greatAk : List AK := [.lf (.slc (.int .i64)), .lf (.slc (.pair (.int .i64) (.pair (.int .i64) (.pair (.int .i64) (.int .i64))))), .ag (.pair (.int .i64) (.pair (.int .i64) (.pair (.int .i64) (.int .i64)))), .lf (.slc (.int .i64))]
theorem greatest_good (x : ArgT greatAk) (g : GoodAll greatAk x) : armplanlaw41_ProfileGreatest.F x.1 x.2.1 x.2.2.1.1 x.2.2.1.2.1 x.2.2.1.2.2.1 x.2.2.1.2.2.2 x.2.2.2.1 = some true := by
  obtain ⟨_, _, _, ⟨g4, _⟩, _⟩ := g
  simp only [minB, reachBytes] at g4
  exact greatest_law _ _ _ _ _ (by omega)
end Go.Abs
