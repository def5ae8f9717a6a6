/- A part of the proof that the text with the row names: printed readings of functions, or plain lemmas about them. -/
import Derived.Test.YtomabhiochmojaaC35GLTeamJoins
import Derived.Test.YtomabhiochmojaaC35J5
set_option linter.unusedVariables false
set_option linter.unusedSimpArgs false
namespace Go.Abs
open Go
theorem big_app {l l' : List ScT} (h : BigL l) (h' : BigL l') : BigL (l ++ l') := by
  intro i hi
  rw [List.length_append] at hi
  by_cases c : i < l.length
  · rw [List.getD_eq_getElem?_getD, List.getElem?_append_left c, ← List.getD_eq_getElem?_getD]
    exact h i c
  · rw [List.getD_eq_getElem?_getD, List.getElem?_append_right (by omega), ← List.getD_eq_getElem?_getD]
    exact h' _ (by omega)
theorem joins_law {raw : List ScT} {bases : List PT} {l m : List Int} (a : Int) (hr : raw.length ≤ 2 ^ 60) (hraw : BigL raw) (hl : l.length ≤ 17592186043904) (hm : m.length ≤ 2 ^ 60) : armplanlaw35_TeamJoins.F raw bases l m a = some true := by
  rw [armplanlaw35_TeamJoins.F_eq]
  unfold armplanlaw35_TeamJoins.F0
  obtain ⟨q, e, hq⟩ := few35_val raw bases hr
  rw [e, Option.bind_some]
  cases q with
  | false => rw [Bool.not_false, cond_true, awake35_true]; rfl
  | true =>
    obtain ⟨q1, q2⟩ := hq rfl
    obtain ⟨xs, bs, e2, h1, h2, h3, h4⟩ := scenes_val hl hm
    have hx := big_of h4
    have J := fun b => joins_true (l := xs) b hx
    have JR := fun b => joins_true (l := raw) b hraw
    have JA := fun b => joins_true (l := xs ++ raw) b (big_app hx hraw)
    have r1 := round_val (a := a) (k := (bs.length : Int)) (by omega) (by omega)
    have r2 := round_val (a := a) (k := 3) (by omega) (by omega)
    have r3 := round_val (a := a) (k := 5) (by omega) (by omega)
    have m1 := Int.emod_nonneg a (show (bs.length : Int) ≠ 0 by omega)
    have m2 := Int.emod_lt_of_pos a (show (0 : Int) < bs.length by omega)
    have k1 : 0 ≤ a % 3 := by omega
    have k2 : a % 3 < 3 := by omega
    rw [Bool.not_true, cond_false, e2, Option.bind_some]
    simp only []
    rw [dif_dec (by omega), r1, Option.bind_some, r2, Option.bind_some, r3, Option.bind_some, dif_dec (by omega), dif_dec (by omega)]
    generalize a % 3 = t at k1 k2
    by_cases t0 : t = 0
    · rw [bif_eq t0, awake35_true]
      simp only [Option.bind_some, cond_true, J, JR, JA]
      rw [dif_dec (by omega), dif_dec (by omega)]
    · rw [bif_neq t0]
      by_cases t1 : t = 1
      · rw [bif_eq t1, awake35_true]
        simp only [Option.bind_some, cond_true, J, JR, JA]
        rw [dif_dec (by omega), dif_dec (by omega)]
      · rw [bif_neq t1, bif_eq (by omega), awake35_true]
        simp only [Option.bind_some, cond_true, J, JR, JA]
        rw [dif_dec (by omega), dif_dec (by omega)]
abbrev scTy : Ty := .pair (.pair (.slc (.pair .str (.pair (.int .i64) (.pair (.int .i64) (.pair (.pair (.int .i64) (.pair (.int .i64) (.int .i64))) (.pair (.int .i64) (.pair (.int .i64) (.pair (.int .i64) (.pair (.int .i64) (.pair (.int .i64) (.int .i64))))))))))) (.slc (.pair (.int .i64) (.pair (.int .i64) (.pair (.int .i64) (.pair (.int .i64) (.int .i64))))))) (.pair (.slc (.pair (.int .i64) (.pair (.int .i64) (.slc (.pair (.int .i64) (.pair (.int .i64) (.int .i64))))))) (.slc (.pair (.int .i64) (.int .i64))))
theorem bigS_good {s : ScT} (g : Good scTy s) : BigS s := by
  obtain ⟨⟨⟨g1, g2⟩, g3, _⟩, ⟨g4, _⟩, g5, _⟩ := g
  simp only [minB, reachBytes] at g1 g3 g4 g5
  refine ⟨by omega, fun j hj => ?_, by omega, by omega, by omega⟩
  have : j.1.size ≤ reachBytes := (g2 j hj).1
  simp only [reachBytes] at this
  omega
abbrev joinsAk : List AK := [.lf (.slc scTy), .lf (.slc (.pair (.int .i64) (.pair (.int .i64) (.int .i64)))), .lf (.slc (.int .i64)), .lf (.slc (.int .i64)), .lf (.int .i64)]
theorem joinsl_good (x : ArgT joinsAk) (g : GoodAll joinsAk x) : armplanlaw35_TeamJoins.F x.1 x.2.1 x.2.2.1 x.2.2.2.1 x.2.2.2.2.1 = some true := by
  obtain ⟨⟨g1, g2⟩, _, ⟨g3, _⟩, ⟨g4, _⟩, _⟩ := g
  simp only [minB, reachBytes] at g1 g3 g4
  exact joins_law _ (by omega) (fun i hi => bigS_good (g2 _ (getD_mem hi))) (by omega) (by omega)
end Go.Abs
