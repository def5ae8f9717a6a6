/- A part of the proof that the text with the row names: printed readings of functions, or plain lemmas about them. -/
import Derived.Test.YtceacicpjgffgaaC41GLProfileTop
import Derived.Test.YtceacicpjgffgaaC41M6
set_option linter.unusedVariables false
set_option linter.unusedSimpArgs false
namespace Go.Abs
open Go
theorem top_row {ok : Bool} {top x y : List Int} {rows : List RT} {ls : List (List Int)} (a b : Int) (hl : y.length ≤ 2 ^ 40) (hxy : x.length = y.length) (h : Under y.length y x) :
    loopF armplanlaw41_ProfileTop.p1.step (ok, y, 0, a, b, top, rows, x, ls) = some (.inr (ok, a, b, top, rows, x, ls)) := by
  have := loop_count (step := armplanlaw41_ProfileTop.p1.step) (fun i : Nat => (ok, y, (i : Int), a, b, top, rows, x, ls)) y.length (.inr (ok, a, b, top, rows, x, ls)) (by
    intro i hi
    have hu := h i hi
    unfold armplanlaw41_ProfileTop.p1.step armplanlaw41_ProfileTop.p1.round
    simp only []
    simp (disch := omega) only [dif_dec, dif_ndec, bif_eq, bif_neq, bif_ne, bif_nne, w64, wu64, Int.toNat_natCast, Option.bind_some, cond_true, cond_false, Bool.not_true, Bool.not_false, Sum.elim_inl, Sum.elim_inr]
    rfl) (by
    unfold armplanlaw41_ProfileTop.p1.step armplanlaw41_ProfileTop.p1.round
    simp only []
    simp (disch := omega) only [dif_dec, dif_ndec, bif_eq, bif_neq, bif_ne, bif_nne, w64, wu64, Int.toNat_natCast, Option.bind_some, cond_true, cond_false, Bool.not_true, Bool.not_false, Sum.elim_inl, Sum.elim_inr]) y.length 0 (by omega)
  exact this
theorem top_all {ok : Bool} {top x : List Int} {rows : List RT} {ls : List (List Int)} (hn : ls.length ≤ 100) (h : ∀ i, i < ls.length → feasB top rows (ls.getD i []) = true → ok = true ∧ (ls.getD i []).length ≤ 2 ^ 40 ∧ x.length = (ls.getD i []).length ∧ Under (ls.getD i []).length (ls.getD i []) x) :
    loopF armplanlaw41_ProfileTop.p0.step (ok, (ls.length : Int), 0, top, rows, x, ls) = some (.inr ()) := by
  have := loop_count (step := armplanlaw41_ProfileTop.p0.step) (fun i : Nat => (ok, (ls.length : Int), (i : Int), top, rows, x, ls)) ls.length (.inr ()) (by
    intro i hi
    unfold armplanlaw41_ProfileTop.p0.step armplanlaw41_ProfileTop.p0.round
    simp only []
    simp (disch := omega) only [dif_dec, dif_ndec, bif_eq, bif_neq, bif_ne, bif_nne, w64, wu64, Int.toNat_natCast, Option.bind_some, cond_true, cond_false, Bool.not_true, Bool.not_false, Sum.elim_inl, Sum.elim_inr, rfeas_val]
    cases hf : feasB top rows (ls.getD i []) with
    | false =>
      rw [Bool.not_false, cond_true]
      rfl
    | true =>
      obtain ⟨h1, h2, h3, h4⟩ := h i hi hf
      rw [Bool.not_true, cond_false, h1, Bool.not_true, cond_false, bif_nne (by omega), top_row _ _ h2 h3 h4]
      simp only [Option.bind_some, Sum.elim_inr]
      rw [w64 (by omega) (by omega)]
      rfl) (by
    unfold armplanlaw41_ProfileTop.p0.step armplanlaw41_ProfileTop.p0.round
    simp only []
    simp (disch := omega) only [dif_dec, dif_ndec, bif_eq, bif_neq, bif_ne, bif_nne, w64, wu64, Int.toNat_natCast, Option.bind_some, cond_true, cond_false, Bool.not_true, Bool.not_false, Sum.elim_inl, Sum.elim_inr]) ls.length 0 (by omega)
  exact this
theorem top_law {l m n : List Int} (hl : l.length ≤ 2 ^ 60) (hm : m.length ≤ 2 ^ 60) (hn : n.length ≤ 2 ^ 60) : armplanlaw41_ProfileTop.F l m n = some true := by
  rw [armplanlaw41_ProfileTop.F_eq]
  unfold armplanlaw41_ProfileTop.F0
  obtain ⟨top, rows, e, hM⟩ := limits_val hl
  have ht := hM.t
  obtain ⟨a, ea, ha⟩ := lowered_val (top := top) rows hm (by omega)
  obtain ⟨b, eb, hb⟩ := levels_val (top := top) hn (by omega)
  rw [e, Option.bind_some]
  simp only []
  rw [great_val, Option.bind_some, ea, eb]
  simp only [Option.bind_some]
  have key : loopF armplanlaw41_ProfileTop.p0.step ((greatV top rows).2.2, ((([a, b, List.replicate ((top.length : Int)).toNat 0] : List (List Int)).length : Nat) : Int), 0, top, rows, (greatV top rows).1, [a, b, List.replicate ((top.length : Int)).toNat 0]) = some (.inr ()) := by
    refine top_all (by simp) fun i hi hf => ?_
    have hF := feasB_iff.1 hf
    obtain ⟨t, x, h1, h2, h3, h4, h5⟩ := great_top hM.v hM.s hF
    have l1 := hF.l
    have l2 := h4.l
    rw [h1]
    refine ⟨rfl, by omega, by simp only []; omega, ?_⟩
    rw [l1]
    exact h5
  cases hok : (greatV top rows).2.2 with
  | true =>
    rw [hok] at key
    rw [cond_true, rfeas_val, Option.bind_some]
    have : feasB top rows (greatV top rows).1 = true := by
      rcases great_cases hM.v hM.s with ⟨t, z, h1, h2, h3, h4⟩ | ⟨t, x, h1, h2, h3, h4⟩
      · rw [h1] at hok; cases hok
      · rw [h1]; exact feasB_iff.2 h4
    rw [this, Bool.not_true, cond_false, dif_dec (by omega), dif_dec (by omega), key, Option.bind_some, Sum.elim_inr, awake41_true]
    rfl
  | false =>
    rw [hok] at key
    rw [cond_false, dif_dec (by omega), dif_dec (by omega), key, Option.bind_some, Sum.elim_inr, awake41_true]
    rfl
theorem top_good (x : ArgT [.lf (.slc (.int .i64)), .lf (.slc (.int .i64)), .lf (.slc (.int .i64))]) (g : GoodAll [.lf (.slc (.int .i64)), .lf (.slc (.int .i64)), .lf (.slc (.int .i64))] x) : armplanlaw41_ProfileTop.F x.1 x.2.1 x.2.2.1 = some true := by
  obtain ⟨⟨g1, _⟩, ⟨g2, _⟩, ⟨g3, _⟩, _⟩ := g
  simp only [minB, reachBytes] at g1 g2 g3
  exact top_law (by omega) (by omega) (by omega)
end Go.Abs
