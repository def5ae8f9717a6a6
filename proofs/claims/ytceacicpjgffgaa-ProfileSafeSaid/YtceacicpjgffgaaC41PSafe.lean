/- A part of the proof that the text with the row names: printed readings of functions, or plain lemmas about them. -/
import Derived.Test.YtceacicpjgffgaaC41GLProfileSafe
import Derived.Test.YtceacicpjgffgaaC41M6
set_option linter.unusedVariables false
set_option linter.unusedSimpArgs false
namespace Go.Abs
open Go
def GoodSteps (rows : List RT) (s : List Int) : Prop := ∀ k ∈ s, (0 ≤ k ∧ k < (rows.length : Int)) ∧ actB (rows.getD k.toNat R0) = true
theorem act_of {n : Nat} {r : RT} (h : VRow n r) (hp : 0 < r.2.1 ∨ 0 < r.2.2.1) : actB r = true := by
  have hnp := h.np
  unfold actB
  by_cases a : 0 < r.2.1
  · rw [decide_eq_true a, decide_eq_false (by omega)]; rfl
  · rw [decide_eq_false a, decide_eq_true (by omega)]; rfl
theorem steps_loop {n : Nat} {m top steps : List Int} {rows : List RT} (hr : RowsP n rows) (hrl : rows.length ≤ 11) (hs : steps.length ≤ 2 ^ 60) : ∀ (k i : Nat) (s : List Int), i + k = 40 → s.length ≤ i → GoodSteps rows s →
    ∃ s', loopF armplanlaw41_ProfileSafe.p0.step (m, steps, (i : Int), top, rows, s) = some (m, top, rows, s') ∧ s'.length ≤ 40 ∧ GoodSteps rows s'
  | 0, i, s, hk, hl, hg => by
    refine ⟨s, loop_end ?_, by omega, hg⟩
    unfold armplanlaw41_ProfileSafe.p0.step armplanlaw41_ProfileSafe.p0.round
    simp only []
    by_cases a : (i : Int) < (steps.length : Int)
    · rw [dif_dec a, dif_ndec (by omega)]
    · rw [dif_ndec a]
  | k + 1, i, s, hk, hl, hg => by
    by_cases a : (i : Int) < (steps.length : Int)
    · by_cases b : 0 < rows.length
      · have e := round_val (a := steps.getD i 0) (k := (rows.length : Int)) (by omega) (by omega)
        have m1 := Int.emod_nonneg (steps.getD i 0) (show (rows.length : Int) ≠ 0 by omega)
        have m2 := Int.emod_lt_of_pos (steps.getD i 0) (show (0 : Int) < rows.length by omega)
        generalize (steps.getD i 0) % (rows.length : Int) = q at *
        by_cases hp : 0 < (rows.getD q.toNat R0).2.1 ∨ 0 < (rows.getD q.toNat R0).2.2.1
        · obtain ⟨s', g1, g2, g3⟩ := steps_loop (m := m) (top := top) hr hrl hs k (i + 1) (s ++ [q]) (by omega) (by simp; omega) (by
            intro w hw
            rw [List.mem_append] at hw
            rcases hw with hw | hw
            · exact hg w hw
            · simp at hw; subst hw
              exact ⟨by omega, act_of (hr _ (by omega)) hp⟩)
          refine ⟨s', loop_next ?_ g1, g2, g3⟩
          unfold armplanlaw41_ProfileSafe.p0.step armplanlaw41_ProfileSafe.p0.round
          simp only [List.length_cons, List.length_nil]
          simp (disch := omega) only [dif_dec, dif_ndec, bif_eq, bif_neq, bif_ne, bif_nne, w64, wu64, Int.toNat_natCast, Option.bind_some, cond_true, cond_false, Bool.not_true, Bool.not_false, Sum.elim_inl, Sum.elim_inr, e]
          by_cases c : (rows.getD q.toNat R0).2.1 > 0
          · rw [dif_dec c]
            rfl
          · have d : (rows.getD q.toNat R0).2.2.1 > 0 := by omega
            rw [dif_ndec c, dif_dec d]
            rfl
        · obtain ⟨s', g1, g2, g3⟩ := steps_loop (m := m) (top := top) hr hrl hs k (i + 1) s (by omega) (by omega) hg
          refine ⟨s', loop_next ?_ g1, g2, g3⟩
          unfold armplanlaw41_ProfileSafe.p0.step armplanlaw41_ProfileSafe.p0.round
          simp only [List.length_cons, List.length_nil]
          simp (disch := omega) only [dif_dec, dif_ndec, bif_eq, bif_neq, bif_ne, bif_nne, w64, wu64, Int.toNat_natCast, Option.bind_some, cond_true, cond_false, Bool.not_true, Bool.not_false, Sum.elim_inl, Sum.elim_inr, e]
          have c : ¬ (rows.getD q.toNat R0).2.1 > 0 := fun h => hp (.inl h)
          have d : ¬ (rows.getD q.toNat R0).2.2.1 > 0 := fun h => hp (.inr h)
          rw [dif_ndec c, dif_ndec d]
          rfl
      · obtain ⟨s', g1, g2, g3⟩ := steps_loop (m := m) (top := top) hr hrl hs k (i + 1) s (by omega) (by omega) hg
        refine ⟨s', loop_next ?_ g1, g2, g3⟩
        unfold armplanlaw41_ProfileSafe.p0.step armplanlaw41_ProfileSafe.p0.round
        simp only []
        simp (disch := omega) only [dif_dec, dif_ndec, bif_eq, bif_neq, bif_ne, bif_nne, w64, wu64, Int.toNat_natCast, Option.bind_some, cond_true, cond_false, Bool.not_true, Bool.not_false, Sum.elim_inl, Sum.elim_inr]
        rfl
    · refine ⟨s, loop_end ?_, by omega, hg⟩
      unfold armplanlaw41_ProfileSafe.p0.step armplanlaw41_ProfileSafe.p0.round
      simp only []
      rw [dif_ndec a]
theorem safe_law {l m steps : List Int} (hl : l.length ≤ 2 ^ 60) (hm : m.length ≤ 2 ^ 60) (hs : steps.length ≤ 2 ^ 60) : armplanlaw41_ProfileSafe.F l m steps = some true := by
  rw [armplanlaw41_ProfileSafe.F_eq]
  unfold armplanlaw41_ProfileSafe.F0
  obtain ⟨top, rows, e, hM⟩ := limits_val hl
  have ht := hM.t
  obtain ⟨hL, hr⟩ := valid_lev hM.v
  obtain ⟨y, ey, hy⟩ := lowered_val (top := top) rows hm (by omega)
  rw [e, Option.bind_some]
  simp only []
  obtain ⟨s, g1, g2, g3⟩ := steps_loop (m := m) (top := top) hr hM.r hs 40 0 [] (by omega) (by simp) (by intro k hk; cases hk)
  rw [show ((0 : Nat) : Int) = 0 from rfl] at g1
  rw [g1, Option.bind_some]
  simp only []
  obtain ⟨x, hx⟩ := rall_some hr s (lev_lev1 hL) g3
  have hxl := (rall_lev1 hr s (lev_lev1 hL) hx).1
  have hrep := replay_some hM.v (t := s) (by omega) hx
  rw [replay_val, hrep, Option.bind_some]
  simp only []
  rw [Bool.not_true, cond_false, bif_nne (by omega), ey, Option.bind_some, rfeas_val, Option.bind_some]
  cases hf : feasB top rows y with
  | false => rw [Bool.not_false, cond_true, awake41_true]; rfl
  | true =>
    have hF := feasB_iff.1 hf
    have l1 := hF.l
    obtain ⟨q1, q2, q3⟩ := safe hM.v hF hx
    have := loop_count (step := armplanlaw41_ProfileSafe.p1.step) (fun i : Nat => ((i : Int), top, rows, s, x, y)) y.length (.inr (top, rows, s)) (by
      intro i hi
      have hu := q1 i (by omega)
      unfold armplanlaw41_ProfileSafe.p1.step armplanlaw41_ProfileSafe.p1.round
      simp only []
      simp (disch := omega) only [dif_dec, dif_ndec, bif_eq, bif_neq, bif_ne, bif_nne, w64, wu64, Int.toNat_natCast, Option.bind_some, cond_true, cond_false, Bool.not_true, Bool.not_false, Sum.elim_inl, Sum.elim_inr]
      rfl) (by
      unfold armplanlaw41_ProfileSafe.p1.step armplanlaw41_ProfileSafe.p1.round
      simp only []
      simp (disch := omega) only [dif_dec, dif_ndec, bif_eq, bif_neq, bif_ne, bif_nne, w64, wu64, Int.toNat_natCast, Option.bind_some, cond_true, cond_false, Bool.not_true, Bool.not_false, Sum.elim_inl, Sum.elim_inr]) y.length 0 (by omega)
    rw [show ((0 : Nat) : Int) = 0 from rfl] at this
    rw [Bool.not_true, cond_false, this, Option.bind_some, Sum.elim_inr, awake41_true, Option.bind_some, cond_true]
    simp only []
    have hn : refutesB top rows s = false := by
      unfold refutesB
      rw [hrep, q2, q3]
      rfl
    rw [refutes_val, hn]
    rfl
theorem safe_good (x : ArgT [.lf (.slc (.int .i64)), .lf (.slc (.int .i64)), .lf (.slc (.int .i64))]) (g : GoodAll [.lf (.slc (.int .i64)), .lf (.slc (.int .i64)), .lf (.slc (.int .i64))] x) : armplanlaw41_ProfileSafe.F x.1 x.2.1 x.2.2.1 = some true := by
  obtain ⟨⟨g1, _⟩, ⟨g2, _⟩, ⟨g3, _⟩, _⟩ := g
  simp only [minB, reachBytes] at g1 g2 g3
  exact safe_law (by omega) (by omega) (by omega)
end Go.Abs
