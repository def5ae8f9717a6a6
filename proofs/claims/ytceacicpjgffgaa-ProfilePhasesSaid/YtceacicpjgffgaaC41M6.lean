/- A part of the proof that the text with the row names: printed readings of functions, or plain lemmas about them. -/
import Derived.Test.YtceacicpjgffgaaC41M5
set_option linter.unusedVariables false
set_option linter.unusedSimpArgs false
namespace Go.Abs
open Go
theorem rsweep_len {rows : List RT} : ∀ (m k : Nat) (x s : List Int) (a : Bool), s.length ≤ 16384 → (∀ e, rsweep rows m k x s a = .inl e → e.2.1.length ≤ 16384) ∧ ∀ x' s' a', rsweep rows m k x s a = .inr (x', (s', a')) → s'.length ≤ 16384
  | 0, k, x, s, a, hs => by
    refine ⟨(fun e h => by simp [rsweep] at h), fun x' s' a' h => ?_⟩
    simp only [rsweep, Sum.inr.injEq, Prod.mk.injEq] at h
    rw [← h.2.1]; exact hs
  | m + 1, k, x, s, a, hs => by
    rw [rsweep]
    cases h1 : impB (rows.getD k R0) x with
    | false => rw [cond_false]; exact rsweep_len m (k + 1) x s a hs
    | true =>
      rw [cond_true]
      by_cases h2 : s.length = 16384
      · rw [decide_eq_true h2, cond_true]
        exact ⟨(fun e h => by injection h with h; rw [← h]; simp), fun x' s' a' h => by cases h⟩
      · rw [decide_eq_false h2, cond_false]
        have hl : (s ++ [(k : Int)]).length ≤ 16384 := by simp; omega
        cases h3 : decide (bnd (rows.getD k R0) x < 0) with
        | true =>
          rw [cond_true]
          exact ⟨(fun e h => by injection h with h; rw [← h]; exact hl), fun x' s' a' h => by cases h⟩
        | false => rw [cond_false]; exact rsweep_len m (k + 1) _ _ true hl
theorem rrun_len {rows : List RT} : ∀ (f : Nat) (x s : List Int), s.length ≤ 16384 → (∀ e, rrun rows f x s = .inl e → e.2.1.length ≤ 16384) ∧ ∀ x' s', rrun rows f x s = .inr (x', s') → s'.length ≤ 16384
  | 0, x, s, hs => by
    refine ⟨(fun e h => by simp [rrun] at h), fun x' s' h => ?_⟩
    simp only [rrun, Sum.inr.injEq, Prod.mk.injEq] at h
    rw [← h.2]; exact hs
  | f + 1, x, s, hs => by
    obtain ⟨h1, h2⟩ := rsweep_len (rows := rows) rows.length 0 x s false hs
    rw [rrun]
    cases hw : rsweep rows rows.length 0 x s false with
    | inl q => exact ⟨(fun e h => by injection h with h; rw [← h]; exact h1 q hw), fun x' s' h => by cases h⟩
    | inr q =>
      obtain ⟨x1, s1, a⟩ := q
      have := h2 _ _ _ hw
      cases a with
      | true => exact rrun_len f x1 s1 this
      | false =>
        refine ⟨(fun e h => by cases h), fun x' s' h => ?_⟩
        simp only [cond_false, Sum.inr.injEq, Prod.mk.injEq] at h
        rw [← h.2]; exact this
theorem great_steps (t : List Int) (rows : List RT) : (greatV t rows).2.1.length ≤ 16384 := by
  unfold greatV
  cases hv : validB t rows with
  | false => simp
  | true =>
    rw [cond_true]
    obtain ⟨h1, h2⟩ := rrun_len (rows := rows) 20000 t [] (by simp)
    cases hw : rrun rows 20000 t [] with
    | inl e => exact h1 e hw
    | inr q =>
      obtain ⟨x, s⟩ := q
      have := h2 x s hw
      unfold gfin
      simp only []
      cases satsB rows x <;> exact this
theorem replay_len (t : List Int) (rows : List RT) (u : List Int) : (replayV t rows u).1.length ≤ 65 := by
  cases hb : (replayV t rows u).2 with
  | true =>
    obtain ⟨hV, _, h3⟩ := replay_true hb
    obtain ⟨hl, hr⟩ := valid_lev hV
    have := (rall_lev1 hr _ (lev_lev1 hl) h3).1
    have := hV.n65
    omega
  | false =>
    unfold replayV at hb ⊢
    cases c : (validB t rows && decide (u.length ≤ 16384)) with
    | false => simp
    | true =>
      rw [c, cond_true] at hb
      rw [cond_true]
      cases hr : rall rows t u with
      | none => simp
      | some x => rw [hr] at hb; cases hb
theorem greatest_true {top : List Int} (rows : List RT) (hl : top.length ≤ 2 ^ 60) : armplanlaw41_greatest.F top rows = some true := by
  rw [armplanlaw41_greatest.F_eq]
  unfold armplanlaw41_greatest.F0
  have h1 := great_len top rows
  have h2 := great_steps top rows
  rw [great_val, rgreat_val, Option.bind_some, Option.bind_some]
  simp only [beq_self_eq_true, cond_true]
  rw [same64_val (by omega), sameInt_val (by omega)]
  simp
theorem replays_true {top x : List Int} (rows : List RT) (steps : List Int) (hx : x.length ≤ 2 ^ 60) : armplanlaw41_replays.F top rows x steps = some true := by
  rw [armplanlaw41_replays.F_eq]
  unfold armplanlaw41_replays.F0
  have h1 := replay_len top rows steps
  rw [replay_val, rreplay_val, Option.bind_some, Option.bind_some]
  simp only [beq_self_eq_true, cond_true]
  rw [same64_val (by omega), proves_val _ _ _ hx, rproves_val _ _ _ hx, refutes_val, rrefutes_val]
  simp
theorem splits_true (r : RT) : armplanlaw41_splits.F r.1 r.2.1 r.2.2.1 r.2.2.2 = some true := by
  rw [armplanlaw41_splits.F_eq]
  unfold armplanlaw41_splits.F0
  have := split_len r
  rw [split_val, rsplit_val, Option.bind_some, Option.bind_some]
  simp only [beq_self_eq_true, cond_true]
  rw [sameRow_refl (by omega)]
  rfl
theorem few_val (a : List Int) (b : List RT) (c d : List Int) : ∃ q, armplanlaw41_few.F a b c d = some q ∧ (q = true → a.length ≤ 70 ∧ b.length ≤ 60 ∧ c.length ≤ 70 ∧ d.length ≤ 200) := by
  rw [armplanlaw41_few.F_eq]
  unfold armplanlaw41_few.F0
  by_cases h1 : (a.length : Int) ≤ 70
  · rw [dif_dec h1]
    by_cases h2 : (b.length : Int) ≤ 60
    · rw [dif_dec h2]
      by_cases h3 : (c.length : Int) ≤ 70
      · rw [dif_dec h3]
        exact ⟨_, rfl, fun h => by have := of_decide_eq_true h; omega⟩
      · rw [dif_ndec h3]; exact ⟨false, rfl, fun h => by cases h⟩
    · rw [dif_ndec h2]; exact ⟨false, rfl, fun h => by cases h⟩
  · rw [dif_ndec h1]; exact ⟨false, rfl, fun h => by cases h⟩
end Go.Abs
