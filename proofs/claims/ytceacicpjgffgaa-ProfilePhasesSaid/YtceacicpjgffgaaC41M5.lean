/- A part of the proof that the text with the row names: printed readings of functions, or plain lemmas about them. -/
import Derived.Test.YtceacicpjgffgaaC41M4
set_option linter.unusedVariables false
set_option linter.unusedSimpArgs false
namespace Go.Abs
open Go
/-! ### Made bounds and rows -/
theorem from_val (l : List Int) : armplanmake_From.F l = some (l, 0) := by
  rw [armplanmake_From.F_eq]
  rfl
theorem top_loop {l : List Int} {n : Nat} (hl : l.length ≤ 2 ^ 60) (hn : n ≤ 8) : ∀ (k i : Nat) (p : Int) (out : List Int), i + k = n → out.length = i → (∀ v ∈ out, 0 ≤ v ∧ v ≤ 29) → out.sum ≤ 29 * i → 0 ≤ p → p ≤ 2 ^ 62 →
    ∃ p' out', loopF armplanmake_Limits.p0.step ((n : Int), (i : Int), l, p, out) = some ((n : Int), l, p', out') ∧ out'.length = n ∧ (∀ v ∈ out', 0 ≤ v ∧ v ≤ 29) ∧ out'.sum ≤ 29 * n ∧ 0 ≤ p' ∧ p' ≤ 2 ^ 62
  | 0, i, p, out, hk, ho, hv, hs, hp, hp' => by
    refine ⟨p, out, loop_end ?_, by omega, hv, by omega, hp, hp'⟩
    unfold armplanmake_Limits.p0.step armplanmake_Limits.p0.round
    simp only []
    simp (disch := omega) only [dif_dec, dif_ndec, bif_eq, bif_neq, bif_ne, bif_nne, w64, wu64, Int.toNat_natCast, Option.bind_some, cond_true, cond_false, Bool.not_true, Bool.not_false, Sum.elim_inl, Sum.elim_inr]
  | k + 1, i, p, out, hk, ho, hv, hs, hp, hp' => by
    obtain ⟨v, q, e, h1, h2, h3, h4⟩ := next_val (k := 30) (l := l) (by omega) (by omega) hl hp hp'
    obtain ⟨p', out', g1, g2⟩ := top_loop hl hn k (i + 1) q (out ++ [v]) (by omega) (by simp; omega) (by
      intro w hw
      rw [List.mem_append] at hw
      rcases hw with hw | hw
      · exact hv w hw
      · simp at hw; subst hw; omega) (by rw [List.sum_append]; simp; omega) h3 h4
    refine ⟨p', out', loop_next ?_ g1, g2⟩
    unfold armplanmake_Limits.p0.step armplanmake_Limits.p0.round
    simp only [List.length_cons, List.length_nil]
    simp (disch := omega) only [dif_dec, dif_ndec, bif_eq, bif_neq, bif_ne, bif_nne, w64, wu64, Int.toNat_natCast, Option.bind_some, cond_true, cond_false, Bool.not_true, Bool.not_false, Sum.elim_inl, Sum.elim_inr, e]
    rfl
theorem rows_loop {l top : List Int} {n : Nat} (hl : l.length ≤ 2 ^ 60) (hn : n ≤ 8) (hn2 : 2 ≤ n) : ∀ (k : Nat) (p : Int) (rows : List RT), rows.length + k ≤ 11 → (∀ r ∈ rows, VRow n r) → 0 ≤ p → p ≤ 2 ^ 62 →
    ∃ rows', loopF armplanmake_Limits.p1.step ((n : Int), (k : Int), l, p, top, rows) = some (top, rows') ∧ rows'.length ≤ 11 ∧ ∀ r ∈ rows', VRow n r
  | 0, p, rows, hk, hv, hp, hp' => by
    refine ⟨rows, loop_end ?_, by omega, hv⟩
    unfold armplanmake_Limits.p1.step armplanmake_Limits.p1.round
    simp only []
    simp (disch := omega) only [dif_dec, dif_ndec, bif_eq, bif_neq, bif_ne, bif_nne, w64, wu64, Int.toNat_natCast, Option.bind_some, cond_true, cond_false, Bool.not_true, Bool.not_false, Sum.elim_inl, Sum.elim_inr]
  | k + 1, p, rows, hk, hv, hp, hp' => by
    obtain ⟨c, q1, e1, c1, c2, c3, c4⟩ := next_val (k := (n : Int) - 1) (l := l) (by omega) (by omega) hl hp hp'
    obtain ⟨A, q2, e2, a1, a2, a3, a4⟩ := signed_val (k := 3) (l := l) (by omega) (by omega) hl c3 c4
    obtain ⟨B, q3, e3, b1, b2, b3, b4⟩ := signed_val (k := 3) (l := l) (by omega) (by omega) hl a3 a4
    obtain ⟨C, q4, e4, d1, d2, d3, d4⟩ := signed_val (k := 20) (l := l) (by omega) (by omega) hl b3 b4
    have key : ∀ r : RT, VRow n r → ∃ rows', loopF armplanmake_Limits.p1.step ((n : Int), (k : Int), l, q4, top, rows ++ [r]) = some (top, rows') ∧ rows'.length ≤ 11 ∧ ∀ r ∈ rows', VRow n r := fun r hr => rows_loop hl hn hn2 k q4 (rows ++ [r]) (by simp; omega) (by
      intro w hw
      rw [List.mem_append] at hw
      rcases hw with hw | hw
      · exact hv w hw
      · simp at hw; subst hw; exact hr) d3 d4
    have kk : (((k + 1 : Nat) : Int) - 1) = (k : Int) := by omega
    by_cases hA : A > 0
    · by_cases hB : B > 0
      · obtain ⟨rows', g1, g2⟩ := key (c, (A, (-B, C + 12))) ⟨show -1073741824 ≤ A ∧ A ≤ 1073741824 by omega, show -1073741824 ≤ -B ∧ -B ≤ 1073741824 by omega, show -1152921504606846976 ≤ C + 12 ∧ C + 12 ≤ 1152921504606846976 by omega, show 0 ≤ c by omega, show c ≤ (n : Int) - 2 by omega, show ¬ (0 < A ∧ 0 < -B) by omega⟩
        refine ⟨rows', loop_next ?_ g1, g2⟩
        unfold armplanmake_Limits.p1.step armplanmake_Limits.p1.round
        simp only [List.length_cons, List.length_nil]
        simp (disch := omega) only [dif_dec, dif_ndec, bif_eq, bif_neq, bif_ne, bif_nne, w64, wu64, Int.toNat_natCast, Option.bind_some, cond_true, cond_false, Bool.not_true, Bool.not_false, Sum.elim_inl, Sum.elim_inr, e1, e2, e3, e4, kk]
        rw [show (0 : Int) - B = -B by omega]
      · obtain ⟨rows', g1, g2⟩ := key (c, (A, (B, C + 12))) ⟨show -1073741824 ≤ A ∧ A ≤ 1073741824 by omega, show -1073741824 ≤ B ∧ B ≤ 1073741824 by omega, show -1152921504606846976 ≤ C + 12 ∧ C + 12 ≤ 1152921504606846976 by omega, show 0 ≤ c by omega, show c ≤ (n : Int) - 2 by omega, show ¬ (0 < A ∧ 0 < B) by omega⟩
        refine ⟨rows', loop_next ?_ g1, g2⟩
        unfold armplanmake_Limits.p1.step armplanmake_Limits.p1.round
        simp only [List.length_cons, List.length_nil]
        simp (disch := omega) only [dif_dec, dif_ndec, bif_eq, bif_neq, bif_ne, bif_nne, w64, wu64, Int.toNat_natCast, Option.bind_some, cond_true, cond_false, Bool.not_true, Bool.not_false, Sum.elim_inl, Sum.elim_inr, e1, e2, e3, e4, kk]
    · obtain ⟨rows', g1, g2⟩ := key (c, (A, (B, C + 12))) ⟨show -1073741824 ≤ A ∧ A ≤ 1073741824 by omega, show -1073741824 ≤ B ∧ B ≤ 1073741824 by omega, show -1152921504606846976 ≤ C + 12 ∧ C + 12 ≤ 1152921504606846976 by omega, show 0 ≤ c by omega, show c ≤ (n : Int) - 2 by omega, show ¬ (0 < A ∧ 0 < B) by omega⟩
      refine ⟨rows', loop_next ?_ g1, g2⟩
      unfold armplanmake_Limits.p1.step armplanmake_Limits.p1.round
      simp only [List.length_cons, List.length_nil]
      simp (disch := omega) only [dif_dec, dif_ndec, bif_eq, bif_neq, bif_ne, bif_nne, w64, wu64, Int.toNat_natCast, Option.bind_some, cond_true, cond_false, Bool.not_true, Bool.not_false, Sum.elim_inl, Sum.elim_inr, e1, e2, e3, e4, kk]
structure Made (top : List Int) (rows : List RT) : Prop where
  v : ValidP top rows
  s : top.sum < 16384
  t : top.length ≤ 8
  r : rows.length ≤ 11
theorem limits_val {l : List Int} (hl : l.length ≤ 2 ^ 60) : ∃ top rows, armplanmake_Limits.F l = some (top, rows) ∧ Made top rows := by
  rw [armplanmake_Limits.F_eq]
  unfold armplanmake_Limits.F0
  rw [from_val, Option.bind_some]
  simp only []
  obtain ⟨v, q, e, h1, h2, h3, h4⟩ := next_val (k := 7) (i := 0) (l := l) (by omega) (by omega) hl (by omega) (by omega)
  rw [e, Option.bind_some]
  simp only []
  rw [w64 (by omega) (by omega), show (2 + v) = (((2 + v).toNat : Nat) : Int) by omega]
  have hn2 : 2 ≤ (2 + v).toNat := by omega
  have hn8 : (2 + v).toNat ≤ 8 := by omega
  generalize (2 + v).toNat = n at hn2 hn8
  obtain ⟨p', out', g1, g2, g3, g4, g5, g6⟩ := top_loop (n := n) hl (by omega) n 0 q [] (by omega) rfl (by simp) (by simp) h3 h4
  rw [show ((0 : Nat) : Int) = 0 from rfl] at g1
  rw [g1, Option.bind_some]
  simp only []
  obtain ⟨c, q', e', c1, c2, c3, c4⟩ := next_val (k := 12) (l := l) (by omega) (by omega) hl g5 g6
  rw [e', Option.bind_some]
  simp only []
  obtain ⟨rows', r1, r2, r3⟩ := rows_loop (top := out') hl (show n ≤ 8 by omega) (by omega) c.toNat q' [] (by simp; omega) (by simp) c3 c4
  rw [show ((c.toNat : Nat) : Int) = c by omega] at r1
  rw [r1]
  refine ⟨out', rows', rfl, ⟨by omega, by omega, by omega, fun i hi => ?_, fun k hk => ?_⟩, by omega, by omega, r2⟩
  · have := g3 _ (getD_mem (d := 0) hi)
    omega
  · rw [g2]
    exact r3 _ (getD_mem hk)

/-! ### Levels, lowered, altered -/
theorem levels_loop {l top : List Int} (hl : l.length ≤ 2 ^ 60) (ht : top.length ≤ 70) : ∀ (k i : Nat) (p : Int) (out : List Int), i + k = top.length → out.length = i → 0 ≤ p → p ≤ 2 ^ 62 →
    ∃ out', loopF armplanlaw41_levels.p0.step (top, (i : Int), l, p, out) = some out' ∧ out'.length = top.length
  | 0, i, p, out, hk, ho, hp, hp' => by
    refine ⟨out, loop_end ?_, by omega⟩
    unfold armplanlaw41_levels.p0.step armplanlaw41_levels.p0.round
    simp only []
    simp (disch := omega) only [dif_dec, dif_ndec, bif_eq, bif_neq, bif_ne, bif_nne, w64, wu64, Int.toNat_natCast, Option.bind_some, cond_true, cond_false, Bool.not_true, Bool.not_false, Sum.elim_inl, Sum.elim_inr]
  | k + 1, i, p, out, hk, ho, hp, hp' => by
    obtain ⟨v, q, e, h1, h2, h3, h4⟩ := next_val (k := 9) (l := l) (by omega) (by omega) hl hp hp'
    obtain ⟨v', q', e', h1', h2', h3', h4'⟩ := next_val (k := 8) (l := l) (by omega) (by omega) hl h3 h4
    have key : ∀ w : Int, ∃ out', loopF armplanlaw41_levels.p0.step (top, ((i + 1 : Nat) : Int), l, q', out ++ [w]) = some out' ∧ out'.length = top.length := fun w => levels_loop hl ht k (i + 1) q' (out ++ [w]) (by omega) (by simp; omega) h3' h4'
    obtain ⟨out', g1, g2⟩ := key _
    refine ⟨out', loop_next ?_ g1, g2⟩
    unfold armplanlaw41_levels.p0.step armplanlaw41_levels.p0.round
    simp only [List.length_cons, List.length_nil]
    rw [dif_dec (by omega), dif_dec (by omega), dif_dec (by omega), e, Option.bind_some]
    simp only []
    rw [e', Option.bind_some]
    simp only []
    rw [dif_dec (by omega), w64 (n := (i : Int) + 1) (by omega) (by omega)]
    rfl
theorem levels_val {l top : List Int} (hl : l.length ≤ 2 ^ 60) (ht : top.length ≤ 70) : ∃ y, armplanlaw41_levels.F top l = some y ∧ y.length = top.length := by
  rw [armplanlaw41_levels.F_eq]
  unfold armplanlaw41_levels.F0
  rw [from_val, Option.bind_some]
  simp only []
  obtain ⟨out', g1, g2⟩ := levels_loop hl ht top.length 0 0 [] (by omega) rfl (by omega) (by omega)
  rw [show ((0 : Nat) : Int) = 0 from rfl] at g1
  exact ⟨out', by rw [g1]; rfl, g2⟩
theorem great_len (t : List Int) (rows : List RT) : (greatV t rows).1.length ≤ t.length := by
  unfold greatV
  cases hv : validB t rows with
  | false => simp
  | true =>
    have hV := validB_iff.1 hv
    obtain ⟨hl, hr⟩ := valid_lev hV
    rw [cond_true]
    cases hw : rrun rows 20000 t [] with
    | inl e =>
      have := rrun_inl _ _ _ hw
      unfold gfin
      simp only []
      rw [this]; simp
    | inr q =>
      obtain ⟨x, s⟩ := q
      obtain ⟨hx, hs⟩ := rrun_lev hr _ _ _ hl (by simp) hw
      unfold gfin
      simp only []
      cases satsB rows x with
      | true => rw [cond_true, hx.1]; exact Nat.le_refl _
      | false => simp
theorem lowered_loop {top : List Int} {rows : List RT} : ∀ (k i : Nat) (t : List Int), i + k = top.length → t.length = top.length → top.length ≤ 70 →
    ∃ t', loopF armplanlaw41_lowered.p0.step (top, rows, (i : Int), t) = some (rows, t') ∧ t'.length = top.length
  | 0, i, t, hk, ht, h70 => by
    refine ⟨t, loop_end ?_, ht⟩
    unfold armplanlaw41_lowered.p0.step armplanlaw41_lowered.p0.round
    simp only []
    simp (disch := omega) only [dif_dec, dif_ndec, bif_eq, bif_neq, bif_ne, bif_nne, w64, wu64, Int.toNat_natCast, Option.bind_some, cond_true, cond_false, Bool.not_true, Bool.not_false, Sum.elim_inl, Sum.elim_inr]
  | k + 1, i, t, hk, ht, h70 => by
    have key : ∀ w : Int, ∃ t', loopF armplanlaw41_lowered.p0.step (top, rows, ((i + 1 : Nat) : Int), t.set i w) = some (rows, t') ∧ t'.length = top.length := fun w => lowered_loop k (i + 1) (t.set i w) (by omega) (by rw [List.length_set]; exact ht) h70
    obtain ⟨t', g1, g2⟩ := key _
    refine ⟨t', loop_next ?_ g1, g2⟩
    unfold armplanlaw41_lowered.p0.step armplanlaw41_lowered.p0.round
    simp only []
    rw [dif_dec (by omega), dif_dec (by omega), dif_dec (by omega), dif_dec (by omega), dif_dec (by omega), dif_dec (by omega), dif_dec (by omega), w64 (n := (i : Int) + 1) (by omega) (by omega), Int.toNat_natCast]
    rfl
theorem lowered_val {top l : List Int} (rows : List RT) (hl : l.length ≤ 2 ^ 60) (ht : top.length ≤ 70) : ∃ y, armplanlaw41_lowered.F top rows l = some y ∧ y.length ≤ top.length := by
  rw [armplanlaw41_lowered.F_eq]
  unfold armplanlaw41_lowered.F0
  obtain ⟨y, e, hy⟩ := levels_val hl ht
  rw [e, Option.bind_some]
  obtain ⟨t', g1, g2⟩ := lowered_loop (top := top) (rows := rows) top.length 0 y (by omega) hy ht
  rw [show ((0 : Nat) : Int) = 0 from rfl] at g1
  rw [g1, Option.bind_some]
  simp only []
  rw [rgreat_val, Option.bind_some]
  have := great_len t' rows
  cases (greatV t' rows).2.2 with
  | true => exact ⟨(greatV t' rows).1, rfl, by omega⟩
  | false => exact ⟨t', rfl, by omega⟩
theorem altered_val {s : List Int} {n : Nat} (a b c : Int) (hs : s.length ≤ 2 ^ 40) (hn : n ≤ 2 ^ 40) : ∃ u, armplanlaw41_altered.F s a b c (n : Int) = some u ∧ u.length ≤ s.length + 1 := by
  rw [armplanlaw41_altered.F_eq]
  unfold armplanlaw41_altered.F0
  have e1 := round_val (a := a) (k := 4) (by omega) (by omega)
  have e2 := round_val (a := c) (k := (n : Int) + 2) (by omega) (by omega)
  have e3 := round_val (a := c) (k := (n : Int) + 1) (by omega) (by omega)
  simp only [List.length_cons, List.length_nil]
  rw [dif_dec (by omega), e1, Option.bind_some, w64 (n := (n : Int) + 2) (by omega) (by omega), w64 (n := (n : Int) + 1) (by omega) (by omega), e2, e3]
  generalize a % 4 = q
  by_cases c0 : q = 0
  · rw [bif_eq c0]
    by_cases h : s.length = 0
    · rw [dif_ndec (by omega)]
      exact ⟨_, rfl, by omega⟩
    · have e4 := round_val (a := b) (k := (s.length : Int)) (by omega) (by omega)
      have m1 := Int.emod_nonneg b (show (s.length : Int) ≠ 0 by omega)
      have m2 := Int.emod_lt_of_pos b (show (0 : Int) < s.length by omega)
      rw [dif_dec (by omega), e4, Option.bind_some, dif_dec (by omega), dif_dec (by omega)]
      exact ⟨_, rfl, by rw [List.length_take]; omega⟩
  · rw [bif_neq c0]
    by_cases c1 : q = 1
    · rw [bif_eq c1, Option.bind_some, dif_dec (by omega)]
      exact ⟨_, rfl, by simp⟩
    · rw [bif_neq c1]
      by_cases c2 : q = 2
      · rw [bif_eq c2]
        by_cases h : s.length = 0
        · rw [dif_ndec (by omega)]
          exact ⟨_, rfl, by omega⟩
        · have e4 := round_val (a := b) (k := (s.length : Int)) (by omega) (by omega)
          have m1 := Int.emod_nonneg b (show (s.length : Int) ≠ 0 by omega)
          have m2 := Int.emod_lt_of_pos b (show (0 : Int) < s.length by omega)
          rw [dif_dec (by omega), e4, Option.bind_some, Option.bind_some, dif_dec (by omega), dif_dec (by omega)]
          exact ⟨_, rfl, by rw [List.length_set]; omega⟩
      · rw [bif_neq c2, Option.bind_some, dif_dec (by omega)]
        exact ⟨_, rfl, by simp⟩

/-! ### Ramps, phases -/
theorem ramps_val {n : Nat} (d : Int) (h1 : 1 ≤ n) (hn : n ≤ 1000) : armplanlaw41_ramps.F (n : Int) d = some (rampL d (n - 1)) := by
  rw [armplanlaw41_ramps.F_eq]
  unfold armplanlaw41_ramps.F0
  have := loop_count (step := armplanlaw41_ramps.p0.step) (fun i : Nat => ((n : Int), d, (i : Int), rampL d i)) (n - 1) (rampL d (n - 1)) (by
    intro i hi
    have hl := rampL_length d i
    unfold armplanlaw41_ramps.p0.step armplanlaw41_ramps.p0.round
    simp only [List.length_cons, List.length_nil]
    simp (disch := omega) only [dif_dec, dif_ndec, bif_eq, bif_neq, bif_ne, bif_nne, w64, wu64, Int.toNat_natCast, Option.bind_some, cond_true, cond_false, Bool.not_true, Bool.not_false, Sum.elim_inl, Sum.elim_inr]
    rfl) (by
    unfold armplanlaw41_ramps.p0.step armplanlaw41_ramps.p0.round
    simp only []
    simp (disch := omega) only [dif_dec, dif_ndec, bif_eq, bif_neq, bif_ne, bif_nne, w64, wu64, Int.toNat_natCast, Option.bind_some, cond_true, cond_false, Bool.not_true, Bool.not_false, Sum.elim_inl, Sum.elim_inr]) (n - 1) 0 (by omega)
  rw [show ((0 : Nat) : Int) = 0 from rfl] at this
  rw [show ([] : List RT) = rampL d 0 from rfl, this]
  rfl
theorem kind_val (a b : Int) : profile_kind.F a b = some (kindV a b) := by
  rw [profile_kind.F_eq]
  unfold profile_kind.F0 kindV
  cases decide (a < b) <;> cases decide (a > b) <;> rfl
theorem phases_val {x : List Int} (hx : x.length ≤ 2 ^ 40) : profile_Phases.F x = some (phasesV x) := by
  rw [profile_Phases.F_eq]
  unfold profile_Phases.F0 phasesV
  have hm : (bif decide (0 > IntKind.wrap .i64 ((x.length : Int) - 1)) then 0 else IntKind.wrap .i64 ((x.length : Int) - 1)) = ((x.length - 1 : Nat) : Int) := by
    rw [w64 (by omega) (by omega)]
    by_cases h : 0 > (x.length : Int) - 1
    · rw [dif_dec h]; omega
    · rw [dif_ndec h]; omega
  rw [hm]
  have := loop_count (step := profile_Phases.p0.step) (fun i : Nat => (x, ((x.length - 1 : Nat) : Int), (i : Int), phL x i)) (x.length - 1) (phL x (x.length - 1)) (by
    intro i hi
    have hl := phL_length x i
    have e : ((i : Int) + 1).toNat = i + 1 := by omega
    unfold profile_Phases.p0.step profile_Phases.p0.round
    simp only [List.length_cons, List.length_nil]
    rw [phL, pushPh]
    generalize phL x i = l at *
    by_cases h0 : 0 < l.length
    · have e' : ((l.length : Int) - 1).toNat = l.length - 1 := by omega
      simp (disch := omega) only [dif_dec, dif_ndec, bif_eq, bif_neq, bif_ne, bif_nne, w64, wu64, Int.toNat_natCast, Option.bind_some, cond_true, cond_false, Bool.not_true, Bool.not_false, Sum.elim_inl, Sum.elim_inr, kind_val, e, e']
      by_cases hk : (l.getD (l.length - 1) ((0 : Int), ((0 : Int), (0 : Int)))).1 = kindV (x.getD i 0) (x.getD (i + 1) 0)
      · rw [bif_eq hk, decide_eq_true h0, Bool.true_and, bif_eq hk]
        rfl
      · rw [bif_neq hk, decide_eq_true h0, Bool.true_and, bif_neq hk]
        rfl
    · simp (disch := omega) only [dif_dec, dif_ndec, bif_eq, bif_neq, bif_ne, bif_nne, w64, wu64, Int.toNat_natCast, Option.bind_some, cond_true, cond_false, Bool.not_true, Bool.not_false, Sum.elim_inl, Sum.elim_inr, kind_val, e]
      rw [decide_eq_false h0]
      rfl) (by
    unfold profile_Phases.p0.step profile_Phases.p0.round
    simp only []
    simp (disch := omega) only [dif_dec, dif_ndec, bif_eq, bif_neq, bif_ne, bif_nne, w64, wu64, Int.toNat_natCast, Option.bind_some, cond_true, cond_false, Bool.not_true, Bool.not_false, Sum.elim_inl, Sum.elim_inr]) (x.length - 1) 0 (by omega)
  rw [show ((0 : Nat) : Int) = 0 from rfl] at this
  rw [show ([] : List PhT) = phL x 0 from rfl, this]
  rfl
theorem rphases_val {x : List Int} (hx : x.length ≤ 2 ^ 40) : armplanref40_Phases.F x = some (phasesV x) := by
  rw [armplanref40_Phases.F_eq]
  unfold armplanref40_Phases.F0 phasesV
  have := loop_count (step := armplanref40_Phases.p0.step) (fun i : Nat => (x, (i : Int), phL x i)) (x.length - 1) (phL x (x.length - 1)) (by
    intro i hi
    have hl := phL_length x i
    have e : ((i : Int) + 1).toNat = i + 1 := by omega
    unfold armplanref40_Phases.p0.step armplanref40_Phases.p0.round
    simp only [List.length_cons, List.length_nil]
    rw [phL, pushPh]
    generalize phL x i = l at *
    have key : ∀ c : Int, kindV (x.getD i 0) (x.getD (i + 1) 0) = c → ∀ z, (bif decide (0 < l.length) && ((l.getD (l.length - 1) Ph0).1 == c) then some (Sum.inl (x, (i : Int) + 1, l.set (l.length - 1) ((l.getD (l.length - 1) Ph0).1, ((l.getD (l.length - 1) Ph0).2.1, (i : Int) + 1)))) else some (Sum.inl (x, (i : Int) + 1, l ++ [(c, ((i : Int), (i : Int) + 1))]))) = z → z = some (Sum.inl (x, ((i + 1 : Nat) : Int), bif decide (0 < l.length) && ((l.getD (l.length - 1) Ph0).1 == kindV (x.getD i 0) (x.getD (i + 1) 0)) then l.set (l.length - 1) ((l.getD (l.length - 1) Ph0).1, ((l.getD (l.length - 1) Ph0).2.1, (i : Int) + 1)) else l ++ [(kindV (x.getD i 0) (x.getD (i + 1) 0), ((i : Int), (i : Int) + 1))]) : (List Int × Int × List PhT) ⊕ List PhT) := by
      intro c hc z hz
      rw [← hz, hc]
      cases (decide (0 < l.length) && ((l.getD (l.length - 1) Ph0).1 == c)) <;> rfl
    have fin : ∀ c : Int, (bif decide ((l.length : Int) > 0) then (bif (l.getD (l.length - 1) ((0 : Int), ((0 : Int), (0 : Int)))).1 == c then some (Sum.inl (x, (i : Int) + 1, l.set (l.length - 1) ((l.getD (l.length - 1) Ph0).1, ((l.getD (l.length - 1) Ph0).2.1, (i : Int) + 1)))) else some (Sum.inl (x, (i : Int) + 1, l ++ [(c, ((i : Int), (i : Int) + 1))]))) else some (Sum.inl (x, (i : Int) + 1, l ++ [(c, ((i : Int), (i : Int) + 1))]))) = (bif decide (0 < l.length) && ((l.getD (l.length - 1) Ph0).1 == c) then some (Sum.inl (x, (i : Int) + 1, l.set (l.length - 1) ((l.getD (l.length - 1) Ph0).1, ((l.getD (l.length - 1) Ph0).2.1, (i : Int) + 1)))) else (some (Sum.inl (x, (i : Int) + 1, l ++ [(c, ((i : Int), (i : Int) + 1))])) : Option ((List Int × Int × List PhT) ⊕ List PhT))) := by
      intro c
      by_cases h0 : 0 < l.length
      · rw [dif_dec (by omega), decide_eq_true h0, Bool.true_and]
      · rw [dif_ndec (by omega), decide_eq_false h0, Bool.false_and]
        rfl
    by_cases h0 : 0 < l.length
    · have e' : ((l.length : Int) - 1).toNat = l.length - 1 := by omega
      by_cases a : x.getD i 0 < x.getD (i + 1) 0
      · refine key 1 (by unfold kindV; rw [dif_dec a]) _ ?_
        rw [← fin]
        simp (disch := omega) only [dif_dec, dif_ndec, bif_eq, bif_neq, bif_ne, bif_nne, w64, wu64, Int.toNat_natCast, Option.bind_some, cond_true, cond_false, Bool.not_true, Bool.not_false, Sum.elim_inl, Sum.elim_inr, e, e']
      · by_cases b : x.getD i 0 > x.getD (i + 1) 0
        · refine key 2 (by unfold kindV; rw [dif_ndec a, dif_dec b]) _ ?_
          rw [← fin]
          simp (disch := omega) only [dif_dec, dif_ndec, bif_eq, bif_neq, bif_ne, bif_nne, w64, wu64, Int.toNat_natCast, Option.bind_some, cond_true, cond_false, Bool.not_true, Bool.not_false, Sum.elim_inl, Sum.elim_inr, e, e']
        · refine key 0 (by unfold kindV; rw [dif_ndec a, dif_ndec b]) _ ?_
          rw [← fin]
          simp (disch := omega) only [dif_dec, dif_ndec, bif_eq, bif_neq, bif_ne, bif_nne, w64, wu64, Int.toNat_natCast, Option.bind_some, cond_true, cond_false, Bool.not_true, Bool.not_false, Sum.elim_inl, Sum.elim_inr, e, e']
    · by_cases a : x.getD i 0 < x.getD (i + 1) 0
      · refine key 1 (by unfold kindV; rw [dif_dec a]) _ ?_
        rw [← fin]
        simp (disch := omega) only [dif_dec, dif_ndec, bif_eq, bif_neq, bif_ne, bif_nne, w64, wu64, Int.toNat_natCast, Option.bind_some, cond_true, cond_false, Bool.not_true, Bool.not_false, Sum.elim_inl, Sum.elim_inr, e]
      · by_cases b : x.getD i 0 > x.getD (i + 1) 0
        · refine key 2 (by unfold kindV; rw [dif_ndec a, dif_dec b]) _ ?_
          rw [← fin]
          simp (disch := omega) only [dif_dec, dif_ndec, bif_eq, bif_neq, bif_ne, bif_nne, w64, wu64, Int.toNat_natCast, Option.bind_some, cond_true, cond_false, Bool.not_true, Bool.not_false, Sum.elim_inl, Sum.elim_inr, e]
        · refine key 0 (by unfold kindV; rw [dif_ndec a, dif_ndec b]) _ ?_
          rw [← fin]
          simp (disch := omega) only [dif_dec, dif_ndec, bif_eq, bif_neq, bif_ne, bif_nne, w64, wu64, Int.toNat_natCast, Option.bind_some, cond_true, cond_false, Bool.not_true, Bool.not_false, Sum.elim_inl, Sum.elim_inr, e]) (by
    unfold armplanref40_Phases.p0.step armplanref40_Phases.p0.round
    simp only []
    simp (disch := omega) only [dif_dec, dif_ndec, bif_eq, bif_neq, bif_ne, bif_nne, w64, wu64, Int.toNat_natCast, Option.bind_some, cond_true, cond_false, Bool.not_true, Bool.not_false, Sum.elim_inl, Sum.elim_inr]) (x.length - 1) 0 (by omega)
  rw [show ((0 : Nat) : Int) = 0 from rfl] at this
  rw [show ([] : List PhT) = phL x 0 from rfl, this]
  rfl
theorem samePh_refl {l : List PhT} (hl : l.length ≤ 2 ^ 60) : armplanmake_Same_Phase.F l l = some true := by
  rw [armplanmake_Same_Phase.F_eq]
  unfold armplanmake_Same_Phase.F0
  rw [bif_nne rfl]
  have := loop_count (step := armplanmake_Same_Phase.p0.step) (fun j : Nat => (l, l, (j : Int))) l.length (Sum.inr ()) (by
    intro j hj
    unfold armplanmake_Same_Phase.p0.step armplanmake_Same_Phase.p0.round
    simp only [beq_self_eq_true, Bool.and_true]
    simp (disch := omega) only [dif_dec, dif_ndec, bif_eq, bif_neq, bif_ne, bif_nne, w64, wu64, Int.toNat_natCast, Option.bind_some, cond_true, cond_false, Bool.not_true, Bool.not_false, Sum.elim_inl, Sum.elim_inr]
    rfl) (by
    unfold armplanmake_Same_Phase.p0.step armplanmake_Same_Phase.p0.round
    simp only []
    simp (disch := omega) only [dif_dec, dif_ndec, bif_eq, bif_neq, bif_ne, bif_nne, w64, wu64, Int.toNat_natCast, Option.bind_some, cond_true, cond_false, Bool.not_true, Bool.not_false, Sum.elim_inl, Sum.elim_inr]) l.length 0 (by omega)
  rw [show ((0 : Nat) : Int) = 0 from rfl] at this
  rw [this]
  rfl
theorem sameRow_refl {l : List RT} (hl : l.length ≤ 2 ^ 60) : armplanmake_Same_Row.F l l = some true := by
  rw [armplanmake_Same_Row.F_eq]
  unfold armplanmake_Same_Row.F0
  rw [bif_nne rfl]
  have := loop_count (step := armplanmake_Same_Row.p0.step) (fun j : Nat => (l, l, (j : Int))) l.length (Sum.inr ()) (by
    intro j hj
    unfold armplanmake_Same_Row.p0.step armplanmake_Same_Row.p0.round
    simp only [beq_self_eq_true, Bool.and_true]
    simp (disch := omega) only [dif_dec, dif_ndec, bif_eq, bif_neq, bif_ne, bif_nne, w64, wu64, Int.toNat_natCast, Option.bind_some, cond_true, cond_false, Bool.not_true, Bool.not_false, Sum.elim_inl, Sum.elim_inr]
    rfl) (by
    unfold armplanmake_Same_Row.p0.step armplanmake_Same_Row.p0.round
    simp only []
    simp (disch := omega) only [dif_dec, dif_ndec, bif_eq, bif_neq, bif_ne, bif_nne, w64, wu64, Int.toNat_natCast, Option.bind_some, cond_true, cond_false, Bool.not_true, Bool.not_false, Sum.elim_inl, Sum.elim_inr]) l.length 0 (by omega)
  rw [show ((0 : Nat) : Int) = 0 from rfl] at this
  rw [this]
  rfl
theorem split_val (r : RT) : profile_Split.F r.1 r.2.1 r.2.2.1 r.2.2.2 = some ((splitV r).2, (splitV r).1) := by
  rw [profile_Split.F_eq]
  unfold profile_Split.F0 splitV
  rw [inRange_val, Option.bind_some]
  cases hf : formB r with
  | false => rfl
  | true =>
    obtain ⟨f1, f2, f3⟩ := form_bd hf
    rw [Bool.not_true, cond_false, Bool.true_and, w64 (by omega) (by omega), within_val (by omega) (by omega), Option.bind_some, ← Bool.decide_and]
    cases decide (-1073741824 ≤ r.2.1 + r.2.2.1 ∧ r.2.1 + r.2.2.1 ≤ 1073741824) with
    | false => rfl
    | true =>
      rw [Bool.not_true, cond_false, cond_true]
      by_cases a : r.2.1 ≤ 0
      · rw [dif_dec a, decide_eq_false (show ¬ 0 < r.2.1 by omega)]; rfl
      · rw [dif_ndec a, decide_eq_true (show 0 < r.2.1 by omega)]
        by_cases b : r.2.2.1 ≤ 0
        · rw [dif_dec b, decide_eq_false (show ¬ 0 < r.2.2.1 by omega)]; rfl
        · rw [dif_ndec b, decide_eq_true (show 0 < r.2.2.1 by omega)]; rfl
theorem rsplit_val (r : RT) : armplanref40_SplitRow.F r.1 r.2.1 r.2.2.1 r.2.2.2 = some ((splitV r).2, (splitV r).1) := by
  rw [armplanref40_SplitRow.F_eq]
  unfold armplanref40_SplitRow.F0 splitV
  rw [formed_val, Option.bind_some]
  cases hf : formB r with
  | false => rfl
  | true =>
    obtain ⟨f1, f2, f3⟩ := form_bd hf
    rw [Bool.not_true, cond_false, Bool.true_and, w64 (by omega) (by omega)]
    by_cases q1 : r.2.1 + r.2.2.1 < -1073741824
    · rw [dif_dec q1, decide_eq_false (show ¬ (-1073741824 ≤ r.2.1 + r.2.2.1 ∧ r.2.1 + r.2.2.1 ≤ 1073741824) by omega)]; rfl
    · rw [dif_ndec q1]
      by_cases q2 : r.2.1 + r.2.2.1 > 1073741824
      · rw [dif_dec q2, decide_eq_false (show ¬ (-1073741824 ≤ r.2.1 + r.2.2.1 ∧ r.2.1 + r.2.2.1 ≤ 1073741824) by omega)]; rfl
      · rw [dif_ndec q2, decide_eq_true (show -1073741824 ≤ r.2.1 + r.2.2.1 ∧ r.2.1 + r.2.2.1 ≤ 1073741824 by omega), cond_true]
        by_cases a : r.2.1 > 0
        · rw [dif_dec a, decide_eq_true (show 0 < r.2.1 from a)]
          by_cases b : r.2.2.1 > 0
          · rw [dif_dec b, decide_eq_true (show 0 < r.2.2.1 from b)]; rfl
          · rw [dif_ndec b, decide_eq_false (show ¬ 0 < r.2.2.1 from b)]; rfl
        · rw [dif_ndec a, decide_eq_false (show ¬ 0 < r.2.1 from a)]; rfl
theorem split_len (r : RT) : (splitV r).1.length ≤ 2 := by
  unfold splitV
  cases (formB r && decide (-1073741824 ≤ r.2.1 + r.2.2.1 ∧ r.2.1 + r.2.2.1 ≤ 1073741824)) <;> cases (decide (0 < r.2.1) && decide (0 < r.2.2.1)) <;> simp

/-! ### Awake -/
theorem awake_great : (greatV [0, 9, 9, 9, 0] (rampL 4 4)).1 = [0, 4, 8, 4, 0] ∧ (greatV [0, 9, 9, 9, 0] (rampL 4 4)).2.2 = true := by decide +kernel
theorem awake_valid : validB [0, 9, 9, 9, 0] (rampL 4 4) = true := by decide +kernel
theorem awake_phases : phasesV [0, 4, 8, 4, 0] = [(1, (0, 2)), (2, (2, 4))] := by decide +kernel
theorem awake41_true : armplanlaw41_awake.F () = some true := by
  rw [armplanlaw41_awake.F_eq]
  unfold armplanlaw41_awake.F0
  have hr := ramps_val (n := 5) 4 (by omega) (by omega)
  rw [show ((5 : Nat) : Int) = 5 from rfl, show 5 - 1 = 4 from rfl] at hr
  rw [hr, Option.bind_some, great_val, Option.bind_some]
  simp only []
  obtain ⟨e1, e2⟩ := awake_great
  have hV := validB_iff.1 awake_valid
  rcases great_cases hV (by decide) with ⟨t, z, h1, h2, h3, h4⟩ | ⟨t, x, h1, h2, h3, h4⟩
  · rw [h1] at e2; cases e2
  · rw [h1] at e1 e2
    simp only [] at e1
    rw [h1]
    simp only []
    subst e1
    obtain ⟨p1, _, _⟩ := cert_true hV h2 h3 h4
    rw [phases_val (by decide), Option.bind_some, cond_true, same64_val (by decide), Option.bind_some, decide_eq_true rfl, cond_true, proves_val _ _ _ (by decide), Option.bind_some, p1, cond_true, awake_phases, samePh_refl (by decide)]
    rfl
end Go.Abs
