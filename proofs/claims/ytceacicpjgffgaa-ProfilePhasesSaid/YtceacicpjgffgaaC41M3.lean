/- A part of the proof that the text with the row names: printed readings of functions, or plain lemmas about them. -/
import Derived.Test.YtceacicpjgffgaaC41M2
set_option linter.unusedVariables false
set_option linter.unusedSimpArgs false
namespace Go.Abs
open Go
/-! ### Equal lists -/
theorem list_all {α : Type} [DecidableEq α] {d : α} {x y : List α} {P : Nat → Bool} (h : x.length = y.length) (hP : ∀ i, i < x.length → P i = decide (x.getD i d = y.getD i d)) : allB P 0 x.length = decide (x = y) := by
  rw [Bool.eq_iff_iff, allB_iff, decide_eq_true_eq]
  constructor
  · intro hh
    refine List.ext_getElem h fun i h1 h2 => ?_
    have := hh i (Nat.zero_le _) (by omega)
    rw [hP i h1, decide_eq_true_eq, List.getD_eq_getElem?_getD, List.getD_eq_getElem?_getD, List.getElem?_eq_getElem h1, List.getElem?_eq_getElem h2] at this
    exact this
  · intro e j _ hj
    rw [hP j (by omega), e]
    exact decide_eq_true rfl
theorem equal_val {x y : List Int} (hx : x.length ≤ 2 ^ 60) : slices_Equal_int64.F x y = some (decide (x = y)) := by
  rw [slices_Equal_int64.F_eq]
  unfold slices_Equal_int64.F0
  by_cases a : x.length = y.length
  · rw [bif_nne (by omega)]
    have l0 := loop_find (step := slices_Equal_int64.p0.step) (fun i : Nat => (x, y, (x.length : Int), (i : Int))) x.length (fun i => bif (fun i => x.getD i 0 == y.getD i 0) i then none else some (.inl false)) (.inr ()) (by
      intro i hi
      unfold slices_Equal_int64.p0.step slices_Equal_int64.p0.round
      simp only []
      simp (disch := omega) only [dif_dec, dif_ndec, bif_eq, bif_neq, bif_ne, bif_nne, w64, wu64, Int.toNat_natCast, Option.bind_some, cond_true, cond_false, Bool.not_true, Bool.not_false, Sum.elim_inl, Sum.elim_inr]
      rw [bne]
      cases (x.getD i 0 == y.getD i 0) <;> rfl) (by
      unfold slices_Equal_int64.p0.step slices_Equal_int64.p0.round
      simp only []
      simp (disch := omega) only [dif_dec, dif_ndec, bif_eq, bif_neq, bif_ne, bif_nne, w64, wu64, Int.toNat_natCast, Option.bind_some, cond_true, cond_false, Bool.not_true, Bool.not_false, Sum.elim_inl, Sum.elim_inr]) x.length 0 (by omega)
    rw [show ((0 : Nat) : Int) = 0 from rfl] at l0
    rw [l0, Option.bind_some, findE_all (P := fun i => x.getD i 0 == y.getD i 0) fun j _ _ => rfl, list_all (d := 0) a fun i _ => (Bool.eq_iff_iff.2 (by simp))]
    cases decide (x = y) <;> rfl
  · rw [bif_ne (by omega), decide_eq_false fun h => a (by rw [h])]
theorem same64_val {x y : List Int} (hx : x.length ≤ 2 ^ 60) : armplanmake_Same_int64.F x y = some (decide (x = y)) := by
  rw [armplanmake_Same_int64.F_eq]
  unfold armplanmake_Same_int64.F0
  by_cases a : x.length = y.length
  · rw [bif_nne (by omega)]
    have l0 := loop_find (step := armplanmake_Same_int64.p0.step) (fun i : Nat => (x, y, (i : Int))) x.length (fun i => bif (fun i => x.getD i 0 == y.getD i 0) i then none else some (.inl false)) (.inr ()) (by
      intro i hi
      unfold armplanmake_Same_int64.p0.step armplanmake_Same_int64.p0.round
      simp only []
      simp (disch := omega) only [dif_dec, dif_ndec, bif_eq, bif_neq, bif_ne, bif_nne, w64, wu64, Int.toNat_natCast, Option.bind_some, cond_true, cond_false, Bool.not_true, Bool.not_false, Sum.elim_inl, Sum.elim_inr]
      rw [bne]
      cases (x.getD i 0 == y.getD i 0) <;> rfl) (by
      unfold armplanmake_Same_int64.p0.step armplanmake_Same_int64.p0.round
      simp only []
      simp (disch := omega) only [dif_dec, dif_ndec, bif_eq, bif_neq, bif_ne, bif_nne, w64, wu64, Int.toNat_natCast, Option.bind_some, cond_true, cond_false, Bool.not_true, Bool.not_false, Sum.elim_inl, Sum.elim_inr]) x.length 0 (by omega)
    rw [show ((0 : Nat) : Int) = 0 from rfl] at l0
    rw [l0, Option.bind_some, findE_all (P := fun i => x.getD i 0 == y.getD i 0) fun j _ _ => rfl, list_all (d := 0) a fun i _ => (Bool.eq_iff_iff.2 (by simp))]
    cases decide (x = y) <;> rfl
  · rw [bif_ne (by omega), decide_eq_false fun h => a (by rw [h])]
theorem sameInt_val {x y : List Int} (hx : x.length ≤ 2 ^ 60) : armplanmake_Same_int.F x y = some (decide (x = y)) := by
  rw [armplanmake_Same_int.F_eq]
  unfold armplanmake_Same_int.F0
  by_cases a : x.length = y.length
  · rw [bif_nne (by omega)]
    have l0 := loop_find (step := armplanmake_Same_int.p0.step) (fun i : Nat => (x, y, (i : Int))) x.length (fun i => bif (fun i => x.getD i 0 == y.getD i 0) i then none else some (.inl false)) (.inr ()) (by
      intro i hi
      unfold armplanmake_Same_int.p0.step armplanmake_Same_int.p0.round
      simp only []
      simp (disch := omega) only [dif_dec, dif_ndec, bif_eq, bif_neq, bif_ne, bif_nne, w64, wu64, Int.toNat_natCast, Option.bind_some, cond_true, cond_false, Bool.not_true, Bool.not_false, Sum.elim_inl, Sum.elim_inr]
      rw [bne]
      cases (x.getD i 0 == y.getD i 0) <;> rfl) (by
      unfold armplanmake_Same_int.p0.step armplanmake_Same_int.p0.round
      simp only []
      simp (disch := omega) only [dif_dec, dif_ndec, bif_eq, bif_neq, bif_ne, bif_nne, w64, wu64, Int.toNat_natCast, Option.bind_some, cond_true, cond_false, Bool.not_true, Bool.not_false, Sum.elim_inl, Sum.elim_inr]) x.length 0 (by omega)
    rw [show ((0 : Nat) : Int) = 0 from rfl] at l0
    rw [l0, Option.bind_some, findE_all (P := fun i => x.getD i 0 == y.getD i 0) fun j _ _ => rfl, list_all (d := 0) a fun i _ => (Bool.eq_iff_iff.2 (by simp))]
    cases decide (x = y) <;> rfl
  · rw [bif_ne (by omega), decide_eq_false fun h => a (by rw [h])]
theorem sameNum_val {x y : List Int} (hx : x.length ≤ 2 ^ 60) : armplanref19_SameNumbers.F x y = some (decide (x = y)) := by
  rw [armplanref19_SameNumbers.F_eq]
  unfold armplanref19_SameNumbers.F0
  by_cases a : x.length = y.length
  · rw [bif_nne (by omega)]
    have l0 := loop_find (step := armplanref19_SameNumbers.p0.step) (fun i : Nat => (x, y, (i : Int))) x.length (fun i => bif (fun i => x.getD i 0 == y.getD i 0) i then none else some (.inl false)) (.inr ()) (by
      intro i hi
      unfold armplanref19_SameNumbers.p0.step armplanref19_SameNumbers.p0.round
      simp only []
      simp (disch := omega) only [dif_dec, dif_ndec, bif_eq, bif_neq, bif_ne, bif_nne, w64, wu64, Int.toNat_natCast, Option.bind_some, cond_true, cond_false, Bool.not_true, Bool.not_false, Sum.elim_inl, Sum.elim_inr]
      rw [bne]
      cases (x.getD i 0 == y.getD i 0) <;> rfl) (by
      unfold armplanref19_SameNumbers.p0.step armplanref19_SameNumbers.p0.round
      simp only []
      simp (disch := omega) only [dif_dec, dif_ndec, bif_eq, bif_neq, bif_ne, bif_nne, w64, wu64, Int.toNat_natCast, Option.bind_some, cond_true, cond_false, Bool.not_true, Bool.not_false, Sum.elim_inl, Sum.elim_inr]) x.length 0 (by omega)
    rw [show ((0 : Nat) : Int) = 0 from rfl] at l0
    rw [l0, Option.bind_some, findE_all (P := fun i => x.getD i 0 == y.getD i 0) fun j _ _ => rfl, list_all (d := 0) a fun i _ => (Bool.eq_iff_iff.2 (by simp))]
    cases decide (x = y) <;> rfl
  · rw [bif_ne (by omega), decide_eq_false fun h => a (by rw [h])]
theorem clone_val {x : List Int} (h : 0 < x.length) (hx : x.length ≤ 2 ^ 40) : slices_Clone_int64.F x = some x := by
  rw [slices_Clone_int64.F_eq]
  unfold slices_Clone_int64.F0
  rw [dif_dec h, dif_dec (by simp; omega), List.nil_append]

/-! ### Replay -/
theorem max_if (b : Int) : (bif decide (-1 > b) then (-1 : Int) else b) = max b (-1) := by
  by_cases h : -1 > b
  · rw [dif_dec h]; omega
  · rw [dif_ndec h]; omega
theorem drop_cons {α : Type} {l : List α} {d : α} {i : Nat} (h : i < l.length) : l.drop i = l.getD i d :: l.drop (i + 1) := by
  rw [List.getD_eq_getElem?_getD, List.getElem?_eq_getElem h]
  exact List.drop_eq_getElem_cons h
theorem replay_step {n : Nat} {rows : List RT} (hr : RowsP n rows) (hn : n ≤ 65) (hrl : rows.length ≤ 16384) {steps x : List Int} {i : Nat} (hi : i < steps.length) (hs : steps.length ≤ 16384) (hx : Lev1 n x) :
    profile_Replay.p0.step (rows, steps, (steps.length : Int), (i : Int), x) = some (match rstep rows x (steps.getD i 0) with | some x' => .inl (rows, steps, (steps.length : Int), ((i + 1 : Nat) : Int), x') | none => .inr (.inl false)) := by
  have hxl := hx.1
  unfold profile_Replay.p0.step profile_Replay.p0.round rstep
  simp only []
  simp (disch := omega) only [dif_dec, dif_ndec, bif_eq, bif_neq, bif_ne, bif_nne, w64, wu64, Int.toNat_natCast, Option.bind_some, cond_true, cond_false, Bool.not_true, Bool.not_false, Sum.elim_inl, Sum.elim_inr, bound_val (rows.getD (steps.getD i 0).toNat R0) (x := x) (by omega)]
  by_cases a : steps.getD i 0 < 0
  · rw [decide_eq_false (show ¬ (0 ≤ steps.getD i 0 ∧ steps.getD i 0 < (rows.length : Int)) by omega)]
    simp (disch := omega) only [dif_dec, dif_ndec, bif_eq, bif_neq, bif_ne, bif_nne, w64, wu64, Int.toNat_natCast, Option.bind_some, cond_true, cond_false, Bool.not_true, Bool.not_false, Sum.elim_inl, Sum.elim_inr]
  · by_cases b : steps.getD i 0 ≥ (rows.length : Int)
    · rw [decide_eq_false (show ¬ (0 ≤ steps.getD i 0 ∧ steps.getD i 0 < (rows.length : Int)) by omega)]
      simp (disch := omega) only [dif_dec, dif_ndec, bif_eq, bif_neq, bif_ne, bif_nne, w64, wu64, Int.toNat_natCast, Option.bind_some, cond_true, cond_false, Bool.not_true, Bool.not_false, Sum.elim_inl, Sum.elim_inr]
    · rw [decide_eq_true (show 0 ≤ steps.getD i 0 ∧ steps.getD i 0 < (rows.length : Int) by omega)]
      have ht := tgt_lt (hr (steps.getD i 0).toNat (by omega))
      simp (disch := omega) only [dif_dec, dif_ndec, bif_eq, bif_neq, bif_ne, bif_nne, w64, wu64, Int.toNat_natCast, Option.bind_some, cond_true, cond_false, Bool.not_true, Bool.not_false, Sum.elim_inl, Sum.elim_inr]
      unfold boundV
      generalize rows.getD (steps.getD i 0).toNat R0 = r at *
      cases hb : bndOk r x with
      | false => rfl
      | true =>
        simp only [cond_true]
        by_cases c : bnd r x < x.getD (tgt r) 0
        · simp (disch := omega) only [dif_dec, dif_ndec, bif_eq, bif_neq, bif_ne, bif_nne, w64, wu64, Int.toNat_natCast, Option.bind_some, cond_true, cond_false, Bool.not_true, Bool.not_false, Sum.elim_inl, Sum.elim_inr, max_if]
          rfl
        · simp (disch := omega) only [dif_dec, dif_ndec, bif_eq, bif_neq, bif_ne, bif_nne, w64, wu64, Int.toNat_natCast, Option.bind_some, cond_true, cond_false, Bool.not_true, Bool.not_false, Sum.elim_inl, Sum.elim_inr]
          rfl
theorem replay_loop {n : Nat} {rows : List RT} (hr : RowsP n rows) (hn : n ≤ 65) (hrl : rows.length ≤ 16384) {steps : List Int} (hs : steps.length ≤ 16384) : ∀ (m i : Nat) (x : List Int), i + m = steps.length → Lev1 n x →
    loopF profile_Replay.p0.step (rows, steps, (steps.length : Int), (i : Int), x) = some (match rall rows x (steps.drop i) with | some x' => .inr x' | none => .inl false)
  | 0, i, x, hm, hx => by
    rw [List.drop_of_length_le (by omega)]
    refine loop_end ?_
    unfold profile_Replay.p0.step profile_Replay.p0.round
    simp only []
    simp (disch := omega) only [dif_dec, dif_ndec, bif_eq, bif_neq, bif_ne, bif_nne, w64, wu64, Int.toNat_natCast, Option.bind_some, cond_true, cond_false, Bool.not_true, Bool.not_false, Sum.elim_inl, Sum.elim_inr]
    rfl
  | m + 1, i, x, hm, hx => by
    have hi : i < steps.length := by omega
    have hst := replay_step hr hn hrl hi hs hx
    rw [drop_cons (d := 0) hi, rall]
    cases h : rstep rows x (steps.getD i 0) with
    | none =>
      rw [h] at hst
      exact loop_end hst
    | some z =>
      rw [h] at hst
      exact loop_next hst (replay_loop hr hn hrl hs m (i + 1) z (by omega) (rstep_lev1 hr hx h))
theorem replay_val (top : List Int) (rows : List RT) (steps : List Int) : profile_Replay.F top rows steps = some ((replayV top rows steps).2, (replayV top rows steps).1) := by
  rw [profile_Replay.F_eq]
  unfold profile_Replay.F0 replayV
  rw [valid_val, Option.bind_some]
  cases hv : validB top rows with
  | false => rfl
  | true =>
    have hV := validB_iff.1 hv
    have h65 := hV.n65
    have h2 := hV.n2
    have hrl := hV.rl
    obtain ⟨hl, hr⟩ := valid_lev hV
    rw [Bool.not_true, cond_false, Bool.true_and]
    by_cases a : (steps.length : Int) > 16384
    · rw [dif_dec a, decide_eq_false (by omega)]; rfl
    · rw [dif_ndec a, decide_eq_true (by omega), clone_val (by omega) (by omega), Option.bind_some]
      have l0 := replay_loop hr h65 hrl (steps := steps) (by omega) steps.length 0 top (by omega) (lev_lev1 hl)
      rw [show ((0 : Nat) : Int) = 0 from rfl, List.drop_zero] at l0
      rw [l0, Option.bind_some, cond_true]
      cases rall rows top steps <;> rfl
theorem rreplay_step {n : Nat} {rows : List RT} (hr : RowsP n rows) (hn : n ≤ 65) (hrl : rows.length ≤ 16384) {steps x : List Int} {i : Nat} (hi : i < steps.length) (hs : steps.length ≤ 16384) (hx : Lev1 n x) :
    armplanref40_Replay.p0.step (rows, steps, (i : Int), x) = some (match rstep rows x (steps.getD i 0) with | some x' => .inl (rows, steps, ((i + 1 : Nat) : Int), x') | none => .inr (.inl false)) := by
  have hxl := hx.1
  unfold armplanref40_Replay.p0.step armplanref40_Replay.p0.round rstep
  simp only []
  simp (disch := omega) only [dif_dec, dif_ndec, bif_eq, bif_neq, bif_ne, bif_nne, w64, wu64, Int.toNat_natCast, Option.bind_some, cond_true, cond_false, Bool.not_true, Bool.not_false, Sum.elim_inl, Sum.elim_inr, rbound_val (rows.getD (steps.getD i 0).toNat R0) (x := x) (by omega)]
  by_cases a : steps.getD i 0 < 0
  · rw [decide_eq_false (show ¬ (0 ≤ steps.getD i 0 ∧ steps.getD i 0 < (rows.length : Int)) by omega)]
    simp (disch := omega) only [dif_dec, dif_ndec, bif_eq, bif_neq, bif_ne, bif_nne, w64, wu64, Int.toNat_natCast, Option.bind_some, cond_true, cond_false, Bool.not_true, Bool.not_false, Sum.elim_inl, Sum.elim_inr]
  · by_cases b : steps.getD i 0 ≥ (rows.length : Int)
    · rw [decide_eq_false (show ¬ (0 ≤ steps.getD i 0 ∧ steps.getD i 0 < (rows.length : Int)) by omega)]
      simp (disch := omega) only [dif_dec, dif_ndec, bif_eq, bif_neq, bif_ne, bif_nne, w64, wu64, Int.toNat_natCast, Option.bind_some, cond_true, cond_false, Bool.not_true, Bool.not_false, Sum.elim_inl, Sum.elim_inr]
    · rw [decide_eq_true (show 0 ≤ steps.getD i 0 ∧ steps.getD i 0 < (rows.length : Int) by omega)]
      have ht := tgt_lt (hr (steps.getD i 0).toNat (by omega))
      simp (disch := omega) only [dif_dec, dif_ndec, bif_eq, bif_neq, bif_ne, bif_nne, w64, wu64, Int.toNat_natCast, Option.bind_some, cond_true, cond_false, Bool.not_true, Bool.not_false, Sum.elim_inl, Sum.elim_inr]
      unfold boundV
      generalize rows.getD (steps.getD i 0).toNat R0 = r at *
      cases hb : bndOk r x with
      | false => rfl
      | true =>
        simp only [cond_true]
        by_cases c : bnd r x < x.getD (tgt r) 0
        · simp (disch := omega) only [dif_dec, dif_ndec, bif_eq, bif_neq, bif_ne, bif_nne, w64, wu64, Int.toNat_natCast, Option.bind_some, cond_true, cond_false, Bool.not_true, Bool.not_false, Sum.elim_inl, Sum.elim_inr, max_if]
          rfl
        · simp (disch := omega) only [dif_dec, dif_ndec, bif_eq, bif_neq, bif_ne, bif_nne, w64, wu64, Int.toNat_natCast, Option.bind_some, cond_true, cond_false, Bool.not_true, Bool.not_false, Sum.elim_inl, Sum.elim_inr]
          rfl
theorem rreplay_loop {n : Nat} {rows : List RT} (hr : RowsP n rows) (hn : n ≤ 65) (hrl : rows.length ≤ 16384) {steps : List Int} (hs : steps.length ≤ 16384) : ∀ (m i : Nat) (x : List Int), i + m = steps.length → Lev1 n x →
    loopF armplanref40_Replay.p0.step (rows, steps, (i : Int), x) = some (match rall rows x (steps.drop i) with | some x' => .inr x' | none => .inl false)
  | 0, i, x, hm, hx => by
    rw [List.drop_of_length_le (by omega)]
    refine loop_end ?_
    unfold armplanref40_Replay.p0.step armplanref40_Replay.p0.round
    simp only []
    simp (disch := omega) only [dif_dec, dif_ndec, bif_eq, bif_neq, bif_ne, bif_nne, w64, wu64, Int.toNat_natCast, Option.bind_some, cond_true, cond_false, Bool.not_true, Bool.not_false, Sum.elim_inl, Sum.elim_inr]
    rfl
  | m + 1, i, x, hm, hx => by
    have hi : i < steps.length := by omega
    have hst := rreplay_step hr hn hrl hi hs hx
    rw [drop_cons (d := 0) hi, rall]
    cases h : rstep rows x (steps.getD i 0) with
    | none =>
      rw [h] at hst
      exact loop_end hst
    | some z =>
      rw [h] at hst
      exact loop_next hst (rreplay_loop hr hn hrl hs m (i + 1) z (by omega) (rstep_lev1 hr hx h))
theorem rreplay_val (top : List Int) (rows : List RT) (steps : List Int) : armplanref40_Replay.F top rows steps = some ((replayV top rows steps).2, (replayV top rows steps).1) := by
  rw [armplanref40_Replay.F_eq]
  unfold armplanref40_Replay.F0 replayV
  rw [rvalid_val, Option.bind_some]
  cases hv : validB top rows with
  | false => rfl
  | true =>
    have hV := validB_iff.1 hv
    have h65 := hV.n65
    have h2 := hV.n2
    have hrl := hV.rl
    obtain ⟨hl, hr⟩ := valid_lev hV
    rw [Bool.not_true, cond_false, Bool.true_and]
    by_cases a : (steps.length : Int) > 16384
    · rw [dif_dec a, decide_eq_false (by omega)]; rfl
    · rw [dif_ndec a, decide_eq_true (by omega), dif_dec (by omega)]
      have l0 := rreplay_loop hr h65 hrl (steps := steps) (by omega) steps.length 0 top (by omega) (lev_lev1 hl)
      rw [show ((0 : Nat) : Int) = 0 from rfl, List.drop_zero] at l0
      rw [l0, Option.bind_some, cond_true]
      cases rall rows top steps <;> rfl

/-! ### Proves, Refutes -/
theorem proves_val (top : List Int) (rows : List RT) {x : List Int} (steps : List Int) (hx : x.length ≤ 2 ^ 60) : profile_Proves.F top rows x steps = some (provesB top rows x steps) := by
  rw [profile_Proves.F_eq]
  unfold profile_Proves.F0 provesB
  rw [replay_val, Option.bind_some, equal_val hx, feas_val]
  simp only [Option.bind_some]
  cases (replayV top rows steps).2 <;> cases decide (x = (replayV top rows steps).1) <;> rfl
theorem rproves_val (top : List Int) (rows : List RT) {x : List Int} (steps : List Int) (hx : x.length ≤ 2 ^ 60) : armplanref40_Proves.F top rows x steps = some (provesB top rows x steps) := by
  rw [armplanref40_Proves.F_eq]
  unfold armplanref40_Proves.F0 provesB
  rw [rreplay_val, Option.bind_some, sameNum_val hx, rfeas_val]
  simp only [Option.bind_some]
  cases (replayV top rows steps).2 <;> cases decide (x = (replayV top rows steps).1) <;> cases feasB top rows x <;> rfl
theorem refutes_val (top : List Int) (rows : List RT) (steps : List Int) : profile_Refutes.F top rows steps = some (refutesB top rows steps) := by
  rw [profile_Refutes.F_eq]
  unfold profile_Refutes.F0 refutesB
  rw [replay_val, Option.bind_some]
  simp only []
  cases hb : (replayV top rows steps).2 with
  | false => rfl
  | true =>
    obtain ⟨hV, _, h3⟩ := replay_true hb
    obtain ⟨hl, hr⟩ := valid_lev hV
    have hL := rall_lev1 hr _ (lev_lev1 hl) h3
    have h65 := hV.n65
    have h2 := hV.n2
    have hrl := hV.rl
    generalize (replayV top rows steps).1 = y at *
    have hyl := hL.1
    obtain ⟨m, e1, e2⟩ := min_val (l := y) (by omega) (by omega)
    rw [Bool.not_true, cond_false, e1, Option.bind_some, e2, containsR_val (by rw [hL.1]; exact hr) (lev1_near hL) (by omega) (by omega)]
    show (bif negB y then some true else _) = _
    cases negB y <;> rfl
theorem rrefutes_val (top : List Int) (rows : List RT) (steps : List Int) : armplanref40_Refutes.F top rows steps = some (refutesB top rows steps) := by
  rw [armplanref40_Refutes.F_eq]
  unfold armplanref40_Refutes.F0 refutesB
  rw [rreplay_val, Option.bind_some]
  simp only []
  cases hb : (replayV top rows steps).2 with
  | false => rfl
  | true =>
    obtain ⟨hV, _, h3⟩ := replay_true hb
    obtain ⟨hl, hr⟩ := valid_lev hV
    have hL := rall_lev1 hr _ (lev_lev1 hl) h3
    have h65 := hV.n65
    have h2 := hV.n2
    have hrl := hV.rl
    generalize (replayV top rows steps).1 = y at *
    have hyl := hL.1
    have l0 := loop_find (step := armplanref40_Refutes.p0.step) (fun i : Nat => (rows, (i : Int), y)) y.length (fun i => bif decide (y.getD i 0 < 0) then some (.inl true) else none) (.inr (rows, y)) (by
      intro i hi
      unfold armplanref40_Refutes.p0.step armplanref40_Refutes.p0.round
      simp only []
      simp (disch := omega) only [dif_dec, dif_ndec, bif_eq, bif_neq, bif_ne, bif_nne, w64, wu64, Int.toNat_natCast, Option.bind_some, cond_true, cond_false, Bool.not_true, Bool.not_false, Sum.elim_inl, Sum.elim_inr]
      cases decide (y.getD i 0 < 0) <;> rfl) (by
      unfold armplanref40_Refutes.p0.step armplanref40_Refutes.p0.round
      simp only []
      simp (disch := omega) only [dif_dec, dif_ndec, bif_eq, bif_neq, bif_ne, bif_nne, w64, wu64, Int.toNat_natCast, Option.bind_some, cond_true, cond_false, Bool.not_true, Bool.not_false, Sum.elim_inl, Sum.elim_inr]) y.length 0 (by omega)
    have l1 := loop_find (step := armplanref40_Refutes.p1.step) (fun i : Nat => (rows, (i : Int), y)) rows.length (fun i => bif (fun k => decide ((rows.getD k R0).2.1 ≤ 0 ∧ (rows.getD k R0).2.2.1 ≤ 0) && !satB (rows.getD k R0) y) i then some (.inl true) else none) (.inr ()) (by
      intro i hi
      have hv := holds_val (by rw [hL.1]; exact hr i hi) (lev1_near hL) (by omega)
      unfold armplanref40_Refutes.p1.step armplanref40_Refutes.p1.round
      simp only []
      by_cases a : (rows.getD i R0).2.1 ≤ 0
      · by_cases b : (rows.getD i R0).2.2.1 ≤ 0
        · rw [decide_eq_true (show (rows.getD i R0).2.1 ≤ 0 ∧ (rows.getD i R0).2.2.1 ≤ 0 from ⟨a, b⟩)]
          simp (disch := omega) only [dif_dec, dif_ndec, bif_eq, bif_neq, bif_ne, bif_nne, w64, wu64, Int.toNat_natCast, Option.bind_some, cond_true, cond_false, Bool.not_true, Bool.not_false, Sum.elim_inl, Sum.elim_inr, hv]
          cases satB (rows.getD i R0) y <;> rfl
        · rw [decide_eq_false (show ¬ ((rows.getD i R0).2.1 ≤ 0 ∧ (rows.getD i R0).2.2.1 ≤ 0) from fun h => b h.2)]
          simp (disch := omega) only [dif_dec, dif_ndec, bif_eq, bif_neq, bif_ne, bif_nne, w64, wu64, Int.toNat_natCast, Option.bind_some, cond_true, cond_false, Bool.not_true, Bool.not_false, Sum.elim_inl, Sum.elim_inr]
          rfl
      · rw [decide_eq_false (show ¬ ((rows.getD i R0).2.1 ≤ 0 ∧ (rows.getD i R0).2.2.1 ≤ 0) from fun h => a h.1)]
        simp (disch := omega) only [dif_dec, dif_ndec, bif_eq, bif_neq, bif_ne, bif_nne, w64, wu64, Int.toNat_natCast, Option.bind_some, cond_true, cond_false, Bool.not_true, Bool.not_false, Sum.elim_inl, Sum.elim_inr]
        rfl) (by
      unfold armplanref40_Refutes.p1.step armplanref40_Refutes.p1.round
      simp only []
      simp (disch := omega) only [dif_dec, dif_ndec, bif_eq, bif_neq, bif_ne, bif_nne, w64, wu64, Int.toNat_natCast, Option.bind_some, cond_true, cond_false, Bool.not_true, Bool.not_false, Sum.elim_inl, Sum.elim_inr]) rows.length 0 (by omega)
    rw [show ((0 : Nat) : Int) = 0 from rfl] at l0 l1
    rw [Bool.not_true, cond_false, l0, Option.bind_some, findE_any (P := fun i => decide (y.getD i 0 < 0)) (g := fun _ => .inl true) fun j _ _ => rfl]
    show Sum.elim _ _ (bif negB y then _ else _) = _
    cases negB y with
    | true => rfl
    | false =>
      simp only [cond_false, Sum.elim_inr]
      rw [l1, Option.bind_some, findE_any (P := fun k => decide ((rows.getD k R0).2.1 ≤ 0 ∧ (rows.getD k R0).2.2.1 ≤ 0) && !satB (rows.getD k R0) y) (g := fun _ => .inl true) fun j _ _ => rfl]
      show Sum.elim _ _ (bif lowB rows y then _ else _) = _
      cases lowB rows y <;> rfl
end Go.Abs
