/- A part of the proof that the text with the row names: printed readings of functions, or plain lemmas about them. -/
import Derived.Test.YtanopckddijfcaaDoorC8GLRobotChainSteps
import Derived.Test.YtanopckddijfcaaDoorC8M6
set_option linter.unusedVariables false
set_option linter.unusedSimpArgs false
namespace Go.Abs
open Go Go.Proofs
theorem from_val (l : List Int) : armplanmake_From.F l = some (l, 0) := by
  rw [armplanmake_From.F_eq]
  rfl
theorem mkRobot_val {l : List Int} (hl : l.length ≤ 2 ^ 60) : ∃ r, armplanmake_Robot.F l = some r ∧ GoodR r.1 r.2 := by
  rw [armplanmake_Robot.F_eq]
  unfold armplanmake_Robot.F0
  rw [from_val]
  simp only [Option.bind_some]
  obtain ⟨r, h1, h2, _⟩ := robot_val hl (p := 0) (by decide) (by decide)
  rw [h1]
  exact ⟨_, rfl, h2⟩
theorem chainL_none (js : List JT) : ∀ f, chainL js f (-1) = []
  | 0 => rfl
  | f + 1 => by
    simp only [chainL]
    rfl
structure ChOk (js : List JT) (k : Int) (l : List Int) : Prop where
  ne : 1 ≤ l.length
  last : l.getD (l.length - 1) 0 = k
  rng : ∀ i, i < l.length → 0 ≤ l.getD i 0 ∧ l.getD i 0 < js.length
  up : ∀ i, i < l.length → par_ js (l.getD i 0) = if i = 0 then -1 else l.getD (i - 1) 0
theorem snoc_at {l : List Int} {x : Int} {i : Nat} : (l ++ [x]).getD i 0 = if i < l.length then l.getD i 0 else if i = l.length then x else 0 := by
  simp only [List.getD_eq_getElem?_getD]
  split
  · rename_i h
    rw [List.getElem?_append_left h]
  · split
    · rename_i h1 h2
      subst h2
      simp
    · rename_i h1 h2
      rw [List.getElem?_eq_none (by rw [List.length_append, List.length_cons, List.length_nil]; omega)]
      rfl
theorem chain_ok {js : List JT} (hd : Down js) : ∀ (f : Nat) (k : Int), 0 ≤ k → k < js.length → k + 1 ≤ f → ChOk js k (chainL js f k)
  | 0, k, h0, _, h => by omega
  | f + 1, k, h0, hk, h => by
    have hp := hd k.toNat (by omega)
    rw [show ((k.toNat : Nat) : Int) = k by omega] at hp
    have hc : chainL js (f + 1) k = chainL js f (par_ js k) ++ [k] := by
      simp only [chainL]
      rw [if_neg (by omega)]
    rw [hc]
    by_cases hn : par_ js k = -1
    · rw [hn, chainL_none]
      refine ⟨Nat.le_refl _, rfl, fun i hi => ?_, fun i hi => ?_⟩
      · obtain rfl : i = 0 := by simp only [List.nil_append, List.length_cons, List.length_nil] at hi; omega
        exact ⟨h0, hk⟩
      · obtain rfl : i = 0 := by simp only [List.nil_append, List.length_cons, List.length_nil] at hi; omega
        exact hn
    · have ih := chain_ok hd f (par_ js k) (by omega) (by omega) (by omega)
      have hl : (chainL js f (par_ js k) ++ [k]).length = (chainL js f (par_ js k)).length + 1 := by rw [List.length_append, List.length_cons, List.length_nil]
      generalize chainL js f (par_ js k) = m at *
      have hne := ih.ne
      refine ⟨by omega, ?_, fun i hi => ?_, fun i hi => ?_⟩
      · rw [hl, snoc_at, if_neg (by omega), if_pos (by omega)]
      · rw [snoc_at]
        split
        · rename_i h1
          exact ih.rng i h1
        · rw [if_pos (by omega)]
          exact ⟨h0, hk⟩
      · rw [snoc_at, snoc_at]
        split
        · rename_i h1
          rw [ih.up i h1]
          by_cases hi0 : i = 0
          · rw [if_pos hi0, if_pos hi0]
          · rw [if_neg hi0, if_neg hi0, if_pos (by omega)]
        · have e : i = m.length := by omega
          rw [if_pos e, if_neg (by omega), if_pos (by omega), e, ih.last]
theorem steps_loop {js : List JT} {ms : List MT} {k : Int} {l : List Int} (h : ChOk js k l) (hl : l.length ≤ 11) (hj : js.length ≤ 10) : loopF armplanlaw8_RobotChainSteps.p0.step (k, 0, js, ms, l) = some (.inr (k, js, ms, l)) := by
  have := loop_count (step := armplanlaw8_RobotChainSteps.p0.step) (fun i : Nat => (k, (i : Int), js, ms, l)) l.length (.inr (k, js, ms, l)) (by
    intro i hi
    have hr := h.rng i hi
    have hu := h.up i hi
    unfold armplanlaw8_RobotChainSteps.p0.step armplanlaw8_RobotChainSteps.p0.round
    simp only []
    have e1 : ((i : Int) + 1) = ((i + 1 : Nat) : Int) := by omega
    have hu2 : (js.getD (l.getD i 0).toNat J0).2.2.1 = if i = 0 then -1 else l.getD (i - 1) 0 := hu
    by_cases hi0 : i = 0
    · subst hi0
      rw [if_pos rfl] at hu2
      simp (disch := omega) only [dif_dec, dif_ndec, bif_eq, bif_neq, bif_ne, bif_nne, w64, wu64, Int.toNat_natCast, Option.bind_some, cond_true, cond_false, Bool.not_true, Bool.not_false, Sum.elim_inl, Sum.elim_inr, hu2, e1]
    · rw [if_neg hi0] at hu2
      have e2 : ((i : Int) - 1) = ((i - 1 : Nat) : Int) := by omega
      simp (disch := omega) only [dif_dec, dif_ndec, bif_eq, bif_neq, bif_ne, bif_nne, w64, wu64, Int.toNat_natCast, Option.bind_some, cond_true, cond_false, Bool.not_true, Bool.not_false, Sum.elim_inl, Sum.elim_inr, e2, hu2, bne_self_eq_false, e1]) (by
    unfold armplanlaw8_RobotChainSteps.p0.step armplanlaw8_RobotChainSteps.p0.round
    simp only []
    simp (disch := omega) only [dif_dec, dif_ndec, bif_eq, bif_neq, bif_ne, bif_nne, w64, wu64, Int.toNat_natCast, Option.bind_some, cond_true, cond_false, Bool.not_true, Bool.not_false, Sum.elim_inl, Sum.elim_inr]) l.length 0 (by omega)
  exact this
theorem steps_true {l : List Int} (hl : l.length ≤ 2 ^ 60) (a : Int) : armplanlaw8_RobotChainSteps.F l a = some true := by
  rw [armplanlaw8_RobotChainSteps.F_eq]
  unfold armplanlaw8_RobotChainSteps.F0
  obtain ⟨⟨js, ms⟩, hR, hG⟩ := mkRobot_val hl
  simp only [] at hG
  have hc := chkRobot_good hG
  have hz := chkRobot_zero hc
  have hd := down_of hc
  have h1 := hz.1
  have h10 := hz.2.1
  rw [hR]
  simp only [Option.bind_some]
  rw [round_val (by omega) (by omega)]
  simp only [Option.bind_some]
  have hm0 : 0 ≤ a % (js.length : Int) := Int.emod_nonneg _ (by omega)
  have hm1 : a % (js.length : Int) < js.length := Int.emod_lt_of_pos _ (by omega)
  generalize a % (js.length : Int) = k at *
  have hch := chain_ok hd 11 k hm0 hm1 (by omega)
  have hlen := chainL_length js 11 k
  rw [chain_val hc (linkB_of (by omega) hm1)]
  simp only [Option.bind_some]
  have hne := hch.ne
  have hlast := hch.last
  rw [steps_loop hch hlen h10, awake8_val]
  simp only [Option.bind_some, Sum.elim_inr, cond_true]
  rw [chain_val hc (linkB_of (Int.le_refl _) (by omega)), chainL_none]
  have e2 : (((chainL js 11 k).length : Int) - 1) = (((chainL js 11 k).length - 1 : Nat) : Int) := by omega
  generalize chainL js 11 k = c at *
  simp (disch := omega) only [dif_dec, dif_ndec, bif_eq, bif_neq, bif_ne, bif_nne, w64, wu64, Int.toNat_natCast, Option.bind_some, cond_true, cond_false, Bool.not_true, Bool.not_false, Sum.elim_inl, Sum.elim_inr, e2, hlast, beq_self_eq_true]
  rfl
theorem chainSteps_good (x : ArgT [.lf (.slc (.int .i64)), .lf (.int .i64)]) (g : GoodAll [.lf (.slc (.int .i64)), .lf (.int .i64)] x) : armplanlaw8_RobotChainSteps.F x.1 x.2.1 = some true := by
  obtain ⟨⟨g1, _⟩, _⟩ := g
  simp only [minB, reachBytes] at g1
  exact steps_true (by omega) _
end Go.Abs
