/- A part of the proof that the text with the row names: printed readings of functions, or plain lemmas about them. -/
import Derived.Test.YtceacicpjgffgaaC41GLProfilePhases
import Derived.Test.YtceacicpjgffgaaC41M6
set_option linter.unusedVariables false
set_option linter.unusedSimpArgs false
namespace Go.Abs
open Go
theorem kind_one (a b : Int) : decide (b > a) = (kindV a b == 1) := by
  unfold kindV
  by_cases h : a < b
  · rw [dif_dec h, decide_eq_true h]; rfl
  · rw [dif_ndec h, decide_eq_false h]
    by_cases h' : a > b
    · rw [dif_dec h']; rfl
    · rw [dif_ndec h']; rfl
theorem kind_two (a b : Int) : decide (b < a) = (kindV a b == 2) := by
  unfold kindV
  by_cases h : a < b
  · rw [dif_dec h, decide_eq_false (by omega)]; rfl
  · rw [dif_ndec h]
    by_cases h' : a > b
    · rw [dif_dec h', decide_eq_true h']; rfl
    · rw [dif_ndec h', decide_eq_false (by omega)]; rfl
theorem ph_inner {x : List Int} {m k : Nat} {l : List PhT} (h : PhOk x m l) (hx : x.length = m + 1) (hm : m ≤ 1000) (hk : k < l.length) (hl : l.length ≤ 1000) : ∀ (d i : Nat), ((i + d : Nat) : Int) = (l.getD k Ph0).2.2 → (l.getD k Ph0).2.1 ≤ i →
    loopF armplanlaw41_ProfilePhases.p1.step (x, (k : Int), (i : Int), l) = some (.inr (x, (k : Int), l))
  | 0, i, hd, hi => by
    have e : (l.getD k ((0 : Int), ((0 : Int), (0 : Int)))).2.2 = (i : Int) := by rw [show l.getD k ((0 : Int), ((0 : Int), (0 : Int))) = l.getD k Ph0 from rfl]; omega
    refine loop_end ?_
    unfold armplanlaw41_ProfilePhases.p1.step armplanlaw41_ProfilePhases.p1.round
    simp only []
    simp (disch := omega) only [dif_dec, dif_ndec, bif_eq, bif_neq, bif_ne, bif_nne, w64, wu64, Int.toNat_natCast, Option.bind_some, cond_true, cond_false, Bool.not_true, Bool.not_false, Sum.elim_inl, Sum.elim_inr, e]
  | d + 1, i, hd, hi => by
    have he := h.each k hk
    have hkd := h.kind k hk i hi (by omega)
    have k1 := kind_one (x.getD i 0) (x.getD (i + 1) 0)
    have k2 := kind_two (x.getD i 0) (x.getD (i + 1) 0)
    rw [hkd] at k1 k2
    refine loop_next ?_ (ph_inner h hx hm hk hl d (i + 1) (by omega) (by omega))
    have hlt : (i : Int) < (l.getD k ((0 : Int), ((0 : Int), (0 : Int)))).2.2 := by rw [show l.getD k ((0 : Int), ((0 : Int), (0 : Int))) = l.getD k Ph0 from rfl]; omega
    have hb : i + 1 < x.length := by omega
    have e : ((i : Int) + 1).toNat = i + 1 := by omega
    unfold armplanlaw41_ProfilePhases.p1.step armplanlaw41_ProfilePhases.p1.round
    simp only []
    simp (disch := omega) only [dif_dec, dif_ndec, bif_eq, bif_neq, bif_ne, bif_nne, w64, wu64, Int.toNat_natCast, Option.bind_some, cond_true, cond_false, Bool.not_true, Bool.not_false, Sum.elim_inl, Sum.elim_inr, e]
    rw [k1, k2]
    simp only [beq_self_eq_true, Bool.not_true, cond_false]
    rfl
theorem ph_outer {x : List Int} {m : Nat} {l : List PhT} (h : PhOk x m l) (hx : x.length = m + 1) (hm : m ≤ 1000) (hl : l.length ≤ 1000) : loopF armplanlaw41_ProfilePhases.p0.step (x, 0, l) = some (.inr ()) := by
  have := loop_count (step := armplanlaw41_ProfilePhases.p0.step) (fun k : Nat => (x, (k : Int), l)) l.length (.inr ()) (by
    intro k hk
    have he : 0 ≤ (l.getD k ((0 : Int), ((0 : Int), (0 : Int)))).2.1 ∧ (l.getD k ((0 : Int), ((0 : Int), (0 : Int)))).2.1 < (l.getD k ((0 : Int), ((0 : Int), (0 : Int)))).2.2 ∧ (l.getD k ((0 : Int), ((0 : Int), (0 : Int)))).2.2 ≤ m := h.each k hk
    obtain ⟨e1, e2, e3⟩ := he
    have hin := ph_inner h hx hm hk hl ((l.getD k Ph0).2.2 - (l.getD k Ph0).2.1).toNat (l.getD k Ph0).2.1.toNat (by have := h.each k hk; omega) (by omega)
    rw [show (((l.getD k Ph0).2.1.toNat : Nat) : Int) = (l.getD k ((0 : Int), ((0 : Int), (0 : Int)))).2.1 from Int.toNat_of_nonneg e1] at hin
    unfold armplanlaw41_ProfilePhases.p0.step armplanlaw41_ProfilePhases.p0.round
    simp only []
    by_cases k0 : (k : Int) > 0
    · have hn : (l.getD k ((0 : Int), ((0 : Int), (0 : Int)))).2.1 = (l.getD (k - 1) ((0 : Int), ((0 : Int), (0 : Int)))).2.2 ∧ (l.getD k ((0 : Int), ((0 : Int), (0 : Int)))).1 ≠ (l.getD (k - 1) ((0 : Int), ((0 : Int), (0 : Int)))).1 := h.next k (by omega) hk
      obtain ⟨n1, n2⟩ := hn
      have e : ((k : Int) - 1).toNat = k - 1 := by omega
      simp (disch := omega) only [dif_dec, dif_ndec, bif_eq, bif_neq, bif_ne, bif_nne, w64, wu64, Int.toNat_natCast, Option.bind_some, cond_true, cond_false, Bool.not_true, Bool.not_false, Sum.elim_inl, Sum.elim_inr, e, hin]
      rfl
    · simp (disch := omega) only [dif_dec, dif_ndec, bif_eq, bif_neq, bif_ne, bif_nne, w64, wu64, Int.toNat_natCast, Option.bind_some, cond_true, cond_false, Bool.not_true, Bool.not_false, Sum.elim_inl, Sum.elim_inr, hin]
      rfl) (by
    unfold armplanlaw41_ProfilePhases.p0.step armplanlaw41_ProfilePhases.p0.round
    simp only []
    simp (disch := omega) only [dif_dec, dif_ndec, bif_eq, bif_neq, bif_ne, bif_nne, w64, wu64, Int.toNat_natCast, Option.bind_some, cond_true, cond_false, Bool.not_true, Bool.not_false, Sum.elim_inl, Sum.elim_inr]) l.length 0 (by omega)
  exact this
theorem phases_law (x : List Int) (hx : x.length ≤ 2 ^ 60) : armplanlaw41_ProfilePhases.F x = some true := by
  rw [armplanlaw41_ProfilePhases.F_eq]
  unfold armplanlaw41_ProfilePhases.F0
  by_cases h2 : (x.length : Int) < 2
  · rw [dif_dec h2, awake41_true, Option.bind_some, cond_true, dif_ndec (by omega), phases_val (by omega), Option.bind_some]
    have : phasesV x = [] := by unfold phasesV; rw [show x.length - 1 = 0 by omega]; rfl
    rw [this]
    rfl
  · rw [dif_ndec h2]
    by_cases h200 : (x.length : Int) > 200
    · rw [dif_dec h200, awake41_true, Option.bind_some, cond_true, dif_dec h200]
    · obtain ⟨m, hm⟩ : ∃ m, x.length = m + 2 := ⟨x.length - 2, by omega⟩
      have hok := phL_ok x m
      have hl := phL_length x (m + 1)
      have hne := hok.ne
      rw [dif_ndec h200, phases_val (by omega), Option.bind_some]
      unfold phasesV
      rw [show x.length - 1 = m + 1 by omega]
      have hfirst : ((phL x (m + 1)).getD 0 ((0 : Int), ((0 : Int), (0 : Int)))).2.1 = 0 := hok.first
      have hlast : ((phL x (m + 1)).getD ((phL x (m + 1)).length - 1) ((0 : Int), ((0 : Int), (0 : Int)))).2.2 = ((m + 1 : Nat) : Int) := hok.last
      have hout := ph_outer hok (by omega) (by omega) (by omega)
      generalize phL x (m + 1) = l at *
      have e : ((l.length : Int) - 1).toNat = l.length - 1 := by omega
      simp (disch := omega) only [dif_dec, dif_ndec, bif_eq, bif_neq, bif_ne, bif_nne, w64, wu64, Int.toNat_natCast, Option.bind_some, cond_true, cond_false, Bool.not_true, Bool.not_false, Sum.elim_inl, Sum.elim_inr, e, hout, awake41_true]
theorem phases_good (x : ArgT [.lf (.slc (.int .i64))]) (g : GoodAll [.lf (.slc (.int .i64))] x) : armplanlaw41_ProfilePhases.F x.1 = some true := by
  obtain ⟨⟨g1, _⟩, _⟩ := g
  simp only [minB, reachBytes] at g1
  exact phases_law _ (by omega)
end Go.Abs
