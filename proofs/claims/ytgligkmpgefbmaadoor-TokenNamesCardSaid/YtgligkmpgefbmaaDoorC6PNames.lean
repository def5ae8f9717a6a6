/- A part of the proof that the text with the row names: printed readings of functions, or plain lemmas about them. -/
import Derived.Test.YtgligkmpgefbmaaDoorC6GLTokenNames
import Derived.Test.YtgligkmpgefbmaaDoorC6M5
import Derived.Test.YtgligkmpgefbmaaDoorAbsD
set_option linter.unusedVariables false
set_option linter.unusedSimpArgs false
namespace Go.Abs
open Go Go.Proofs
def namL : List ByteArray := [(⟨#[97]⟩ : ByteArray), (⟨#[122]⟩ : ByteArray), (⟨#[95]⟩ : ByteArray), (⟨#[48]⟩ : ByteArray), (⟨#[119, 111, 114, 108, 100]⟩ : ByteArray), (⟨#[66]⟩ : ByteArray), (⟨#[57]⟩ : ByteArray), (⟨#[45]⟩ : ByteArray), (⟨#[97, 114, 109]⟩ : ByteArray)]
theorem namL_size : ∀ k, k < 9 → (namL.getD k ⟨#[]⟩).size ≤ 9 := by decide
theorem nam_loop {l : List Int} (hl : ∀ x ∈ l, 0 ≤ x) : ∀ (d i : Nat) (t : ByteArray), i + d = 20 → t.size ≤ 9 * i → ∃ r : ByteArray, r.size ≤ 180 ∧ loopF armplanlaw6_TokenNames.p0.step (l, t, (i : Int)) = some r
  | 0, i, t, hid, ht => by
    refine ⟨t, by omega, loop_end ?_⟩
    unfold armplanlaw6_TokenNames.p0.step armplanlaw6_TokenNames.p0.round
    simp only []
    by_cases hi : (i : Int) < l.length
    · simp (disch := omega) only [dif_dec, dif_ndec, bif_eq, bif_neq, bif_ne, bif_nne, w64, wu64, Int.toNat_natCast, Option.bind_some, cond_true, cond_false, Bool.not_true, Bool.not_false, Sum.elim_inl, Sum.elim_inr]
    · simp (disch := omega) only [dif_dec, dif_ndec, bif_eq, bif_neq, bif_ne, bif_nne, w64, wu64, Int.toNat_natCast, Option.bind_some, cond_true, cond_false, Bool.not_true, Bool.not_false, Sum.elim_inl, Sum.elim_inr]
  | d + 1, i, t, hid, ht => by
    by_cases hi : (i : Int) < l.length
    · have h0 : 0 ≤ l.getD i 0 := by
        rw [List.getD_eq_getElem?_getD, List.getElem?_eq_getElem (by omega)]
        exact hl _ (List.getElem_mem _)
      have hm : 0 ≤ (l.getD i 0).tmod 9 ∧ (l.getD i 0).tmod 9 < 9 := ⟨Int.tmod_nonneg _ h0, Int.tmod_lt_of_pos _ (by decide)⟩
      have hsz := namL_size ((l.getD i 0).tmod 9).toNat (by omega)
      obtain ⟨r, hr, hloop⟩ := nam_loop hl d (i + 1) (t ++ namL.getD ((l.getD i 0).tmod 9).toNat ⟨#[]⟩) (by omega) (by rw [bsize_append]; omega)
      refine ⟨r, hr, ?_⟩
      have hstep : armplanlaw6_TokenNames.p0.step (l, t, (i : Int)) = some (.inl (l, t ++ namL.getD ((l.getD i 0).tmod 9).toNat ⟨#[]⟩, ((i + 1 : Nat) : Int))) := by
        unfold armplanlaw6_TokenNames.p0.step armplanlaw6_TokenNames.p0.round
        have e1 : ((i : Int) + 1) = ((i + 1 : Nat) : Int) := by omega
        rw [show ([(⟨#[97]⟩ : ByteArray), (⟨#[122]⟩ : ByteArray), (⟨#[95]⟩ : ByteArray), (⟨#[48]⟩ : ByteArray), (⟨#[119, 111, 114, 108, 100]⟩ : ByteArray), (⟨#[66]⟩ : ByteArray), (⟨#[57]⟩ : ByteArray), (⟨#[45]⟩ : ByteArray), (⟨#[97, 114, 109]⟩ : ByteArray)] : List ByteArray) = namL from rfl]
        simp only []
        generalize namL = T at *
        simp (disch := omega) only [dif_dec, dif_ndec, bif_eq, bif_neq, bif_ne, bif_nne, w64, wu64, Int.toNat_natCast, Option.bind_some, cond_true, cond_false, Bool.not_true, Bool.not_false, Sum.elim_inl, Sum.elim_inr]
        generalize (l.getD i 0).tmod 9 = m at *
        simp (disch := omega) only [dif_dec, dif_ndec, bif_eq, bif_neq, bif_ne, bif_nne, w64, wu64, Int.toNat_natCast, Option.bind_some, cond_true, cond_false, Bool.not_true, Bool.not_false, Sum.elim_inl, Sum.elim_inr, cat_ok, e1]
      rw [loopF_eq, hstep]
      exact hloop
    · refine ⟨t, by omega, loop_end ?_⟩
      unfold armplanlaw6_TokenNames.p0.step armplanlaw6_TokenNames.p0.round
      simp only []
      simp (disch := omega) only [dif_dec, dif_ndec, bif_eq, bif_neq, bif_ne, bif_nne, w64, wu64, Int.toNat_natCast, Option.bind_some, cond_true, cond_false, Bool.not_true, Bool.not_false, Sum.elim_inl, Sum.elim_inr]
theorem names_law {l : List Int} (hl : ∀ x ∈ l, 0 ≤ x) : armplanlaw6_TokenNames.F l = some true := by
  rw [armplanlaw6_TokenNames.F_eq]
  unfold armplanlaw6_TokenNames.F0
  obtain ⟨t, ht, h⟩ := nam_loop hl 20 0 ⟨#[]⟩ (by omega) (by decide)
  rw [show ((0 : Nat) : Int) = 0 from rfl] at h
  rw [h, awake_val]
  simp (disch := omega) only [dif_dec, dif_ndec, bif_eq, bif_neq, bif_ne, bif_nne, w64, wu64, Int.toNat_natCast, Option.bind_some, cond_true, cond_false, Bool.not_true, Bool.not_false, Sum.elim_inl, Sum.elim_inr, tname_val, rname_val, beq_self_eq_true]
  rw [show nameB ⟨#[119, 111, 114, 108, 100]⟩ = false by kernel_rfl, show nameB ⟨#[97, 114, 109, 95, 49]⟩ = true by kernel_rfl]
  rfl
theorem names_good (x : ArgT [.lf (.slc (.int .u8))]) (g : GoodAll [.lf (.slc (.int .u8))] x) : armplanlaw6_TokenNames.F x.1 = some true := by
  obtain ⟨⟨_, g2⟩, _⟩ := g
  refine names_law fun y hy => ?_
  have := (g2 y hy).1
  simp only [IntKind.min] at this
  exact this
end Go.Abs
