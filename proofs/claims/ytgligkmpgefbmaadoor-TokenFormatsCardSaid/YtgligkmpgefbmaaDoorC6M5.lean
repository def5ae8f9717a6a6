/- A part of the proof that the text with the row names: printed readings of functions, or plain lemmas about them. -/
import Derived.Test.YtgligkmpgefbmaaDoorC6M4
set_option linter.unusedVariables false
set_option linter.unusedSimpArgs false
namespace Go.Abs
open Go Go.Proofs

theorem bsize_append (a b : ByteArray) : (a ++ b).size = a.size + b.size := ByteArray.size_append

def typL : List ByteArray := [(⟨#[106, 111, 105, 110, 116]⟩ : ByteArray), (⟨#[97]⟩ : ByteArray), (⟨#[45, 49, 46, 53]⟩ : ByteArray), (⟨#[32]⟩ : ByteArray), (⟨#[32]⟩ : ByteArray), (⟨#[10]⟩ : ByteArray), (⟨#[9]⟩ : ByteArray), (⟨#[35]⟩ : ByteArray), (⟨#[120, 35, 121]⟩ : ByteArray), (⟨#[119, 111, 114, 108, 100]⟩ : ByteArray), (⟨#[48, 46, 50, 53]⟩ : ByteArray), (⟨#[10, 10]⟩ : ByteArray), (⟨#[32, 32]⟩ : ByteArray), (⟨#[115, 104, 97, 112, 101, 32, 98, 32, 49]⟩ : ByteArray), (⟨#[127]⟩ : ByteArray), (⟨#[126]⟩ : ByteArray)]
theorem typL_size : ∀ k, k < 16 → (typL.getD k ⟨#[]⟩).size ≤ 9 := by decide
theorem cat_ok {a b : ByteArray} (h : a.size + b.size ≤ 2 ^ 62) : catOk a b = true := by
  rw [catOk_eq]
  exact decide_eq_true (by omega)
theorem typ_loop {l : List Int} (hl : ∀ x ∈ l, 0 ≤ x) : ∀ (d i : Nat) (t : ByteArray), i + d = 80 → t.size ≤ 9 * i → ∃ r : ByteArray, r.size ≤ 720 ∧ loopF armplanlaw6_typical.p0.step (l, t, (i : Int)) = some r
  | 0, i, t, hid, ht => by
    refine ⟨t, by omega, loop_end ?_⟩
    unfold armplanlaw6_typical.p0.step armplanlaw6_typical.p0.round
    simp only []
    by_cases hi : (i : Int) < l.length
    · simp (disch := omega) only [dif_dec, dif_ndec, bif_eq, bif_neq, bif_ne, bif_nne, w64, wu64, Int.toNat_natCast, Option.bind_some, cond_true, cond_false, Bool.not_true, Bool.not_false, Sum.elim_inl, Sum.elim_inr]
    · simp (disch := omega) only [dif_dec, dif_ndec, bif_eq, bif_neq, bif_ne, bif_nne, w64, wu64, Int.toNat_natCast, Option.bind_some, cond_true, cond_false, Bool.not_true, Bool.not_false, Sum.elim_inl, Sum.elim_inr]
  | d + 1, i, t, hid, ht => by
    by_cases hi : (i : Int) < l.length
    · have h0 : 0 ≤ l.getD i 0 := by
        rw [List.getD_eq_getElem?_getD, List.getElem?_eq_getElem (by omega)]
        exact hl _ (List.getElem_mem _)
      have hm : 0 ≤ (l.getD i 0).tmod 16 ∧ (l.getD i 0).tmod 16 < 16 := ⟨Int.tmod_nonneg _ h0, Int.tmod_lt_of_pos _ (by decide)⟩
      have hsz := typL_size ((l.getD i 0).tmod 16).toNat (by omega)
      obtain ⟨r, hr, hloop⟩ := typ_loop hl d (i + 1) (t ++ typL.getD ((l.getD i 0).tmod 16).toNat ⟨#[]⟩) (by omega) (by rw [bsize_append]; omega)
      refine ⟨r, hr, ?_⟩
      have hstep : armplanlaw6_typical.p0.step (l, t, (i : Int)) = some (.inl (l, t ++ typL.getD ((l.getD i 0).tmod 16).toNat ⟨#[]⟩, ((i + 1 : Nat) : Int))) := by
        unfold armplanlaw6_typical.p0.step armplanlaw6_typical.p0.round
        have e1 : ((i : Int) + 1) = ((i + 1 : Nat) : Int) := by omega
        rw [show ([(⟨#[106, 111, 105, 110, 116]⟩ : ByteArray), (⟨#[97]⟩ : ByteArray), (⟨#[45, 49, 46, 53]⟩ : ByteArray), (⟨#[32]⟩ : ByteArray), (⟨#[32]⟩ : ByteArray), (⟨#[10]⟩ : ByteArray), (⟨#[9]⟩ : ByteArray), (⟨#[35]⟩ : ByteArray), (⟨#[120, 35, 121]⟩ : ByteArray), (⟨#[119, 111, 114, 108, 100]⟩ : ByteArray), (⟨#[48, 46, 50, 53]⟩ : ByteArray), (⟨#[10, 10]⟩ : ByteArray), (⟨#[32, 32]⟩ : ByteArray), (⟨#[115, 104, 97, 112, 101, 32, 98, 32, 49]⟩ : ByteArray), (⟨#[127]⟩ : ByteArray), (⟨#[126]⟩ : ByteArray)] : List ByteArray) = typL from rfl]
        simp only []
        generalize typL = T at *
        simp (disch := omega) only [dif_dec, dif_ndec, bif_eq, bif_neq, bif_ne, bif_nne, w64, wu64, Int.toNat_natCast, Option.bind_some, cond_true, cond_false, Bool.not_true, Bool.not_false, Sum.elim_inl, Sum.elim_inr]
        generalize (l.getD i 0).tmod 16 = m at *
        simp (disch := omega) only [dif_dec, dif_ndec, bif_eq, bif_neq, bif_ne, bif_nne, w64, wu64, Int.toNat_natCast, Option.bind_some, cond_true, cond_false, Bool.not_true, Bool.not_false, Sum.elim_inl, Sum.elim_inr, cat_ok, e1]
      rw [loopF_eq, hstep]
      exact hloop
    · refine ⟨t, by omega, loop_end ?_⟩
      unfold armplanlaw6_typical.p0.step armplanlaw6_typical.p0.round
      simp only []
      simp (disch := omega) only [dif_dec, dif_ndec, bif_eq, bif_neq, bif_ne, bif_nne, w64, wu64, Int.toNat_natCast, Option.bind_some, cond_true, cond_false, Bool.not_true, Bool.not_false, Sum.elim_inl, Sum.elim_inr]
theorem typical_val {l : List Int} (hl : ∀ x ∈ l, 0 ≤ x) : ∃ t : ByteArray, t.size ≤ 720 ∧ armplanlaw6_typical.F l = some t := by
  obtain ⟨t, ht, h⟩ := typ_loop hl 80 0 ⟨#[]⟩ (by omega) (by decide)
  refine ⟨t, ht, ?_⟩
  rw [armplanlaw6_typical.F_eq]
  unfold armplanlaw6_typical.F0
  rw [show (0 : Int) = ((0 : Nat) : Int) from rfl, h]
  rfl
end Go.Abs
