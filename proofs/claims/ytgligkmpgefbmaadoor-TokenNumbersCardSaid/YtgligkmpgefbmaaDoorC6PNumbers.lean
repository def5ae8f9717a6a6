/- A part of the proof that the text with the row names: printed readings of functions, or plain lemmas about them. -/
import Derived.Test.YtgligkmpgefbmaaDoorC6GLTokenNumbers
import Derived.Test.YtgligkmpgefbmaaDoorC6M8
import Derived.Test.YtgligkmpgefbmaaDoorAbsD
set_option linter.unusedVariables false
set_option linter.unusedSimpArgs false
namespace Go.Abs
open Go Go.Proofs
theorem numbers_val {s : ByteArray} (hs : s.size ≤ 2 ^ 60) : armplanlaw6_numbers.F s = some true := by
  rw [armplanlaw6_numbers.F_eq]
  unfold armplanlaw6_numbers.F0
  rw [tnum_all s hs, rnum_all s hs, tint_all s, rint_all s hs, tname_val, rname_val hs]
  simp (disch := omega) only [dif_dec, dif_ndec, bif_eq, bif_neq, bif_ne, bif_nne, w64, wu64, Int.toNat_natCast, Option.bind_some, cond_true, cond_false, Bool.not_true, Bool.not_false, Sum.elim_inl, Sum.elim_inr, beq_self_eq_true]
def numL : List ByteArray := [(⟨#[48]⟩ : ByteArray), (⟨#[49]⟩ : ByteArray), (⟨#[55]⟩ : ByteArray), (⟨#[57]⟩ : ByteArray), (⟨#[46]⟩ : ByteArray), (⟨#[45]⟩ : ByteArray), (⟨#[50, 53]⟩ : ByteArray), (⟨#[120]⟩ : ByteArray)]
theorem numL_size : ∀ k, k < 8 → (numL.getD k ⟨#[]⟩).size ≤ 9 := by decide
theorem num_loop {s : ByteArray} {l : List Int} (hl : ∀ x ∈ l, 0 ≤ x) : ∀ (d i : Nat) (t : ByteArray), i + d = 18 → t.size ≤ 9 * i → ∃ r : ByteArray, r.size ≤ 180 ∧ loopF armplanlaw6_TokenNumbers.p0.step (s, l, t, (i : Int)) = some (s, r)
  | 0, i, t, hid, ht => by
    refine ⟨t, by omega, loop_end ?_⟩
    unfold armplanlaw6_TokenNumbers.p0.step armplanlaw6_TokenNumbers.p0.round
    simp only []
    by_cases hi : (i : Int) < l.length
    · simp (disch := omega) only [dif_dec, dif_ndec, bif_eq, bif_neq, bif_ne, bif_nne, w64, wu64, Int.toNat_natCast, Option.bind_some, cond_true, cond_false, Bool.not_true, Bool.not_false, Sum.elim_inl, Sum.elim_inr]
    · simp (disch := omega) only [dif_dec, dif_ndec, bif_eq, bif_neq, bif_ne, bif_nne, w64, wu64, Int.toNat_natCast, Option.bind_some, cond_true, cond_false, Bool.not_true, Bool.not_false, Sum.elim_inl, Sum.elim_inr]
  | d + 1, i, t, hid, ht => by
    by_cases hi : (i : Int) < l.length
    · have h0 : 0 ≤ l.getD i 0 := by
        rw [List.getD_eq_getElem?_getD, List.getElem?_eq_getElem (by omega)]
        exact hl _ (List.getElem_mem _)
      have hm : 0 ≤ (l.getD i 0).tmod 8 ∧ (l.getD i 0).tmod 8 < 8 := ⟨Int.tmod_nonneg _ h0, Int.tmod_lt_of_pos _ (by decide)⟩
      have hsz := numL_size ((l.getD i 0).tmod 8).toNat (by omega)
      obtain ⟨r, hr, hloop⟩ := num_loop (s := s) hl d (i + 1) (t ++ numL.getD ((l.getD i 0).tmod 8).toNat ⟨#[]⟩) (by omega) (by rw [bsize_append]; omega)
      refine ⟨r, hr, ?_⟩
      have hstep : armplanlaw6_TokenNumbers.p0.step (s, l, t, (i : Int)) = some (.inl (s, l, t ++ numL.getD ((l.getD i 0).tmod 8).toNat ⟨#[]⟩, ((i + 1 : Nat) : Int))) := by
        unfold armplanlaw6_TokenNumbers.p0.step armplanlaw6_TokenNumbers.p0.round
        have e1 : ((i : Int) + 1) = ((i + 1 : Nat) : Int) := by omega
        rw [show ([(⟨#[48]⟩ : ByteArray), (⟨#[49]⟩ : ByteArray), (⟨#[55]⟩ : ByteArray), (⟨#[57]⟩ : ByteArray), (⟨#[46]⟩ : ByteArray), (⟨#[45]⟩ : ByteArray), (⟨#[50, 53]⟩ : ByteArray), (⟨#[120]⟩ : ByteArray)] : List ByteArray) = numL from rfl]
        simp only []
        generalize numL = T at *
        simp (disch := omega) only [dif_dec, dif_ndec, bif_eq, bif_neq, bif_ne, bif_nne, w64, wu64, Int.toNat_natCast, Option.bind_some, cond_true, cond_false, Bool.not_true, Bool.not_false, Sum.elim_inl, Sum.elim_inr]
        generalize (l.getD i 0).tmod 8 = m at *
        simp (disch := omega) only [dif_dec, dif_ndec, bif_eq, bif_neq, bif_ne, bif_nne, w64, wu64, Int.toNat_natCast, Option.bind_some, cond_true, cond_false, Bool.not_true, Bool.not_false, Sum.elim_inl, Sum.elim_inr, cat_ok, e1]
      rw [loopF_eq, hstep]
      exact hloop
    · refine ⟨t, by omega, loop_end ?_⟩
      unfold armplanlaw6_TokenNumbers.p0.step armplanlaw6_TokenNumbers.p0.round
      simp only []
      simp (disch := omega) only [dif_dec, dif_ndec, bif_eq, bif_neq, bif_ne, bif_nne, w64, wu64, Int.toNat_natCast, Option.bind_some, cond_true, cond_false, Bool.not_true, Bool.not_false, Sum.elim_inl, Sum.elim_inr]
theorem numbers_law {s : ByteArray} {l : List Int} (hs : s.size ≤ 2 ^ 59) (hl : ∀ x ∈ l, 0 ≤ x) : armplanlaw6_TokenNumbers.F s l = some true := by
  rw [armplanlaw6_TokenNumbers.F_eq]
  unfold armplanlaw6_TokenNumbers.F0
  obtain ⟨t, ht, h⟩ := num_loop (s := s) hl 18 0 ⟨#[]⟩ (by omega) (by decide)
  rw [show ((0 : Nat) : Int) = 0 from rfl] at h
  rw [h, awake_val]
  have h1 : (⟨#[45]⟩ : ByteArray).size = 1 := rfl
  have h3 : (⟨#[49, 50, 46]⟩ : ByteArray).size = 3 := rfl
  simp only [Option.bind_some, cond_true]
  rw [numbers_val (by omega), numbers_val (by omega), cat_ok (by omega), numbers_val (by rw [bsize_append]; omega), cat_ok (by omega), numbers_val (by rw [bsize_append]; omega)]
  rfl
theorem numbers_good (x : ArgT [.lf .str, .lf (.slc (.int .u8))]) (g : GoodAll [.lf .str, .lf (.slc (.int .u8))] x) : armplanlaw6_TokenNumbers.F x.1 x.2.1 = some true := by
  obtain ⟨g1, ⟨_, g2⟩, _⟩ := g
  simp only [Good, reachBytes] at g1
  refine numbers_law (by omega) fun y hy => ?_
  have := (g2 y hy).1
  simp only [IntKind.min] at this
  exact this
end Go.Abs
