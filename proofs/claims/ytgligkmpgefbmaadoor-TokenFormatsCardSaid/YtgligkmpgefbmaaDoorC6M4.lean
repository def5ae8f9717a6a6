/- A part of the proof that the text with the row names: printed readings of functions, or plain lemmas about them. -/
import Derived.Test.YtgligkmpgefbmaaDoorC6M3
set_option linter.unusedVariables false
set_option linter.unusedSimpArgs false
namespace Go.Abs
open Go Go.Proofs

/-! ### The sanity check -/
def b1 : ByteArray := ⟨#[49]⟩
def b5 : ByteArray := ⟨#[53]⟩
theorem aw_pre : libCutPrefix.F ⟨#[45, 49, 46, 53]⟩ ⟨#[45]⟩ = some (⟨#[49, 46, 53]⟩, true) := by
  rw [libCutPrefix.F_eq]
  kernel_rfl
theorem aw_idx : libIndex.F ⟨#[49, 46, 53]⟩ ⟨#[46]⟩ = some 1 := by
  rw [libIndex.F_eq]
  kernel_rfl
theorem aw_cut : strings_Cut.F ⟨#[49, 46, 53]⟩ ⟨#[46]⟩ = some (b1, b5, true) := by
  rw [strings_Cut.F_eq]
  unfold strings_Cut.F0
  rw [stringslite_Cut.F_eq]
  unfold stringslite_Cut.F0
  rw [aw_idx]
  kernel_rfl
theorem aw_d1 : token_digits.F b1 5 = some true := by
  rw [token_digits.F_eq]
  unfold token_digits.F0
  rw [loopF_of (n := 2) (o := .inr (b1, 5)) (by kernel_rfl)]
  kernel_rfl
theorem aw_d5 : token_digits.F b5 6 = some true := by
  rw [token_digits.F_eq]
  unfold token_digits.F0
  rw [loopF_of (n := 2) (o := .inr (b5, 6)) (by kernel_rfl)]
  kernel_rfl
theorem aw_parse : libParseInt.F (b1 ++ b5) 10 64 = some 15 := by
  rw [libParseInt.F_eq]
  kernel_rfl
theorem aw_cat : catOk b1 b5 = true := by rw [catOk_eq]; kernel_rfl
theorem aw_ten : loopF token_Number.p0.step (true, 15, 1, b5, 0) = some (true, 15, 10) := loopF_of (n := 2) (by kernel_rfl)
theorem aw_num : token_Number.F ⟨#[45, 49, 46, 53]⟩ = some (-98304, true) := by
  rw [token_Number.F_eq]
  unfold token_Number.F0
  rw [aw_pre]
  simp only [Option.bind_some]
  rw [aw_cut]
  simp only [Option.bind_some]
  rw [aw_d1]
  simp only [Option.bind_some]
  rw [aw_d5]
  simp only [Option.bind_some, Bool.not_true, cond_false, cond_true]
  rw [aw_cat]
  simp only [cond_true]
  rw [aw_parse]
  simp only [Option.bind_some]
  rw [aw_ten]
  simp only [Option.bind_some]
  rw [token_signed.F_eq]
  kernel_rfl
theorem aw_split : splitF ⟨#[97, 32, 98, 35, 99]⟩ = (0, 0, [(⟨#[97]⟩, (1, 1)), (⟨#[98]⟩, (1, 3))]) := by kernel_rfl
theorem awake_val : armplanlaw6_awake.F () = some true := by
  rw [armplanlaw6_awake.F_eq]
  unfold armplanlaw6_awake.F0
  rw [tok_split, aw_num, aw_split]
  simp only [Option.bind_some]
  rw [sameW_val (by simp)]
  simp (disch := omega) only [dif_dec, dif_ndec, bif_eq, bif_neq, bif_ne, bif_nne, w64, wu64, Int.toNat_natCast, Option.bind_some, cond_true, cond_false, Bool.not_true, Bool.not_false, Sum.elim_inl, Sum.elim_inr]
  kernel_rfl
end Go.Abs
