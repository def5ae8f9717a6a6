/- A part of the proof that the text with the row names: printed readings of functions, or plain lemmas about them. -/
import Derived.Test.YtgligkmpgefbmaaDoorC6GLTokenSplits
import Derived.Test.YtgligkmpgefbmaaDoorC6M5
import Derived.Test.YtgligkmpgefbmaaDoorAbsD
set_option linter.unusedVariables false
set_option linter.unusedSimpArgs false
namespace Go.Abs
open Go Go.Proofs
theorem splits_law {s : ByteArray} {l : List Int} (hs : s.size ≤ 2 ^ 60) (hl : ∀ x ∈ l, 0 ≤ x) : armplanlaw6_TokenSplits.F s l = some true := by
  rw [armplanlaw6_TokenSplits.F_eq]
  unfold armplanlaw6_TokenSplits.F0
  obtain ⟨t, ht, h⟩ := typical_val hl
  rw [awake_val, h]
  simp (disch := omega) only [dif_dec, dif_ndec, bif_eq, bif_neq, bif_ne, bif_nne, w64, wu64, Int.toNat_natCast, Option.bind_some, cond_true, cond_false, Bool.not_true, Bool.not_false, Sum.elim_inl, Sum.elim_inr, splits_val]
  rw [cat_ok (by omega)]
  rfl
theorem splits_good (x : ArgT [.lf .str, .lf (.slc (.int .u8))]) (g : GoodAll [.lf .str, .lf (.slc (.int .u8))] x) : armplanlaw6_TokenSplits.F x.1 x.2.1 = some true := by
  obtain ⟨g1, ⟨_, g2⟩, _⟩ := g
  simp only [Good, reachBytes] at g1
  refine splits_law (by omega) fun y hy => ?_
  have := (g2 y hy).1
  simp only [IntKind.min] at this
  exact this
end Go.Abs
