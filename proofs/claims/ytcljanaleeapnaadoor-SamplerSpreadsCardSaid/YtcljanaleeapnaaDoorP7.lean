/- A part of the proof that the text with the row names: printed readings of functions, or plain lemmas about them. -/
import Derived.Test.YtcljanaleeapnaaDoorL7
import Derived.Test.YtcljanaleeapnaaDoorM6
set_option linter.unusedVariables false
set_option linter.unusedSimpArgs false
namespace Go.Abs
open Go
theorem or_one {d : Int} (h : 0 ≤ d) (h' : d ≤ 18446744073709551615) : 1 ≤ ibits .or .u64 d 1 ∧ ibits .or .u64 d 1 ≤ 18446744073709551615 := by
  show 1 ≤ IntKind.wrap .u64 ((BitVec.ofInt 64 d ||| BitVec.ofInt 64 1).toNat : Int) ∧ IntKind.wrap .u64 ((BitVec.ofInt 64 d ||| BitVec.ofInt 64 1).toNat : Int) ≤ _
  have h1 : (BitVec.ofInt 64 d ||| BitVec.ofInt 64 1).toNat < 2 ^ 64 := BitVec.isLt _
  have h2 : 1 ≤ (BitVec.ofInt 64 d ||| BitVec.ofInt 64 1).toNat := by
    rw [BitVec.toNat_or, show (BitVec.ofInt 64 1).toNat = 1 by decide]
    exact Nat.right_le_or
  rw [wu64 (by omega) (by omega)]
  omega
theorem spreads_true {w num den lo hi : Int} (a b : Int) (hw : 0 ≤ w) (hw' : w ≤ 18446744073709551615) (hn : 0 ≤ num) (hn' : num ≤ 18446744073709551615) (hd : 0 ≤ den) (hd' : den ≤ 18446744073709551615) (hl : -9223372036854775808 ≤ lo) (hl' : lo ≤ 9223372036854775807) :
    armplanlaw23_SamplerSpreads.F w num den lo hi a b = some true := by
  rw [armplanlaw23_SamplerSpreads.F_eq]
  unfold armplanlaw23_SamplerSpreads.F0
  obtain ⟨x, y, hI, hv⟩ := interval_val a b
  obtain ⟨v1, v2, v3⟩ := validB_iff.1 hv
  obtain ⟨o1, o2⟩ := or_one hd hd'
  obtain ⟨w, rfl⟩ : ∃ n : Nat, w = n := ⟨w.toNat, by omega⟩
  obtain ⟨r1, h1⟩ := spread_some (w := w) (lo := lo) (hi := hi) (by omega) hl hl'
  obtain ⟨r2, h2⟩ := spread_some (w := w) (lo := x) (hi := y) (by omega) (by omega) (by omega)
  obtain ⟨e3, r3, h3⟩ := place_eq (num := num) (den := den) (lo := lo) (hi := hi) hn hn' hd hd'
  have t1 := Int.tmod_nonneg (ibits .or .u64 den 1) hn
  have t2 := Int.tmod_lt_of_pos num (show 0 < ibits .or .u64 den 1 by omega)
  obtain ⟨e4, r4, h4⟩ := place_eq (num := num.tmod (ibits .or .u64 den 1)) (den := ibits .or .u64 den 1) (lo := x) (hi := y) t1 (by omega) (by omega) o2
  simp only [hI, awake_true, Option.bind_some, cond_true, rspread_eq (show w < 2 ^ 64 by omega) hl hl', rspread_eq (lo := x) (hi := y) (show w < 2 ^ 64 by omega) (by omega) (by omega), h1, h2, e3, h3, e4, h4, beq_self_eq_true]
  rw [bif_ne (by omega), bif_ne (by omega)]
theorem spreads_good (x : Int × Int × Int × Int × Int × Int × Int × Unit) (g : GoodAll [.lf (.int .u64), .lf (.int .u64), .lf (.int .u64), .lf (.int .i64), .lf (.int .i64), .lf (.int .i64), .lf (.int .i64)] x) : armplanlaw23_SamplerSpreads.F x.1 x.2.1 x.2.2.1 x.2.2.2.1 x.2.2.2.2.1 x.2.2.2.2.2.1 x.2.2.2.2.2.2.1 = some true := by
  obtain ⟨⟨h1, h2⟩, ⟨h3, h4⟩, ⟨h5, h6⟩, ⟨h7, h8⟩, _⟩ := g
  simp only [maxu64, minu64, max64, min64] at h1 h2 h3 h4 h5 h6 h7 h8
  exact spreads_true _ _ h1 h2 h3 h4 h5 h6 h7 h8
end Go.Abs
