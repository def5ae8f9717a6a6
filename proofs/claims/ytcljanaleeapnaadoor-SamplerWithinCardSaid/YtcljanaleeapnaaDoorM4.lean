/- A part of the proof that the text with the row names: printed readings of functions, or plain lemmas about them. -/
import Derived.Test.YtcljanaleeapnaaDoorM3
set_option linter.unusedVariables false
set_option linter.unusedSimpArgs false
namespace Go.Abs
open Go

/-! ### Products and quotients of two words -/
theorem shr_nat (a k : Nat) (hk : k ≤ 64) : shrI .u64 (a : Int) (k : Int) = ((a / 2 ^ k : Nat) : Int) := by
  unfold shrI
  rw [show min ((k : Int).toNat) (IntKind.bits .u64) = k by simp [IntKind.bits]; omega]
  rw [show (2 ^ k : Int) = ((2 ^ k : Nat) : Int) by push_cast; rfl]
  exact (Int.ofNat_fdiv _ _).symm
theorem and_mask (a : Nat) (ha : a < 2 ^ 64) : ibits .and .u64 (a : Int) 4294967295 = ((a % 2 ^ 32 : Nat) : Int) := by
  show IntKind.wrap .u64 ((BitVec.ofInt 64 (a : Int) &&& BitVec.ofInt 64 4294967295).toNat : Int) = _
  rw [BitVec.toNat_and]
  have e1 : (BitVec.ofInt 64 (a : Int)).toNat = a := by simp; omega
  have e2 : (BitVec.ofInt 64 4294967295).toNat = 2 ^ 32 - 1 := by decide
  rw [e1, e2, Nat.and_two_pow_sub_one_eq_mod, wu64_nat, Nat.mod_eq_of_lt (by omega)]
theorem mul64_val {a b : Nat} (ha : a < 2 ^ 64) (hb : b < 2 ^ 64) : bits_Mul64.F (a : Int) (b : Int) = some (((a * b / 2 ^ 64 : Nat) : Int), ((a * b % 2 ^ 64 : Nat) : Int)) := by
  rw [bits_Mul64.F_eq]
  unfold bits_Mul64.F0
  rw [show (32 : Int) = ((32 : Nat) : Int) from rfl]
  simp only [shr_nat a 32 (by decide), shr_nat b 32 (by decide), and_mask a ha, and_mask b hb]
  have hx1 : a / 2 ^ 32 ≤ 4294967295 := by omega
  have hy1 : b / 2 ^ 32 ≤ 4294967295 := by omega
  have hx0 : a % 2 ^ 32 ≤ 4294967295 := by omega
  have hy0 : b % 2 ^ 32 ≤ 4294967295 := by omega
  have h11 := Nat.mul_le_mul hx1 hy1
  have h10 := Nat.mul_le_mul hx1 hy0
  have h01 := Nat.mul_le_mul hx0 hy1
  have h00 := Nat.mul_le_mul hx0 hy0
  have hab : a * b = a / 2 ^ 32 * (b / 2 ^ 32) * 18446744073709551616 + (a / 2 ^ 32 * (b % 2 ^ 32) + a % 2 ^ 32 * (b / 2 ^ 32)) * 4294967296 + a % 2 ^ 32 * (b % 2 ^ 32) := by
    have e1 : a = a / 2 ^ 32 * 4294967296 + a % 2 ^ 32 := by omega
    have e2 : b = b / 2 ^ 32 * 4294967296 + b % 2 ^ 32 := by omega
    generalize a / 2 ^ 32 = x1 at *
    generalize a % 2 ^ 32 = x0 at *
    generalize b / 2 ^ 32 = y1 at *
    generalize b % 2 ^ 32 = y0 at *
    subst e1 e2
    grind
  have hlo : IntKind.wrap .u64 ((a : Int) * (b : Int)) = ((a * b % 2 ^ 64 : Nat) : Int) := by rw [← Int.natCast_mul, wu64_nat]
  rw [hlo, hab]
  simp only [← Int.natCast_mul]
  generalize a / 2 ^ 32 * (b / 2 ^ 32) = P11 at *
  generalize a / 2 ^ 32 * (b % 2 ^ 32) = P10 at *
  generalize a % 2 ^ 32 * (b / 2 ^ 32) = P01 at *
  generalize a % 2 ^ 32 * (b % 2 ^ 32) = P00 at *
  rw [wu64_nat P00, wu64_nat P10, wu64_nat P01, wu64_nat P11, Nat.mod_eq_of_lt (a := P00) (by omega), Nat.mod_eq_of_lt (a := P10) (by omega), Nat.mod_eq_of_lt (a := P01) (by omega), Nat.mod_eq_of_lt (a := P11) (by omega)]
  rw [shr_nat P00 32 (by decide), ← Int.natCast_add, wu64_nat, Nat.mod_eq_of_lt (a := P10 + P00 / 2 ^ 32) (by omega), shr_nat (P10 + P00 / 2 ^ 32) 32 (by decide), and_mask _ (by omega), ← Int.natCast_add, ← Int.natCast_add, wu64_nat, wu64_nat,
    Nat.mod_eq_of_lt (a := (P10 + P00 / 2 ^ 32) % 2 ^ 32 + P01) (by omega), shr_nat _ 32 (by decide), Nat.mod_eq_of_lt (a := P11 + (P10 + P00 / 2 ^ 32) / 2 ^ 32) (by omega), ← Int.natCast_add, wu64_nat]
  congr 3
  omega

/-- The table of lengths. -/
def lenTab : ByteArray := ⟨#[0, 1, 2, 2, 3, 3, 3, 3, 4, 4, 4, 4, 4, 4, 4, 4, 5, 5, 5, 5, 5, 5, 5, 5, 5, 5, 5, 5, 5, 5, 5, 5, 6, 6, 6, 6, 6, 6, 6, 6, 6, 6, 6, 6, 6, 6, 6, 6, 6, 6, 6, 6, 6, 6, 6, 6, 6, 6, 6, 6, 6, 6, 6, 6, 7, 7, 7, 7, 7, 7, 7, 7, 7, 7, 7, 7, 7, 7, 7, 7, 7, 7, 7, 7, 7, 7, 7, 7, 7, 7, 7, 7, 7, 7, 7, 7, 7, 7, 7, 7, 7, 7, 7, 7, 7, 7, 7, 7, 7, 7, 7, 7, 7, 7, 7, 7, 7, 7, 7, 7, 7, 7, 7, 7, 7, 7, 7, 7, 8, 8, 8, 8, 8, 8, 8, 8, 8, 8, 8, 8, 8, 8, 8, 8, 8, 8, 8, 8, 8, 8, 8, 8, 8, 8, 8, 8, 8, 8, 8, 8, 8, 8, 8, 8, 8, 8, 8, 8, 8, 8, 8, 8, 8, 8, 8, 8, 8, 8, 8, 8, 8, 8, 8, 8, 8, 8, 8, 8, 8, 8, 8, 8, 8, 8, 8, 8, 8, 8, 8, 8, 8, 8, 8, 8, 8, 8, 8, 8, 8, 8, 8, 8, 8, 8, 8, 8, 8, 8, 8, 8, 8, 8, 8, 8, 8, 8, 8, 8, 8, 8, 8, 8, 8, 8, 8, 8, 8, 8, 8, 8, 8, 8, 8, 8, 8, 8, 8, 8, 8, 8, 8, 8, 8, 8, 8, 8]⟩
theorem lenTab_size : lenTab.size = 256 := by kernel_rfl
def len8 (x : Nat) : Nat := if x = 0 then 0 else Nat.log2 x + 1
theorem lenTab_val : ∀ x : Nat, x < 256 → btI lenTab (x : Int) = ((len8 x : Nat) : Int) := by
  have h : ((List.range 256).all fun x => btI lenTab (x : Int) == ((len8 x : Nat) : Int)) = true := by decide +kernel
  intro x hx
  rw [List.all_eq_true] at h
  exact eq_of_beq (h x (List.mem_range.2 hx))
theorem len8_of {x : Nat} (h0 : 0 < x) : 2 ^ (len8 x - 1) ≤ x ∧ x < 2 ^ len8 x ∧ 1 ≤ len8 x := by
  unfold len8
  rw [if_neg (by omega)]
  refine ⟨?_, Nat.lt_log2_self, by omega⟩
  simpa using Nat.log2_self_le (by omega)
theorem len8_le {x : Nat} (h : x < 256) : len8 x ≤ 8 := by
  rcases Nat.eq_zero_or_pos x with rfl | h0
  · decide
  · obtain ⟨h1, h2, h3⟩ := len8_of h0
    rcases Nat.lt_or_ge 8 (len8 x) with h4 | h4
    · have : 2 ^ 8 ≤ 2 ^ (len8 x - 1) := Nat.pow_le_pow_right (by omega) (by omega)
      omega
    · exact h4
/-- A leaf of Len64: behind a shift by k. -/
theorem len_leaf {y k : Nat} (hk : k ≤ 56) (h : y / 2 ^ k < 256) (h0 : 0 < y / 2 ^ k) :
    ∃ L : Nat, (bif decide (0 ≤ IntKind.wrap .u8 ((y / 2 ^ k : Nat) : Int)) then bif decide (IntKind.wrap .u8 ((y / 2 ^ k : Nat) : Int) < (lenTab.size : Int)) then some (IntKind.wrap .i64 ((k : Int) + IntKind.wrap .i64 (btI lenTab (IntKind.wrap .u8 ((y / 2 ^ k : Nat) : Int))))) else none else none) = some (L : Int) ∧ 1 ≤ L ∧ L ≤ 64 ∧ 2 ^ (L - 1) ≤ y ∧ y < 2 ^ L := by
  have e : IntKind.wrap .u8 ((y / 2 ^ k : Nat) : Int) = ((y / 2 ^ k : Nat) : Int) := wu8 (by omega) (by omega)
  rw [e, dif_dec (by omega), lenTab_size, dif_dec (by omega), lenTab_val _ h]
  clear e
  have h8 := len8_le h
  obtain ⟨h1, h2, h3⟩ := len8_of h0
  rw [w64 (n := ((len8 (y / 2 ^ k) : Nat) : Int)) (by omega) (by omega), w64 (by omega) (by omega)]
  refine ⟨k + len8 (y / 2 ^ k), rfl, by omega, by omega, ?_, ?_⟩
  · rw [show k + len8 (y / 2 ^ k) - 1 = k + (len8 (y / 2 ^ k) - 1) by omega, Nat.pow_add]
    calc 2 ^ k * 2 ^ (len8 (y / 2 ^ k) - 1) ≤ 2 ^ k * (y / 2 ^ k) := Nat.mul_le_mul_left _ h1
      _ ≤ y := Nat.mul_div_le y _
  · rw [Nat.pow_add]
    have h4 : y / 2 ^ k + 1 ≤ 2 ^ len8 (y / 2 ^ k) := h2
    calc y < 2 ^ k * (y / 2 ^ k) + 2 ^ k := Nat.lt_mul_div_succ y (Nat.pow_pos (by omega))
      _ = 2 ^ k * (y / 2 ^ k + 1) := by rw [Nat.mul_succ]
      _ ≤ _ := Nat.mul_le_mul_left _ h4
theorem len64_val {y : Nat} (h0 : 0 < y) (hy : y < 2 ^ 64) : ∃ L : Nat, bits_Len64.F (y : Int) = some (L : Int) ∧ 1 ≤ L ∧ L ≤ 64 ∧ 2 ^ (L - 1) ≤ y ∧ y < 2 ^ L := by
  rw [bits_Len64.F_eq]
  unfold bits_Len64.F0
  rw [show (⟨#[0, 1, 2, 2, 3, 3, 3, 3, 4, 4, 4, 4, 4, 4, 4, 4, 5, 5, 5, 5, 5, 5, 5, 5, 5, 5, 5, 5, 5, 5, 5, 5, 6, 6, 6, 6, 6, 6, 6, 6, 6, 6, 6, 6, 6, 6, 6, 6, 6, 6, 6, 6, 6, 6, 6, 6, 6, 6, 6, 6, 6, 6, 6, 6, 7, 7, 7, 7, 7, 7, 7, 7, 7, 7, 7, 7, 7, 7, 7, 7, 7, 7, 7, 7, 7, 7, 7, 7, 7, 7, 7, 7, 7, 7, 7, 7, 7, 7, 7, 7, 7, 7, 7, 7, 7, 7, 7, 7, 7, 7, 7, 7, 7, 7, 7, 7, 7, 7, 7, 7, 7, 7, 7, 7, 7, 7, 7, 7, 8, 8, 8, 8, 8, 8, 8, 8, 8, 8, 8, 8, 8, 8, 8, 8, 8, 8, 8, 8, 8, 8, 8, 8, 8, 8, 8, 8, 8, 8, 8, 8, 8, 8, 8, 8, 8, 8, 8, 8, 8, 8, 8, 8, 8, 8, 8, 8, 8, 8, 8, 8, 8, 8, 8, 8, 8, 8, 8, 8, 8, 8, 8, 8, 8, 8, 8, 8, 8, 8, 8, 8, 8, 8, 8, 8, 8, 8, 8, 8, 8, 8, 8, 8, 8, 8, 8, 8, 8, 8, 8, 8, 8, 8, 8, 8, 8, 8, 8, 8, 8, 8, 8, 8, 8, 8, 8, 8, 8, 8, 8, 8, 8, 8, 8, 8, 8, 8, 8, 8, 8, 8, 8, 8, 8, 8, 8, 8]⟩ : ByteArray) = lenTab from rfl]
  rw [show (32 : Int) = ((32 : Nat) : Int) from rfl, show (16 : Int) = ((16 : Nat) : Int) from rfl, show (8 : Int) = ((8 : Nat) : Int) from rfl, show (0 : Int) = ((0 : Nat) : Int) from rfl, show (24 : Int) = ((24 : Nat) : Int) from rfl, show (40 : Int) = ((40 : Nat) : Int) from rfl, show (48 : Int) = ((48 : Nat) : Int) from rfl, show (56 : Int) = ((56 : Nat) : Int) from rfl]
  simp only [shr_nat _ 32 (by decide), shr_nat _ 16 (by decide), shr_nat _ 8 (by decide)]
  simp only [Nat.div_div_eq_div_mul]
  have L := fun k hk h h0 => len_leaf (y := y) (k := k) hk h h0
  have e0 := L 0 (by decide)
  simp only [Nat.pow_zero, Nat.div_one] at e0
  by_cases h32 : (y : Int) ≥ 4294967296
  · rw [dif_dec h32]
    by_cases h16 : ((y / 2 ^ 32 : Nat) : Int) ≥ 65536
    · rw [dif_dec h16]
      by_cases h8 : ((y / (2 ^ 32 * 2 ^ 16) : Nat) : Int) ≥ 256
      · rw [dif_dec h8]; exact L 56 (by decide) (by omega) (by omega)
      · rw [dif_ndec h8]; exact L 48 (by decide) (by omega) (by omega)
    · rw [dif_ndec h16]
      by_cases h8 : ((y / 2 ^ 32 : Nat) : Int) ≥ 256
      · rw [dif_dec h8]; exact L 40 (by decide) (by omega) (by omega)
      · rw [dif_ndec h8]; exact L 32 (by decide) (by omega) (by omega)
  · rw [dif_ndec h32]
    by_cases h16 : (y : Int) ≥ 65536
    · rw [dif_dec h16]
      by_cases h8 : ((y / 2 ^ 16 : Nat) : Int) ≥ 256
      · rw [dif_dec h8]; exact L 24 (by decide) (by omega) (by omega)
      · rw [dif_ndec h8]; exact L 16 (by decide) (by omega) (by omega)
    · rw [dif_ndec h16]
      by_cases h8 : (y : Int) ≥ 256
      · rw [dif_dec h8]; exact L 8 (by decide) (by omega) (by omega)
      · rw [dif_ndec h8]; exact e0 (by omega) (by omega)
end Go.Abs
