/- A part of the proof that the text with the row names: printed readings of functions, or plain lemmas about them. -/
import Derived.Test.YtcljanaleeapnaaDoorM1
set_option linter.unusedVariables false
set_option linter.unusedSimpArgs false
namespace Go.Abs
open Go

/-! ### Words of 64 bits -/
def bvI (X : BitVec 64) : Int := (X.toNat : Int)
theorem bvI_of {x : Int} (h0 : 0 ≤ x) (h1 : x ≤ 18446744073709551615) : ∃ X, x = bvI X := by
  refine ⟨BitVec.ofNat 64 x.toNat, ?_⟩
  unfold bvI
  rw [BitVec.toNat_ofNat, Nat.mod_eq_of_lt (by omega)]
  omega
theorem bvI_inj {X Y : BitVec 64} (h : bvI X = bvI Y) : X = Y := by
  unfold bvI at h
  exact BitVec.eq_of_toNat_eq (by omega)
theorem bv_add (X Y : BitVec 64) : IntKind.wrap .u64 (bvI X + bvI Y) = bvI (X + Y) := by
  unfold bvI
  rw [← Int.natCast_add, wu64_nat, BitVec.toNat_add]
theorem bv_mul (X Y : BitVec 64) : IntKind.wrap .u64 (bvI X * bvI Y) = bvI (X * Y) := by
  unfold bvI
  rw [← Int.natCast_mul, wu64_nat, BitVec.toNat_mul]
theorem bv_of (X : BitVec 64) : BitVec.ofInt 64 (bvI X) = X := by
  unfold bvI
  simp
theorem bv_xor (X Y : BitVec 64) : ibits .xor .u64 (bvI X) (bvI Y) = bvI (X ^^^ Y) := by
  show IntKind.wrap .u64 ((BitVec.ofInt 64 (bvI X) ^^^ BitVec.ofInt 64 (bvI Y)).toNat : Int) = _
  rw [bv_of, bv_of, wu64_nat, Nat.mod_eq_of_lt (BitVec.isLt _)]
  rfl
theorem bv_shr (X : BitVec 64) (k : Nat) (hk : k ≤ 64) : shrI .u64 (bvI X) (k : Int) = bvI (X >>> k) := by
  unfold shrI bvI
  rw [show min ((k : Int).toNat) (IntKind.bits .u64) = k by simp [IntKind.bits]; omega]
  rw [BitVec.toNat_ushiftRight, Nat.shiftRight_eq_div_pow, show (2 ^ k : Int) = ((2 ^ k : Nat) : Int) by push_cast; rfl]
  exact (Int.ofNat_fdiv _ _).symm

theorem xs_inj {k : Nat} (hk : 1 ≤ k) {X Y : BitVec 64} (h : X ^^^ X >>> k = Y ^^^ Y >>> k) : X = Y := by
  have h1 : (X ^^^ Y) = (X ^^^ Y) >>> k := by
    have h2 : (X ^^^ Y) ^^^ ((X ^^^ Y) >>> k) = 0#64 := by
      rw [BitVec.ushiftRight_xor_distrib]
      have : (X ^^^ Y) ^^^ (X >>> k ^^^ Y >>> k) = (X ^^^ X >>> k) ^^^ (Y ^^^ Y >>> k) := by ac_rfl
      rw [this, h, BitVec.xor_self]
    have h3 : ((X ^^^ Y) ^^^ ((X ^^^ Y) >>> k)) ^^^ ((X ^^^ Y) >>> k) = 0#64 ^^^ ((X ^^^ Y) >>> k) := by rw [h2]
    rw [BitVec.xor_assoc, BitVec.xor_self] at h3
    simpa using h3
  have h4 : (X ^^^ Y).toNat = (X ^^^ Y).toNat / 2 ^ k := by
    have := congrArg BitVec.toNat h1
    rwa [BitVec.toNat_ushiftRight, Nat.shiftRight_eq_div_pow] at this
  have h5 : (X ^^^ Y).toNat = 0 := by
    have h6 : 2 ≤ 2 ^ k := by
      calc 2 = 2 ^ 1 := rfl
        _ ≤ 2 ^ k := Nat.pow_le_pow_right (by omega) hk
    have h7 : (X ^^^ Y).toNat / 2 ^ k ≤ (X ^^^ Y).toNat / 2 := Nat.div_le_div_left h6 (by omega)
    omega
  have h6 : X ^^^ Y = 0#64 := BitVec.eq_of_toNat_eq (by simpa using h5)
  have h7 : (X ^^^ Y) ^^^ Y = 0#64 ^^^ Y := by rw [h6]
  rw [BitVec.xor_assoc, BitVec.xor_self] at h7
  simpa using h7
theorem mul_inj {C D X Y : BitVec 64} (hcd : C * D = 1#64) (h : X * C = Y * C) : X = Y := by
  have h1 : X * C * D = Y * C * D := by rw [h]
  rw [BitVec.mul_assoc, BitVec.mul_assoc, hcd] at h1
  simpa using h1
def wordB (S I : BitVec 64) : BitVec 64 :=
  let z := S + (I + 1#64) * 11400714819323198485#64
  let z1 := (z ^^^ z >>> 30) * 13787848793156543929#64
  let z2 := (z1 ^^^ z1 >>> 27) * 10723151780598845931#64
  z2 ^^^ z2 >>> 31
theorem word_val (S I : BitVec 64) : sampler_Word.F (bvI S) (bvI I) = some (bvI (wordB S I)) := by
  rw [sampler_Word.F_eq]
  unfold sampler_Word.F0
  rw [show (11400714819323198485 : Int) = bvI 11400714819323198485#64 from rfl, show (13787848793156543929 : Int) = bvI 13787848793156543929#64 from rfl, show (10723151780598845931 : Int) = bvI 10723151780598845931#64 from rfl, show (1 : Int) = bvI 1#64 from rfl,
    show (30 : Int) = ((30 : Nat) : Int) from rfl, show (27 : Int) = ((27 : Nat) : Int) from rfl, show (31 : Int) = ((31 : Nat) : Int) from rfl]
  simp only [bv_add, bv_mul, bv_xor, bv_shr _ 30 (by decide), bv_shr _ 27 (by decide), bv_shr _ 31 (by decide)]
  rfl
theorem wordB_inj {S I J : BitVec 64} (h : wordB S I = wordB S J) : I = J := by
  unfold wordB at h
  have h1 := mul_inj (D := 3573116690164977347#64) (by decide) (xs_inj (by decide) h)
  have h2 := mul_inj (D := 10871156337175269513#64) (by decide) (xs_inj (by decide) h1)
  have h3 := xs_inj (by decide) h2
  have h4 : (I + 1#64) * 11400714819323198485#64 = (J + 1#64) * 11400714819323198485#64 := by
    have := congrArg (fun x => -S + x) h3
    simp only [← BitVec.add_assoc] at this
    simpa [BitVec.add_comm, BitVec.add_left_neg] using this
  have h5 := mul_inj (D := 17428512612931826493#64) (by decide) h4
  have h6 : I + 1#64 - 1#64 = J + 1#64 - 1#64 := by rw [h5]
  simpa using h6

theorem word_some' {s i : Int} (hs : 0 ≤ s) (hs' : s ≤ 18446744073709551615) (hi : 0 ≤ i) (hi' : i ≤ 18446744073709551615) : ∃ r, sampler_Word.F s i = some r ∧ 0 ≤ r ∧ r ≤ 18446744073709551615 := by
  obtain ⟨S, rfl⟩ := bvI_of hs hs'
  obtain ⟨I, rfl⟩ := bvI_of hi hi'
  refine ⟨_, word_val S I, ?_, ?_⟩ <;> unfold bvI <;> have := (wordB S I).isLt <;> omega
end Go.Abs
