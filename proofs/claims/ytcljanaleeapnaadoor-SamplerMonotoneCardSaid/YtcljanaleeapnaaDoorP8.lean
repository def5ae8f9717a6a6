/- A part of the proof that the text with the row names: printed readings of functions, or plain lemmas about them. -/
import Derived.Test.YtcljanaleeapnaaDoorL8
import Derived.Test.YtcljanaleeapnaaDoorM6
set_option linter.unusedVariables false
set_option linter.unusedSimpArgs false
namespace Go.Abs
open Go
theorem spread_mono {v w : Nat} {lo hi : Int} (h : v ≤ w) : spreadV v lo hi ≤ spreadV w lo hi := by
  unfold spreadV
  have := Nat.div_le_div_right (c := 2 ^ 64) (Nat.mul_le_mul_right (hi - lo + 1).toNat h)
  omega
theorem spread_low (lo hi : Int) : spreadV 0 lo hi = lo := by unfold spreadV; simp
theorem spread_high {lo hi : Int} (h : validB lo hi = true) : spreadV 18446744073709551615 lo hi = hi := by
  obtain ⟨h1, h2, h3⟩ := validB_iff.1 h
  unfold spreadV
  omega
theorem least_valM {M n at_ : Nat} (hn : 0 < n) (hn' : n ≤ M) (ha : at_ < n) :
    ((M - 1) / n * at_ + (at_ * ((M - 1) % n + 1) + n - 1) / n) * n / M = at_ ∧ (M - 1) / n * at_ + (at_ * ((M - 1) % n + 1) + n - 1) / n < M := by
  have h1 := Nat.div_add_mod (M - 1) n
  have h2 := Nat.mod_lt (M - 1) hn
  generalize (M - 1) / n = q at *
  generalize (M - 1) % n = r at *
  have h3 := Nat.div_add_mod (at_ * (r + 1) + n - 1) n
  have h4 := Nat.mod_lt (at_ * (r + 1) + n - 1) hn
  generalize (at_ * (r + 1) + n - 1) / n = c at *
  generalize (at_ * (r + 1) + n - 1) % n = m at *
  have e : (q * at_ + c) * n = at_ * (n * q) + n * c := by grind
  have h9 : M = r + 1 + n * q := by omega
  have e2 : at_ * (r + 1) + at_ * (n * q) = at_ * M := by rw [h9]; grind
  have e3 : (at_ + 1) * M = at_ * M + M := Nat.succ_mul _ _
  have h5 : (q * at_ + c) * n < (at_ + 1) * M := by rw [e]; omega
  have h6 : at_ * M ≤ (q * at_ + c) * n := by rw [e]; omega
  constructor
  · exact Nat.div_eq_of_lt_le h6 h5
  · have h7 : (at_ + 1) * M ≤ n * M := Nat.mul_le_mul_right _ ha
    have h8 : (q * at_ + c) * n < M * n := by rw [Nat.mul_comm M]; omega
    exact Nat.lt_of_mul_lt_mul_right h8
theorem least_val {n at_ : Nat} (hn : 0 < n) (hn' : n ≤ 2 ^ 33) (ha : at_ < n) :
    ((2 ^ 64 - 1) / n * at_ + (at_ * ((2 ^ 64 - 1) % n + 1) + n - 1) / n) * n / 2 ^ 64 = at_ ∧ (2 ^ 64 - 1) / n * at_ + (at_ * ((2 ^ 64 - 1) % n + 1) + n - 1) / n < 2 ^ 64 := least_valM hn (by omega) ha
theorem monotone_true {v w : Int} (a b k : Int) (hv : 0 ≤ v) (hv' : v ≤ 18446744073709551615) (hw : 0 ≤ w) (hw' : w ≤ 18446744073709551615) : armplanlaw23_SamplerMonotone.F v w a b k = some true := by
  rw [armplanlaw23_SamplerMonotone.F_eq]
  unfold armplanlaw23_SamplerMonotone.F0
  obtain ⟨x, y, hI, hvd⟩ := interval_val a b
  obtain ⟨v1, v2, v3⟩ := validB_iff.1 hvd
  obtain ⟨v, rfl⟩ : ∃ n : Nat, v = n := ⟨v.toNat, by omega⟩
  obtain ⟨w, rfl⟩ : ∃ n : Nat, w = n := ⟨w.toNat, by omega⟩
  have k1 := Int.emod_nonneg k (show (1048576 : Int) ≠ 0 by decide)
  have k2 := Int.emod_lt_of_pos k (show (0 : Int) < 1048576 by decide)
  obtain ⟨r, hr⟩ : ∃ r : Nat, k % 1048576 = r := ⟨(k % 1048576).toNat, by omega⟩
  rw [hI, Option.bind_some, round_val (by decide) (by decide)]
  simp only [cnt_eq hvd, Option.bind_some]
  rw [hr, wu64 (n := ((r : Nat) : Int)) (by omega) (by omega)]
  have hn0 : 0 < (y - x + 1).toNat := by omega
  have hn1 : (y - x + 1).toNat ≤ 2 ^ 33 := by omega
  have S : ∀ z : Nat, z < 2 ^ 64 → sampler_Spread.F (z : Int) x y = some (spreadV z x y) := fun z hz => spread_val hz hvd
  have S0 := S 0 (by decide)
  have SM := S 18446744073709551615 (by decide)
  have Sv := S v (by omega)
  have Sw := S w (by omega)
  have hSP : ∀ z, spreadV z x y = x + ((z * (y - x + 1).toNat / 2 ^ 64 : Nat) : Int) := fun z => rfl
  generalize hn : (y - x + 1).toNat = n at *
  have hat : r % n < n := Nat.mod_lt _ hn0
  have hat2 : r % n ≤ r := Nat.mod_le _ _
  obtain ⟨l1, l2⟩ := least_val hn0 hn1 hat
  have e0 : spreadV 0 x y = x := spread_low x y
  have e1 : spreadV 18446744073709551615 x y = y := spread_high hvd
  rw [tmod_nat]
  have hm1 : (2 ^ 64 - 1) % n < n := Nat.mod_lt _ hn0
  have hA : r % n * ((2 ^ 64 - 1) % n + 1) ≤ 2 ^ 20 * 2 ^ 33 := Nat.mul_le_mul (by omega) (by omega)
  have hq : (2 ^ 64 - 1) / n * (r % n) < 2 ^ 64 := Nat.lt_of_le_of_lt (Nat.le_add_right _ _) l2
  have hL : IntKind.wrap .u64 (IntKind.wrap .u64 (IntKind.wrap .u64 ((18446744073709551615 : Int).tdiv (n : Int)) * ((r % n : Nat) : Int)) + IntKind.wrap .u64 ((IntKind.wrap .u64 (IntKind.wrap .u64 (IntKind.wrap .u64 (((r % n : Nat) : Int) * IntKind.wrap .u64 ((18446744073709551615 : Int).tmod (n : Int) + 1)) + (n : Int)) - 1)).tdiv (n : Int))) = (((2 ^ 64 - 1) / n * (r % n) + (r % n * ((2 ^ 64 - 1) % n + 1) + n - 1) / n : Nat) : Int) := by
    rw [show (18446744073709551615 : Int) = ((2 ^ 64 - 1 : Nat) : Int) by decide, tdiv_nat, tmod_nat]
    generalize (2 ^ 64 - 1) / n = q at *
    generalize (2 ^ 64 - 1) % n = m at *
    generalize r % n = t at *
    have hqs : q < 2 ^ 64 ∨ t = 0 := by
      rcases Nat.eq_zero_or_pos t with h | h
      · exact .inr h
      · refine .inl (Nat.lt_of_le_of_lt (Nat.le_mul_of_pos_right q h) hq)
    have e1 : IntKind.wrap .u64 (IntKind.wrap .u64 ((q : Nat) : Int) * ((t : Nat) : Int)) = ((q * t : Nat) : Int) := by
      rcases hqs with h | h
      · rw [wu64 (n := ((q : Nat) : Int)) (by omega) (by omega), ← Int.natCast_mul, wu64_nat, Nat.mod_eq_of_lt hq]
      · subst h; simp [IntKind.wrap_u64]
    have e2 : IntKind.wrap .u64 ((m : Int) + 1) = ((m + 1 : Nat) : Int) := by rw [wu64 (by omega) (by omega)]; push_cast; rfl
    rw [e1, e2, ← Int.natCast_mul, wu64_nat (t * (m + 1)), Nat.mod_eq_of_lt (a := t * (m + 1)) (by omega), ← Int.natCast_add, wu64_nat, Nat.mod_eq_of_lt (a := t * (m + 1) + n) (by omega)]
    rw [show ((t * (m + 1) + n : Nat) : Int) - 1 = ((t * (m + 1) + n - 1 : Nat) : Int) by omega, wu64_nat, Nat.mod_eq_of_lt (a := t * (m + 1) + n - 1) (by omega), tdiv_nat, wu64_nat, Nat.mod_eq_of_lt (a := (t * (m + 1) + n - 1) / n) (by omega), ← Int.natCast_add, wu64_nat, Nat.mod_eq_of_lt l2]
  have SL := S _ l2
  rw [hSP, l1] at SL
  rw [hL]
  have hfin : IntKind.wrap .i64 (x + IntKind.wrap .i64 ((r % n : Nat) : Int)) = x + ((r % n : Nat) : Int) := by rw [w64 (n := ((r % n : Nat) : Int)) (by omega) (by omega), w64 (by omega) (by omega)]
  rw [hfin]
  rw [show ((0 : Nat) : Int) = (0 : Int) from rfl] at S0
  rw [show ((18446744073709551615 : Nat) : Int) = (18446744073709551615 : Int) from rfl] at SM
  have hzero : ¬ ((r % n : Nat) : Int) > 0 → r % n = 0 := fun h => by omega
  have hnn : (bne (n : Int) 0) = true := bne_t (by omega)
  by_cases hvw : (v : Int) > w
  · have hmono := spread_mono (lo := x) (hi := y) (show w ≤ v by omega)
    rw [dif_dec hvw]
    by_cases hp : ((r % n : Nat) : Int) > 0
    · simp only [hnn, cond_true, dif_dec hp, awake_true, Option.bind_some, Sv, Sw, S0, SM, SL, dif_dec hmono, e0, e1, beq_self_eq_true]
    · have hz := hzero hp
      simp only [hnn, cond_true, dif_ndec hp, awake_true, Option.bind_some, Sv, Sw, S0, SM, SL, dif_dec hmono, e0, e1, beq_self_eq_true, hz]
      simp
  · have hmono := spread_mono (lo := x) (hi := y) (show v ≤ w by omega)
    rw [dif_ndec hvw]
    by_cases hp : ((r % n : Nat) : Int) > 0
    · simp only [hnn, cond_true, dif_dec hp, awake_true, Option.bind_some, Sv, Sw, S0, SM, SL, dif_dec hmono, e0, e1, beq_self_eq_true]
    · have hz := hzero hp
      simp only [hnn, cond_true, dif_ndec hp, awake_true, Option.bind_some, Sv, Sw, S0, SM, SL, dif_dec hmono, e0, e1, beq_self_eq_true, hz]
      simp
theorem monotone_good (x : Int × Int × Int × Int × Int × Unit) (g : GoodAll [.lf (.int .u64), .lf (.int .u64), .lf (.int .i64), .lf (.int .i64), .lf (.int .i64)] x) : armplanlaw23_SamplerMonotone.F x.1 x.2.1 x.2.2.1 x.2.2.2.1 x.2.2.2.2.1 = some true := by
  obtain ⟨⟨h1, h2⟩, ⟨h3, h4⟩, _⟩ := g
  simp only [maxu64, minu64] at h1 h2 h3 h4
  exact monotone_true _ _ _ h1 h2 h3 h4
end Go.Abs
