/- A part of the proof that the text with the row names: printed readings of functions, or plain lemmas about them. -/
import Derived.Test.YtcljanaleeapnaaDoorM5
set_option linter.unusedVariables false
set_option linter.unusedSimpArgs false
namespace Go.Abs
open Go

/-! ### Intervals, spreads, places -/
def validB (lo hi : Int) : Bool := decide (-2147483648 ≤ lo ∧ lo ≤ hi ∧ hi ≤ 2147483648)
theorem validB_iff {lo hi : Int} : validB lo hi = true ↔ -2147483648 ≤ lo ∧ lo ≤ hi ∧ hi ≤ 2147483648 := by unfold validB; simp
theorem ivalid_val (lo hi : Int) : interval_Valid.F lo hi = some (validB lo hi) := by
  rw [interval_Valid.F_eq]
  unfold interval_Valid.F0 validB
  by_cases h1 : lo ≥ -2147483648
  · rw [dif_dec h1]
    by_cases h2 : lo ≤ hi
    · rw [dif_dec h2]; congr 1; simp [h2]; intro; omega
    · rw [dif_ndec h2]; congr 1; simp [h2]
  · rw [dif_ndec h1]; congr 1; simp; omega
theorem rvalid_val (lo hi : Int) : armplanref1_Valid.F lo hi = some (validB lo hi) := by
  rw [← ivalid_val, armplanref1_Valid.F_eq, interval_Valid.F_eq]
  rfl
theorem bounded_val (lo hi : Int) : armplanref23_bounded.F lo hi = some (validB lo hi) := by
  rw [armplanref23_bounded.F_eq]
  unfold armplanref23_bounded.F0
  rw [rvalid_val]
  rfl
theorem count_val {lo hi : Int} (h : validB lo hi = true) : sampler_count.F lo hi = some (((hi - lo + 1).toNat : Nat) : Int) := by
  obtain ⟨h1, h2, h3⟩ := validB_iff.1 h
  rw [sampler_count.F_eq]
  unfold sampler_count.F0
  rw [dif_ndec (by omega), dif_ndec (by omega), dif_ndec (by omega), w64 (by omega) (by omega), wu64 (n := hi - lo) (by omega) (by omega), wu64 (by omega) (by omega)]
  congr 1; omega
theorem count_none {lo hi : Int} (h : validB lo hi = false) : sampler_count.F lo hi = some ((0 : Nat) : Int) := by
  have h' : ¬ (-2147483648 ≤ lo ∧ lo ≤ hi ∧ hi ≤ 2147483648) := fun hh => by rw [validB_iff.2 hh] at h; cases h
  rw [sampler_count.F_eq]
  unfold sampler_count.F0
  by_cases h1 : lo < -2147483648
  · rw [dif_dec h1]; rfl
  · rw [dif_ndec h1]
    by_cases h2 : hi > 2147483648
    · rw [dif_dec h2]; rfl
    · rw [dif_ndec h2, dif_dec (by omega)]; rfl
theorem cnt_eq {lo hi : Int} (h : validB lo hi = true) : IntKind.wrap .u64 (IntKind.wrap .u64 (IntKind.wrap .i64 (hi - lo)) + 1) = (((hi - lo + 1).toNat : Nat) : Int) := by
  obtain ⟨h1, h2, h3⟩ := validB_iff.1 h
  rw [w64 (by omega) (by omega), wu64 (n := hi - lo) (by omega) (by omega), wu64 (by omega) (by omega)]
  omega
/-- The number that a word is mapped to. -/
def spreadV (w : Nat) (lo hi : Int) : Int := lo + ((w * (hi - lo + 1).toNat / 2 ^ 64 : Nat) : Int)
theorem spread_lt {w n : Nat} (hw : w < 2 ^ 64) (hn : 0 < n) : w * n / 2 ^ 64 < n := by
  rw [Nat.div_lt_iff_lt_mul (by decide), Nat.mul_comm n]
  exact Nat.mul_lt_mul_of_pos_right hw hn
theorem spreadV_range {w : Nat} {lo hi : Int} (hw : w < 2 ^ 64) (h : validB lo hi = true) : lo ≤ spreadV w lo hi ∧ spreadV w lo hi ≤ hi := by
  obtain ⟨h1, h2, h3⟩ := validB_iff.1 h
  have := spread_lt hw (show 0 < (hi - lo + 1).toNat by omega)
  unfold spreadV
  omega
theorem spread_val {w : Nat} {lo hi : Int} (hw : w < 2 ^ 64) (h : validB lo hi = true) : sampler_Spread.F (w : Int) lo hi = some (spreadV w lo hi) := by
  obtain ⟨h1, h2, h3⟩ := validB_iff.1 h
  have hlt := spread_lt hw (show 0 < (hi - lo + 1).toNat by omega)
  rw [sampler_Spread.F_eq]
  unfold sampler_Spread.F0
  rw [count_val h, Option.bind_some, mul64_val hw (by omega), Option.bind_some]
  simp only []
  rw [w64 (n := ((w * (hi - lo + 1).toNat / 2 ^ 64 : Nat) : Int)) (by omega) (by omega), w64 (by omega) (by omega)]
  rfl
theorem spread_none {w : Nat} {lo hi : Int} (hw : w < 2 ^ 64) (h : validB lo hi = false) (hl : -9223372036854775808 ≤ lo) (hl' : lo ≤ 9223372036854775807) : sampler_Spread.F (w : Int) lo hi = some lo := by
  rw [sampler_Spread.F_eq]
  unfold sampler_Spread.F0
  rw [count_none h, Option.bind_some, mul64_val hw (by omega), Option.bind_some]
  simp only [Nat.mul_zero, Nat.zero_div]
  rw [w64 (n := ((0 : Nat) : Int)) (by omega) (by omega), w64 (by omega) (by omega)]
  simp
theorem rspread_eq {w : Nat} {lo hi : Int} (hw : w < 2 ^ 64) (hl : -9223372036854775808 ≤ lo) (hl' : lo ≤ 9223372036854775807) : armplanref23_Spread.F (w : Int) lo hi = sampler_Spread.F (w : Int) lo hi := by
  rw [armplanref23_Spread.F_eq]
  unfold armplanref23_Spread.F0
  rw [bounded_val, Option.bind_some]
  cases h : validB lo hi with
  | false => rw [spread_none hw h hl hl']; rfl
  | true =>
    obtain ⟨h1, h2, h3⟩ := validB_iff.1 h
    rw [sampler_Spread.F_eq]
    unfold sampler_Spread.F0
    rw [count_val h, cnt_eq h]
    rfl
theorem spread_some {w : Nat} {lo hi : Int} (hw : w < 2 ^ 64) (hl : -9223372036854775808 ≤ lo) (hl' : lo ≤ 9223372036854775807) : ∃ r, sampler_Spread.F (w : Int) lo hi = some r := by
  cases h : validB lo hi with
  | false => exact ⟨_, spread_none hw h hl hl'⟩
  | true => exact ⟨_, spread_val hw h⟩
theorem place_val {num den : Nat} {lo hi : Int} (h : validB lo hi = true) (hd : den < 2 ^ 64) (hnd : num < den) (hs : num * (hi - lo + 1).toNat < 2 ^ 64) : sampler_Place.F (num : Int) (den : Int) lo hi = some (lo + ((num * (hi - lo + 1).toNat / den : Nat) : Int)) ∧ num * (hi - lo + 1).toNat / den < (hi - lo + 1).toNat := by
  obtain ⟨h1, h2, h3⟩ := validB_iff.1 h
  have hlt : num * (hi - lo + 1).toNat / den < (hi - lo + 1).toNat := by
    rw [Nat.div_lt_iff_lt_mul (by omega), Nat.mul_comm]
    exact Nat.mul_lt_mul_of_pos_left hnd (by omega)
  refine ⟨?_, hlt⟩
  rw [sampler_Place.F_eq]
  unfold sampler_Place.F0
  rw [count_val h, Option.bind_some, bif_neq (by omega), dif_ndec (by omega), mul64_val (by omega) (by omega), Option.bind_some]
  simp only []
  rw [Nat.div_eq_of_lt hs, Nat.mod_eq_of_lt hs]
  have := div64_zero hs (show 0 < den by omega)
  rw [show ((0 : Nat) : Int) = 0 from rfl, this, Option.bind_some]
  simp only []
  generalize num * (hi - lo + 1).toNat / den = q at *
  rw [w64 (n := ((q : Nat) : Int)) (by omega) (by omega), w64 (by omega) (by omega)]
theorem place_eq {num den : Int} {lo hi : Int} (hn : 0 ≤ num) (hn' : num ≤ 18446744073709551615) (hd : 0 ≤ den) (hd' : den ≤ 18446744073709551615) : armplanref23_Place.F num den lo hi = sampler_Place.F num den lo hi ∧ ∃ r, sampler_Place.F num den lo hi = some r := by
  rw [armplanref23_Place.F_eq, sampler_Place.F_eq]
  unfold armplanref23_Place.F0 sampler_Place.F0
  rw [bounded_val, Option.bind_some]
  cases h : validB lo hi with
  | false => rw [count_none h]; exact ⟨rfl, _, rfl⟩
  | true =>
    obtain ⟨h1, h2, h3⟩ := validB_iff.1 h
    rw [count_val h, Option.bind_some, bif_neq (by omega), cnt_eq h]
    by_cases hge : num ≥ den
    · rw [dif_dec hge]; exact ⟨rfl, _, rfl⟩
    · rw [dif_ndec hge]
      refine ⟨rfl, ?_⟩
      obtain ⟨x, rfl⟩ : ∃ x : Nat, num = x := ⟨num.toNat, by omega⟩
      rw [mul64_val (by omega) (by omega), Option.bind_some]
      simp only []
      have hx : x * (hi - lo + 1).toNat / 2 ^ 64 ≤ x := by
        rw [Nat.div_le_iff_le_mul_add_pred (by decide)]
        have : x * (hi - lo + 1).toNat ≤ x * 2 ^ 64 := Nat.mul_le_mul_left _ (by omega)
        omega
      obtain ⟨r, hr⟩ := div64_some (h := ((x * (hi - lo + 1).toNat / 2 ^ 64 : Nat) : Int)) (l := ((x * (hi - lo + 1).toNat % 2 ^ 64 : Nat) : Int)) (d := den) (by omega) (by omega) hd'
      rw [hr]
      exact ⟨_, rfl⟩
theorem clamp_val (x : Int) : ∃ c, armplanref1_Clamp.F x = some c ∧ -2147483648 ≤ c ∧ c ≤ 2147483648 := by
  rw [armplanref1_Clamp.F_eq]
  unfold armplanref1_Clamp.F0
  refine ⟨_, rfl, ?_⟩
  by_cases h : (2147483648 : Int) < x
  · rw [dif_dec h]; decide
  · rw [dif_ndec h]
    by_cases h2 : x > -2147483648
    · rw [dif_dec h2]; omega
    · rw [dif_ndec h2]; decide
theorem shl1 : ∀ e : Nat, e < 31 → 4 ≤ e → 16 ≤ shlI .i64 1 (e : Int) ∧ shlI .i64 1 (e : Int) ≤ 1073741824 := by decide +kernel
theorem interval_val (a b : Int) : ∃ lo hi, armplanmake_Interval.F a b = some (lo, hi) ∧ validB lo hi = true := by
  rw [armplanmake_Interval.F_eq]
  unfold armplanmake_Interval.F0
  rw [round_val (by decide) (by decide), Option.bind_some]
  have h1 := Int.emod_nonneg (shrI .i64 a 3) (show (27 : Int) ≠ 0 by decide)
  have h2 := Int.emod_lt_of_pos (shrI .i64 a 3) (show (0 : Int) < 27 by decide)
  obtain ⟨e, he⟩ : ∃ e : Nat, shrI .i64 a 3 % 27 = e := ⟨(shrI .i64 a 3 % 27).toNat, by omega⟩
  rw [he] at h1 h2 ⊢
  have e4 : IntKind.wrap .u64 (IntKind.wrap .i64 (4 + (e : Int))) = ((4 + e : Nat) : Int) := by rw [w64 (by omega) (by omega), wu64 (by omega) (by omega)]; push_cast; rfl
  obtain ⟨k1, k2⟩ := shl1 (4 + e) (by omega) (by omega)
  rw [e4, dif_dec (by omega)]
  generalize shlI .i64 1 ((4 + e : Nat) : Int) = K at k1 k2 ⊢
  have e2 : IntKind.wrap .i64 (IntKind.wrap .i64 (2 * K) + 1) = 2 * K + 1 := by rw [w64 (n := 2 * K) (by omega) (by omega), w64 (by omega) (by omega)]
  have e8 : IntKind.wrap .i64 (1 + IntKind.wrap .i64 (K.tdiv 8)) = 1 + K / 8 := by
    rw [Int.tdiv_eq_ediv_of_nonneg (by omega), w64 (n := K / 8) (by omega) (by omega), w64 (by omega) (by omega)]
  rw [e2, e8, round_val (k := 2 * K + 1) (by omega) (by omega), Option.bind_some, round_val (k := 2 * K + 1) (by omega) (by omega), Option.bind_some]
  have fin : ∀ x y : Int, ∃ lo hi, ((armplanref1_Clamp.F x).bind fun r5 => (armplanref1_Clamp.F y).bind fun r6 => (armplanref1_Clamp.F x).bind fun r7 => (armplanref1_Clamp.F y).bind fun r8 => some ((bif decide (r6 < r5) then r6 else r5), (bif decide (r8 > r7) then r8 else r7))) = some (lo, hi) ∧ validB lo hi = true := by
    intro x y
    obtain ⟨c, hc, c1, c2⟩ := clamp_val x
    obtain ⟨d, hd, d1, d2⟩ := clamp_val y
    simp only [hc, hd, Option.bind_some]
    refine ⟨_, _, rfl, ?_⟩
    rw [validB_iff]
    by_cases h : d < c
    · rw [dif_dec h, dif_ndec (by omega)]; omega
    · rw [dif_ndec h]
      by_cases h' : d > c
      · rw [dif_dec h']; omega
      · rw [dif_ndec h']; omega
  by_cases hb : ibits .and .i64 b 1 = 0
  · rw [bif_eq hb, round_val (by omega) (by omega), Option.bind_some]
    exact fin _ _
  · rw [bif_neq hb]
    exact fin _ _

/-! ### Boxes out of numbers -/
theorem next_val {k i : Int} {l : List Int} (hk : 0 < k) (hk' : k ≤ 4611686018427387904) (hl : l.length ≤ 2 ^ 60) (hi : 0 ≤ i) (hi' : i ≤ 2 ^ 62) :
    ∃ v i', armplanmake_Source_Next.F k l i = some (v, l, i') ∧ 0 ≤ v ∧ v < k ∧ 0 ≤ i' ∧ i' ≤ 2 ^ 62 := by
  rw [armplanmake_Source_Next.F_eq]
  unfold armplanmake_Source_Next.F0
  by_cases h : i ≥ (l.length : Int)
  · rw [dif_dec h]; exact ⟨0, i, rfl, by omega, by omega, hi, hi'⟩
  · rw [dif_ndec h]
    have e : IntKind.wrap .i64 (IntKind.wrap .i64 (i + 1) - 1) = i := by rw [w64 (n := i + 1) (by omega) (by omega), w64 (by omega) (by omega)]; omega
    rw [e, dif_dec (by omega), dif_dec (by omega), round_val hk hk', Option.bind_some, w64 (by omega) (by omega)]
    exact ⟨_, _, rfl, Int.emod_nonneg _ (by omega), Int.emod_lt_of_pos _ hk, by omega, by omega⟩
theorem signed_val {k i : Int} {l : List Int} (hk : 0 ≤ k) (hk' : k ≤ 2 ^ 40) (hl : l.length ≤ 2 ^ 60) (hi : 0 ≤ i) (hi' : i ≤ 2 ^ 62) :
    ∃ v i', armplanmake_Source_Signed.F k l i = some (v, l, i') ∧ -k ≤ v ∧ v ≤ k ∧ 0 ≤ i' ∧ i' ≤ 2 ^ 62 := by
  rw [armplanmake_Source_Signed.F_eq]
  unfold armplanmake_Source_Signed.F0
  have e : IntKind.wrap .i64 (IntKind.wrap .i64 (2 * k) + 1) = 2 * k + 1 := by rw [w64 (n := 2 * k) (by omega) (by omega), w64 (by omega) (by omega)]
  rw [e]
  obtain ⟨v, i', h, h1, h2, h3, h4⟩ := next_val (k := 2 * k + 1) (l := l) (by omega) (by omega) hl hi hi'
  rw [h, Option.bind_some]
  simp only []
  rw [w64 (by omega) (by omega)]
  exact ⟨_, _, rfl, by omega, by omega, h3, h4⟩
/-- A box of one to three moderate intervals. -/
def Moderate (b : List (Int × Int)) : Prop := 1 ≤ b.length ∧ b.length ≤ 3 ∧ ∀ x ∈ b, -40 ≤ x.1 ∧ x.1 ≤ x.2 ∧ x.2 ≤ x.1 + 59
theorem root_val {l : List Int} (hl : l.length ≤ 2 ^ 60) : ∃ b, armplanmake_Root.F l = some b ∧ Moderate b ∧ ∀ x ∈ b, x.1 ≤ 40 := by
  rw [armplanmake_Root.F_eq]
  unfold armplanmake_Root.F0
  rw [armplanmake_From.F_eq]
  unfold armplanmake_From.F0
  rw [Option.bind_some, armplanmake_root.F_eq]
  unfold armplanmake_root.F0
  simp only []
  obtain ⟨v, i', h, h1, h2, h3, h4⟩ := next_val (k := 3) (l := l) (i := 0) (by omega) (by omega) hl (by omega) (by omega)
  rw [h, Option.bind_some]
  simp only []
  rw [w64 (by omega) (by omega)]
  have hloop := loop_rule (step := armplanmake_root.p0.step) (fun s => s.2.1 = l ∧ 0 ≤ s.2.2.1 ∧ s.2.2.1 ≤ 2 ^ 62 ∧ 0 ≤ s.1 ∧ s.1 + (s.2.2.2.length : Int) = 1 + v ∧ ∀ x ∈ s.2.2.2, -40 ≤ x.1 ∧ x.1 ≤ x.2 ∧ x.2 ≤ x.1 + 59 ∧ x.1 ≤ 40)
    (fun o => (o.2.2.length : Int) = 1 + v ∧ ∀ x ∈ o.2.2, -40 ≤ x.1 ∧ x.1 ≤ x.2 ∧ x.2 ≤ x.1 + 59 ∧ x.1 ≤ 40) (fun s => s.1.toNat) (by
    rintro ⟨n, l', i, out⟩ ⟨rfl, g1, g2, g3, g4, g5⟩
    simp only [armplanmake_root.p0.step, armplanmake_root.p0.round] at *
    by_cases hn : n > 0
    · rw [dif_dec hn]
      obtain ⟨a, j, ea, a1, a2, j1, j2⟩ := signed_val (k := 40) (l := l') (by omega) (by omega) hl g1 g2
      obtain ⟨b, q, eb, b1, b2, q1, q2⟩ := next_val (k := 60) (l := l') (i := j) (by omega) (by omega) hl j1 j2
      rw [ea, Option.bind_some]
      simp only []
      rw [eb, Option.bind_some]
      simp only []
      rw [dif_dec (by simp only [List.length_cons, List.length_nil]; omega), w64 (by omega) (by omega), w64 (by omega) (by omega)]
      refine .inl ⟨_, rfl, ⟨rfl, q1, q2, ?_, ?_, ?_⟩, ?_⟩
      · simp only []; omega
      · simp only [List.length_append, List.length_cons, List.length_nil]; omega
      · intro x hx
        simp only [List.mem_append, List.mem_cons, List.not_mem_nil, or_false] at hx
        rcases hx with hx | rfl
        · exact g5 x hx
        · simp only []; omega
      · simp only []; omega
    · rw [dif_ndec hn]
      exact .inr ⟨_, rfl, by simp only []; omega, g5⟩) (1 + v, l, i', []) ⟨rfl, h3, h4, by simp only []; omega, by simp, fun x hx => by cases hx⟩
  obtain ⟨⟨o1, o2, o3⟩, ho, p1, p2⟩ := hloop
  rw [ho]
  refine ⟨o3, rfl, ⟨?_, ?_, fun x hx => ?_⟩, fun x hx => (p2 x hx).2.2.2⟩
  · simp only [] at p1; omega
  · simp only [] at p1; omega
  · have := p2 x hx; omega
end Go.Abs
