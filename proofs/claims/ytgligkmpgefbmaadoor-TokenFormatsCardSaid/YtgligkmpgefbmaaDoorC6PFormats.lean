/- A part of the proof that the text with the row names: printed readings of functions, or plain lemmas about them. -/
import Derived.Test.YtgligkmpgefbmaaDoorC6GLTokenFormats
import Derived.Test.YtgligkmpgefbmaaDoorC6M10
import Derived.Test.YtgligkmpgefbmaaDoorAbsD
set_option linter.unusedVariables false
set_option linter.unusedSimpArgs false
namespace Go.Abs
open Go Go.Proofs
theorem parts_none {w : List UInt8} (hw : w.all dig = true) : wholeL w = w ∧ restL w = [] ∧ pointL w = false := by
  have hn : ∀ c ∈ w, nodot c = true := by
    intro c hc
    rw [List.all_eq_true] at hw
    have h := dig_iff.1 (hw c hc)
    refine nodot_iff.2 fun e => ?_
    subst e
    exact absurd h.1 (by decide)
  unfold wholeL restL pointL
  have h1 : w.takeWhile nodot = w := by
    have := List.takeWhile_append_of_pos (l₂ := []) hn
    rw [List.append_nil, List.takeWhile_nil, List.append_nil] at this
    exact this
  have h2 : w.dropWhile nodot = [] := by
    have := List.dropWhile_append_of_pos (l₂ := []) hn
    rw [List.append_nil, List.dropWhile_nil] at this
    exact this
  rw [h1, h2]
  exact ⟨rfl, rfl, rfl⟩
/-- The sign ahead. -/
def sgn (b : Bool) : List UInt8 := bif b then [45] else []
theorem strip_sgn {b : Bool} {w r : List UInt8} (hw : w.all dig = true) (h1 : 1 ≤ w.length) : stripL (sgn b ++ (w ++ r)) = w ++ r ∧ negL (sgn b ++ (w ++ r)) = b := by
  cases b with
  | true => exact ⟨rfl, rfl⟩
  | false =>
    have := strip_dig (r := r) hw h1
    exact this
theorem numV_sgn {b : Bool} {w p : List UInt8} (hw : w.all dig = true) (h1 : 1 ≤ w.length) (h5 : w.length ≤ 5) (hp : p.all dig = true) (hp1 : 1 ≤ p.length) (hp6 : p.length ≤ 6) (hx : numX w p ≤ 2147483648) :
    numV (sgn b ++ (w ++ 46 :: p)) = (bif b then -(numX w p : Int) else numX w p, true) := by
  obtain ⟨s1, s2⟩ := strip_sgn (b := b) (r := 46 :: p) hw h1
  obtain ⟨g1, g2, g3⟩ := parts_of (p := p) hw
  unfold numV
  rw [s1, s2, g1, g2, if_pos ⟨⟨by rw [g1]; exact hw, by rw [g1]; exact h1, by rw [g1]; exact h5, fun _ => by rw [g2]; exact ⟨hp, hp1, hp6⟩⟩, hx⟩]
theorem numV_sgn0 {b : Bool} {w : List UInt8} (hw : w.all dig = true) (h1 : 1 ≤ w.length) (h5 : w.length ≤ 5) (hx : numX w [] ≤ 2147483648) :
    numV (sgn b ++ w) = (bif b then -(numX w [] : Int) else numX w [], true) := by
  obtain ⟨s1, s2⟩ := strip_sgn (b := b) (r := []) hw h1
  rw [List.append_nil] at s1 s2
  obtain ⟨g1, g2, g3⟩ := parts_none hw
  unfold numV
  rw [s1, s2, g1, g2, if_pos ⟨⟨by rw [g1]; exact hw, by rw [g1]; exact h1, by rw [g1]; exact h5, fun h => by rw [g3] at h; cases h⟩, hx⟩]
/-- The digits behind the point denote the part. -/
theorem part_back {f vp k : Nat} (hf : f < 65536) (hk : k ≤ 5) (hv : vp * 10 ^ (5 - k) = (2 * f * 100000 + 65536) / 131072) : (2 * vp * 65536 + 10 ^ k) / (2 * 10 ^ k) = f := by
  have hT : 10 ^ k * 10 ^ (5 - k) = 100000 := by rw [← Nat.pow_add, show k + (5 - k) = 5 by omega]
  have hS : 0 < 10 ^ (5 - k) := Nat.pow_pos (by decide)
  rw [← Nat.mul_div_mul_right _ _ hS, Nat.add_mul, hT, Nat.mul_assoc 2 (10 ^ k), hT]
  have e : 2 * vp * 65536 * 10 ^ (5 - k) = 131072 * (vp * 10 ^ (5 - k)) := by
    rw [Nat.mul_right_comm 2 vp 65536, Nat.mul_assoc]
  rw [e, hv]
  omega
theorem fmt_num {b : Bool} {n : Nat} (hn : n ≤ 2147483648) : numV (fmtL (sgn b) n) = (bif b then -(n : Int) else n, true) := by
  have hd := decD_ok (n / 65536 + 1) (n / 65536) (Nat.lt_succ_self _)
  have hw := hd.len (m := 5) (by decide) (by omega)
  unfold fmtL
  by_cases h0 : n % 65536 = 0
  · rw [if_pos h0]
    have hx : numX (Lib.decDigits (n / 65536)) [] = n := by
      rw [numX_split, hd.v, valA_nil, List.length_nil, Nat.pow_zero]
      omega
    rw [numV_sgn0 hd.a hd.lo hw (by rw [hx]; exact hn), hx]
  · rw [if_neg h0, List.append_assoc]
    have hf : n % 65536 < 65536 := Nat.mod_lt _ (by decide)
    have hy := fr_bound hf
    have hp := pad_ok hy
    have hpl : (Lib.repeatL [48] (5 - (Lib.decDigits ((2 * (n % 65536) * 100000 + 65536) / 131072)).length) ++ Lib.decDigits ((2 * (n % 65536) * 100000 + 65536) / 131072)).length = 5 := Nat.le_antisymm (hp.len (by decide) hy) hp.lo
    generalize Lib.repeatL [48] (5 - (Lib.decDigits ((2 * (n % 65536) * 100000 + 65536) / 131072)).length) ++ Lib.decDigits ((2 * (n % 65536) * 100000 + 65536) / 131072) = t at *
    obtain ⟨z, hz1, hz2⟩ := trim_parts t
    generalize Lib.trimRightB t 48 = p at *
    have hlen := congrArg List.length hz1
    rw [List.length_append, hpl] at hlen
    have hpa : p.all dig = true := by
      have := hp.a
      rw [hz1, List.all_append, Bool.and_eq_true] at this
      exact this.1
    have hval : valA 0 p * 10 ^ (5 - p.length) = (2 * (n % 65536) * 100000 + 65536) / 131072 := by
      have := hp.v
      rw [hz1, valA_append, valA_eq z, val_zeros hz2, Nat.add_zero] at this
      rw [← this, show 5 - p.length = z.length by omega]
    have hp1 : 1 ≤ p.length := by
      cases p with
      | nil =>
        rw [valA_nil, Nat.zero_mul] at hval
        omega
      | cons c r => rw [List.length_cons]; omega
    have hx : numX (Lib.decDigits (n / 65536)) p = n := by
      rw [numX_split, hd.v, part_back hf (by omega) hval]
      omega
    rw [numV_sgn hd.a hd.lo hw hpa hp1 (by omega) (by rw [hx]; exact hn), hx]
theorem fmt_len {b : Bool} {n : Nat} (hn : n ≤ 2147483648) : (fmtL (sgn b) n).length ≤ 20 := by
  have hd := decD_ok (n / 65536 + 1) (n / 65536) (Nat.lt_succ_self _)
  have hw := hd.len (m := 5) (by decide) (by omega)
  have hs : (sgn b).length ≤ 1 := by cases b <;> decide
  unfold fmtL
  split
  · rw [List.length_append]; omega
  · have hf : n % 65536 < 65536 := Nat.mod_lt _ (by decide)
    have hy := fr_bound hf
    have hp := pad_ok hy
    have hpl := hp.len (m := 5) (by decide) hy
    generalize Lib.repeatL [48] (5 - (Lib.decDigits ((2 * (n % 65536) * 100000 + 65536) / 131072)).length) ++ Lib.decDigits ((2 * (n % 65536) * 100000 + 65536) / 131072) = t at *
    obtain ⟨z, hz1, hz2⟩ := trim_parts t
    have hlen := congrArg List.length hz1
    rw [List.length_append] at hlen
    rw [List.length_append, List.length_append, List.length_cons]
    omega
def clampI (v : Int) : Int := if v < -2147483648 then -2147483648 else if v > 2147483648 then 2147483648 else v
def fmtI (v : Int) : List UInt8 := fmtL (sgn (decide (clampI v < 0))) (clampI v).natAbs
theorem clamp_range (v : Int) : -2147483648 ≤ clampI v ∧ clampI v ≤ 2147483648 := by
  unfold clampI
  split
  · omega
  · split <;> omega
theorem clamp_a (v : Int) : (bif decide ((2147483648 : Int) < (bif decide ((-2147483648 : Int) > v) then (-2147483648 : Int) else v)) then (2147483648 : Int) else (bif decide ((-2147483648 : Int) > v) then (-2147483648 : Int) else v)) = clampI v := by
  unfold clampI
  by_cases h1 : v < -2147483648
  · rw [if_pos h1]
    simp (disch := omega) only [dif_dec, dif_ndec, bif_eq, bif_neq, bif_ne, bif_nne, w64, wu64, Int.toNat_natCast, Option.bind_some, cond_true, cond_false, Bool.not_true, Bool.not_false, Sum.elim_inl, Sum.elim_inr]
  · rw [if_neg h1]
    by_cases h2 : v > 2147483648
    · rw [if_pos h2]
      simp (disch := omega) only [dif_dec, dif_ndec, bif_eq, bif_neq, bif_ne, bif_nne, w64, wu64, Int.toNat_natCast, Option.bind_some, cond_true, cond_false, Bool.not_true, Bool.not_false, Sum.elim_inl, Sum.elim_inr]
    · rw [if_neg h2]
      simp (disch := omega) only [dif_dec, dif_ndec, bif_eq, bif_neq, bif_ne, bif_nne, w64, wu64, Int.toNat_natCast, Option.bind_some, cond_true, cond_false, Bool.not_true, Bool.not_false, Sum.elim_inl, Sum.elim_inr]
theorem clamp_b (v : Int) : (bif decide ((bif decide ((2147483648 : Int) < v) then (2147483648 : Int) else v) > (-2147483648 : Int)) then (bif decide ((2147483648 : Int) < v) then (2147483648 : Int) else v) else (-2147483648 : Int)) = clampI v := by
  unfold clampI
  by_cases h1 : v < -2147483648
  · rw [if_pos h1]
    simp (disch := omega) only [dif_dec, dif_ndec, bif_eq, bif_neq, bif_ne, bif_nne, w64, wu64, Int.toNat_natCast, Option.bind_some, cond_true, cond_false, Bool.not_true, Bool.not_false, Sum.elim_inl, Sum.elim_inr]
  · rw [if_neg h1]
    by_cases h2 : v > 2147483648
    · rw [if_pos h2]
      simp (disch := omega) only [dif_dec, dif_ndec, bif_eq, bif_neq, bif_ne, bif_nne, w64, wu64, Int.toNat_natCast, Option.bind_some, cond_true, cond_false, Bool.not_true, Bool.not_false, Sum.elim_inl, Sum.elim_inr]
    · rw [if_neg h2]
      by_cases h3 : v = -2147483648
      · subst h3
        rfl
      · simp (disch := omega) only [dif_dec, dif_ndec, bif_eq, bif_neq, bif_ne, bif_nne, w64, wu64, Int.toNat_natCast, Option.bind_some, cond_true, cond_false, Bool.not_true, Bool.not_false, Sum.elim_inl, Sum.elim_inr]
theorem tfmt_val (v : Int) : token_Format.F v = some (ofB (fmtI v)) := by
  rw [token_Format.F_eq]
  unfold token_Format.F0 fmtI
  rw [clamp_a]
  have hr := clamp_range v
  generalize clampI v = x at *
  rw [token_Format.p0.F_eq]
  unfold token_Format.p0.F0
  by_cases h : x < 0
  · have e : 0 - x = ((x.natAbs : Nat) : Int) := by omega
    rw [decide_eq_true h, cond_true, w64 (by omega) (by omega), e, show (⟨#[45]⟩ : ByteArray) = ofB [45] from rfl, tfmt1_val (by decide) (by omega)]
    rfl
  · have e : x = ((x.natAbs : Nat) : Int) := by omega
    rw [decide_eq_false h, cond_false]
    conv => lhs; rw [e]
    rw [show (⟨#[]⟩ : ByteArray) = ofB [] from rfl, tfmt1_val (by decide) (by omega)]
    rfl
theorem rfmt_val (v : Int) : armplanref6_Format.F v = some (ofB (fmtI v)) := by
  rw [armplanref6_Format.F_eq]
  unfold armplanref6_Format.F0 fmtI
  rw [clamp_b]
  have hr := clamp_range v
  generalize clampI v = x at *
  rw [armplanref6_Format.p0.F_eq]
  unfold armplanref6_Format.p0.F0
  by_cases h : x < 0
  · have e : 0 - x = ((x.natAbs : Nat) : Int) := by omega
    rw [decide_eq_true h, cond_true, w64 (by omega) (by omega), e, show (⟨#[45]⟩ : ByteArray) = ofB [45] from rfl, rfmt1_val (by decide) (by omega)]
    rfl
  · have e : x = ((x.natAbs : Nat) : Int) := by omega
    rw [decide_eq_false h, cond_false]
    conv => lhs; rw [e]
    rw [show (⟨#[]⟩ : ByteArray) = ofB [] from rfl, rfmt1_val (by decide) (by omega)]
    rfl
theorem formats_law {n k : Int} (hk : 0 ≤ k ∧ k ≤ 255) : armplanlaw6_TokenFormats.F n k = some true := by
  rw [armplanlaw6_TokenFormats.F_eq]
  unfold armplanlaw6_TokenFormats.F0
  have hm : 0 ≤ k.tmod 64 := Int.tmod_nonneg _ hk.1
  rw [decide_eq_true hm, cond_true]
  generalize shrI .i64 n (k.tmod 64) = v
  have hr := clamp_range v
  have hnum : token_Number.F (ofB (fmtI v)) = some (clampI v, true) := by
    have hl : (fmtI v).length ≤ 20 := fmt_len (by omega)
    rw [tnum_val _ (by omega)]
    unfold fmtI
    rw [fmt_num (by omega)]
    generalize clampI v = x at *
    by_cases h : x < 0
    · rw [decide_eq_true h, cond_true]
      have e : -((x.natAbs : Nat) : Int) = x := by omega
      rw [e]
    · rw [decide_eq_false h, cond_false]
      have e : ((x.natAbs : Nat) : Int) = x := by omega
      rw [e]
  rw [tfmt_val, rfmt_val]
  simp only [Option.bind_some]
  rw [hnum, awake_val, clamp_b]
  simp only [Option.bind_some, cond_true, eqS_refl, beq_self_eq_true]
theorem formats_good (x : ArgT [.lf (.int .i64), .lf (.int .u8)]) (g : GoodAll [.lf (.int .i64), .lf (.int .u8)] x) : armplanlaw6_TokenFormats.F x.1 x.2.1 = some true := by
  obtain ⟨_, g2, _⟩ := g
  simp only [Good, IntKind.min, IntKind.max] at g2
  exact formats_law g2
end Go.Abs
