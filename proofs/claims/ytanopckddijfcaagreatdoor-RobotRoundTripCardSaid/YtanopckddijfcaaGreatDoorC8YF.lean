/- A part of the proof that the text with the row names: printed readings of functions, or plain lemmas about them. -/
import Derived.Test.YtanopckddijfcaaGreatDoorC8YN
set_option linter.unusedVariables false
set_option linter.unusedSimpArgs false
namespace Go.Abs
open Go Go.Proofs
/-! ### Digit lists are told apart by their values -/
theorem dig_uniq : ∀ {a b : List UInt8}, a.all dig = true → b.all dig = true → a.length = b.length → valA 0 a = valA 0 b → a = b
  | [], [], _, _, _, _ => rfl
  | [], _ :: _, _, _, h, _ => by cases h
  | _ :: _, [], _, _, h, _ => by cases h
  | c :: a, d :: b, ha, hb, hl, hv => by
    rw [List.all_cons, Bool.and_eq_true] at ha hb
    rw [List.length_cons, List.length_cons] at hl
    have hl' : a.length = b.length := by omega
    have hc := dig_iff.1 ha.1
    have hd := dig_iff.1 hb.1
    have h1 := valA_lt ha.2
    have h2 := valA_lt hb.2
    rw [valA_cons, valA_cons, valA_eq a, valA_eq b, hl'] at hv
    rw [hl'] at h1
    simp only [Nat.zero_mul, Nat.zero_add] at hv
    have key : c.toNat = d.toNat ∧ valA 0 a = valA 0 b := by
      generalize 10 ^ b.length = P at *
      generalize valA 0 a = v at *
      generalize valA 0 b = w at *
      rcases Nat.lt_trichotomy c.toNat d.toNat with h | h | h
      · have : (c.toNat - 48 + 1) * P ≤ (d.toNat - 48) * P := Nat.mul_le_mul_right _ (by omega)
        rw [Nat.add_mul, Nat.one_mul] at this
        omega
      · rw [h] at hv
        exact ⟨h, by omega⟩
      · have : (d.toNat - 48 + 1) * P ≤ (c.toNat - 48) * P := Nat.mul_le_mul_right _ (by omega)
        rw [Nat.add_mul, Nat.one_mul] at this
        omega
    rw [UInt8.toNat_inj.1 key.1, dig_uniq ha.2 hb.2 hl' key.2]
/-- Digits of a number, no more than wanted. -/
structure DigOk (n k : Nat) (r : List UInt8) : Prop where
  a : r.all dig = true
  v : valA 0 r = n
  lo : k ≤ r.length
  mn : r.length = k ∨ 10 ^ (r.length - 1) ≤ n
theorem DigOk.uniq {n k : Nat} {a b : List UInt8} (hk : 1 ≤ k) (ha : DigOk n k a) (hb : DigOk n k b) : a = b := by
  refine dig_uniq ha.a hb.a ?_ (ha.v.trans hb.v.symm)
  have h1 := valA_lt ha.a
  have h2 := valA_lt hb.a
  rw [ha.v] at h1
  rw [hb.v] at h2
  have l1 := ha.lo
  have l2 := hb.lo
  have go : ∀ {x y : Nat}, n < 10 ^ x → k ≤ x → (y = k ∨ 10 ^ (y - 1) ≤ n) → y ≤ x := by
    intro x y h1 h2 h3
    rcases h3 with h3 | h3
    · omega
    · have : 10 ^ (y - 1) < 10 ^ x := Nat.lt_of_le_of_lt h3 h1
      have := (Nat.pow_lt_pow_iff_right (by decide : 1 < 10)).1 this
      omega
  exact Nat.le_antisymm (go h2 l2 ha.mn) (go h1 l1 hb.mn)
theorem DigOk.len {n k m : Nat} {r : List UInt8} (h : DigOk n k r) (hk : k ≤ m) (hn : n < 10 ^ m) : r.length ≤ m := by
  rcases h.mn with h3 | h3
  · omega
  · have : 10 ^ (r.length - 1) < 10 ^ m := Nat.lt_of_le_of_lt h3 hn
    have := (Nat.pow_lt_pow_iff_right (by decide : 1 < 10)).1 this
    omega
theorem decD_ok : ∀ (f n : Nat), n < f → DigOk n 1 (Lib.decDigits n)
  | 0, _, h => by omega
  | f + 1, n, h => by
    by_cases h10 : n < 10
    · rw [Lib.decDigits_one h10]
      have hd : dig (UInt8.ofNat (48 + n)) = true := dch_dig h10
      have hn : (UInt8.ofNat (48 + n)).toNat = 48 + n := dch_nat h10
      refine ⟨by rw [List.all_cons, hd]; rfl, ?_, Nat.le_refl _, Or.inl rfl⟩
      rw [valA_cons, valA_nil, hn]
      omega
    · have ih := decD_ok f (n / 10) (by omega)
      rw [Lib.decDigits, dif_neg h10]
      have h9 : n % 10 < 10 := Nat.mod_lt _ (by decide)
      have hd : dig (UInt8.ofNat (48 + n % 10)) = true := dch_dig h9
      have hn : (UInt8.ofNat (48 + n % 10)).toNat = 48 + n % 10 := dch_nat h9
      refine ⟨all_append' ih.a (by rw [List.all_cons, hd]; rfl), ?_, by rw [List.length_append, List.length_cons, List.length_nil]; omega, Or.inr ?_⟩
      · rw [valA_append, ih.v, valA_cons, valA_nil, hn]
        omega
      · rw [List.length_append, List.length_cons, List.length_nil, Nat.add_sub_cancel]
        rcases ih.mn with h1 | h1
        · rw [h1]; omega
        · have hl := ih.lo
          rw [show (Lib.decDigits (n / 10)).length = (Lib.decDigits (n / 10)).length - 1 + 1 by omega, Nat.pow_succ]
          omega
theorem fint_val {n : Nat} (hn : n ≤ 2 ^ 40) : libFormatInt.F (n : Int) 10 = some (ofB (Lib.decDigits n)) := by
  rw [libFormatInt.F_eq]
  unfold libFormatInt.F0 Lib.itoa
  rw [if_pos ⟨rfl, by omega, by omega⟩, if_neg (by omega), Int.toNat_natCast]

/-! ### Zeros behind -/
theorem val_zeros : ∀ {z : List UInt8}, (∀ c ∈ z, c = 48) → valA 0 z = 0
  | [], _ => rfl
  | c :: z, h => by
    rw [valA_cons, h c (List.mem_cons_self ..)]
    exact val_zeros (z := z) fun d hd => h d (List.mem_cons_of_mem _ hd)
theorem trim_parts (t : List UInt8) : ∃ z, t = Lib.trimRightB t 48 ++ z ∧ ∀ c ∈ z, c = 48 := by
  refine ⟨(t.reverse.takeWhile (· == 48)).reverse, ?_, ?_⟩
  · unfold Lib.trimRightB
    rw [← List.reverse_append, List.takeWhile_append_dropWhile, List.reverse_reverse]
  · intro c hc
    rw [List.mem_reverse] at hc
    have := List.all_eq_true.1 (List.all_takeWhile (p := fun x : UInt8 => x == 48) (l := t.reverse)) c hc
    exact eq_of_beq this
/-! ### Format -/
def fmtL (g : List UInt8) (n : Nat) : List UInt8 :=
  if n % 65536 = 0 then g ++ Lib.decDigits (n / 65536)
  else g ++ Lib.decDigits (n / 65536) ++ 46 :: Lib.trimRightB (Lib.repeatL [48] (5 - (Lib.decDigits ((2 * (n % 65536) * 100000 + 65536) / 131072)).length) ++ Lib.decDigits ((2 * (n % 65536) * 100000 + 65536) / 131072)) 48
theorem fr_bound {f : Nat} (h : f < 65536) : (2 * f * 100000 + 65536) / 131072 < 10 ^ 5 := by omega
theorem rep_all : ∀ c, (Lib.repeatL [48] c).all dig = true ∧ (Lib.repeatL [48] c).length = c ∧ ∀ d ∈ Lib.repeatL [48] c, d = 48
  | 0 => ⟨rfl, rfl, fun _ h => by cases h⟩
  | c + 1 => by
    obtain ⟨h1, h2, h3⟩ := rep_all c
    simp only [Lib.repeatL]
    refine ⟨all_append' rfl h1, by rw [List.length_append, h2, List.length_cons, List.length_nil]; omega, fun d hd => ?_⟩
    rcases List.mem_append.1 hd with h | h
    · simpa using h
    · exact h3 d h
/-- The five digits. -/
theorem pad_ok {y : Nat} (hy : y < 10 ^ 5) : DigOk y 5 (Lib.repeatL [48] (5 - (Lib.decDigits y).length) ++ Lib.decDigits y) := by
  have h := decD_ok (y + 1) y (Nat.lt_succ_self _)
  have hl := h.len (m := 5) (by decide) hy
  obtain ⟨r1, r2, r3⟩ := rep_all (5 - (Lib.decDigits y).length)
  have hlen : (Lib.repeatL [48] (5 - (Lib.decDigits y).length) ++ Lib.decDigits y).length = 5 := by rw [List.length_append, r2]; omega
  refine ⟨all_append' r1 h.a, ?_, by omega, Or.inl hlen⟩
  rw [valA_append, val_zeros r3, h.v]
theorem tfmt1_val {g : List UInt8} {n : Nat} (hg : g.length ≤ 1) (hn : n ≤ 2147483648) : token_Format.p1 (n : Int) (ofB g) = some (ofB (fmtL g n)) := by
  rw [token_Format.p1.F_eq]
  unfold token_Format.p1.F0 fmtL
  have e1 : ((n : Int)).tdiv 65536 = ((n / 65536 : Nat) : Int) := by rw [Int.tdiv_eq_ediv_of_nonneg (by omega)]; omega
  have e2 : ((n : Int)).tmod 65536 = ((n % 65536 : Nat) : Int) := by rw [Int.tmod_eq_emod_of_nonneg (by omega)]; omega
  have hf : n % 65536 < 65536 := Nat.mod_lt _ (by decide)
  have hw := (decD_ok (n / 65536 + 1) (n / 65536) (Nat.lt_succ_self _)).len (m := 5) (by decide) (by omega)
  rw [e1, e2, w64 (n := ((n / 65536 : Nat) : Int)) (by omega) (by omega), fint_val (by omega)]
  rw [show ((65536 : Int) != 0) = true from rfl, show ((131072 : Int) != 0) = true from rfl]
  simp only [Option.bind_some, cond_true]
  rw [cat_ok (by rw [szB, szB]; omega)]
  simp only [cond_true, catB]
  generalize n % 65536 = f at *
  generalize n / 65536 = w at *
  by_cases h0 : f = 0
  · subst h0
    rfl
  · rw [if_neg h0, bif_neq (by omega)]
    have hy := fr_bound hf
    have e3 : (2 * (f : Int)) * 100000 + 65536 = ((2 * f * 100000 + 65536 : Nat) : Int) := by omega
    rw [w64 (n := 2 * (f : Int)) (by omega) (by omega), w64 (n := 2 * (f : Int) * 100000) (by omega) (by omega), w64 (n := 2 * (f : Int) * 100000 + 65536) (by omega) (by omega), e3]
    have e4 : (((2 * f * 100000 + 65536 : Nat) : Int)).tdiv 131072 = (((2 * f * 100000 + 65536) / 131072 : Nat) : Int) := by rw [Int.tdiv_eq_ediv_of_nonneg (by omega)]; omega
    rw [e4]
    generalize (2 * f * 100000 + 65536) / 131072 = y at *
    have hp := pad_ok hy
    have hl := (decD_ok (y + 1) y (Nat.lt_succ_self _)).len (m := 5) (by decide) hy
    rw [w64 (n := (y : Int)) (by omega) (by omega), fint_val (by omega)]
    simp only [Option.bind_some, szB]
    have e5 : (5 : Int) - ((Lib.decDigits y).length : Int) = ((5 - (Lib.decDigits y).length : Nat) : Int) := by omega
    rw [w64 (n := (5 : Int) - ((Lib.decDigits y).length : Int)) (by omega) (by omega), e5]
    have hrep : libRepeat.F (⟨#[48]⟩ : ByteArray) ((5 - (Lib.decDigits y).length : Nat) : Int) = some (ofB (Lib.repeatL [48] (5 - (Lib.decDigits y).length))) := by
      rw [libRepeat.F_eq]
      unfold libRepeat.F0
      have hs : (⟨#[48]⟩ : ByteArray).size = 1 := rfl
      rw [if_pos ⟨by omega, by omega, by rw [hs, Int.toNat_natCast]; omega⟩, Int.toNat_natCast]
    rw [hrep]
    simp only [Option.bind_some]
    have hrl := (rep_all (5 - (Lib.decDigits y).length)).2.1
    have hpl : (Lib.repeatL [48] (5 - (Lib.decDigits y).length) ++ Lib.decDigits y).length = 5 := by rw [List.length_append, hrl]; omega
    rw [cat_ok (by rw [szB, szB]; omega)]
    simp only [cond_true, catB]
    have s46 : (⟨#[46]⟩ : ByteArray) = ofB [46] := rfl
    rw [s46, cat_ok (by rw [szB, szB, List.length_append, List.length_cons, List.length_nil]; omega)]
    simp only [cond_true, catB]
    generalize Lib.repeatL [48] (5 - (Lib.decDigits y).length) ++ Lib.decDigits y = t at *
    have htr : libTrimRight.F (ofB t) (⟨#[48]⟩ : ByteArray) = some (ofB (Lib.trimRightB t 48)) := by
      rw [libTrimRight.F_eq]
      unfold libTrimRight.F0
      show (if (48 : UInt8).toNat < 128 ∧ (ofB t).size ≤ 9223372036854775807 then some (ofB (Lib.trimRightB t 48)) else none) = _
      rw [if_pos ⟨by decide, by rw [szB]; omega⟩]
    rw [htr]
    simp only [Option.bind_some]
    have hz : (Lib.trimRightB t 48).length ≤ t.length := by
      obtain ⟨z, h1, _⟩ := trim_parts t
      have := congrArg List.length h1
      rw [List.length_append] at this
      omega
    rw [cat_ok (by rw [szB, szB, List.length_append, List.length_append, List.length_cons, List.length_nil]; omega)]
    simp only [cond_true]
    rw [catB]
    congr 2
    rw [List.append_assoc]
    rfl
theorem parts_none {w : List UInt8} (hw : w.all dig = true) : wholeL w = w ∧ restL w = [] ∧ pointL w = false := by
  have hn : ∀ c ∈ w, nodot c = true := by
    intro c hc
    rw [List.all_eq_true] at hw
    have h := dig_iff.1 (hw c hc)
    refine nodot_iff.2 fun e => ?_
    subst e
    exact absurd h.1 (by decide)
  unfold wholeL restL pointL
  have h1 : w.takeWhile nodot = w := by
    have := List.takeWhile_append_of_pos (l₂ := []) hn
    rw [List.append_nil, List.takeWhile_nil, List.append_nil] at this
    exact this
  have h2 : w.dropWhile nodot = [] := by
    have := List.dropWhile_append_of_pos (l₂ := []) hn
    rw [List.append_nil, List.dropWhile_nil] at this
    exact this
  rw [h1, h2]
  exact ⟨rfl, rfl, rfl⟩
/-- The sign ahead. -/
def sgn (b : Bool) : List UInt8 := bif b then [45] else []
theorem strip_sgn {b : Bool} {w r : List UInt8} (hw : w.all dig = true) (h1 : 1 ≤ w.length) : stripL (sgn b ++ (w ++ r)) = w ++ r ∧ negL (sgn b ++ (w ++ r)) = b := by
  cases b with
  | true => exact ⟨rfl, rfl⟩
  | false =>
    have := strip_dig (r := r) hw h1
    exact this
theorem numV_sgn {b : Bool} {w p : List UInt8} (hw : w.all dig = true) (h1 : 1 ≤ w.length) (h5 : w.length ≤ 5) (hp : p.all dig = true) (hp1 : 1 ≤ p.length) (hp6 : p.length ≤ 6) (hx : numX w p ≤ 2147483648) :
    numV (sgn b ++ (w ++ 46 :: p)) = (bif b then -(numX w p : Int) else numX w p, true) := by
  obtain ⟨s1, s2⟩ := strip_sgn (b := b) (r := 46 :: p) hw h1
  obtain ⟨g1, g2, g3⟩ := parts_of (p := p) hw
  unfold numV
  rw [s1, s2, g1, g2, if_pos ⟨⟨by rw [g1]; exact hw, by rw [g1]; exact h1, by rw [g1]; exact h5, fun _ => by rw [g2]; exact ⟨hp, hp1, hp6⟩⟩, hx⟩]
theorem numV_sgn0 {b : Bool} {w : List UInt8} (hw : w.all dig = true) (h1 : 1 ≤ w.length) (h5 : w.length ≤ 5) (hx : numX w [] ≤ 2147483648) :
    numV (sgn b ++ w) = (bif b then -(numX w [] : Int) else numX w [], true) := by
  obtain ⟨s1, s2⟩ := strip_sgn (b := b) (r := []) hw h1
  rw [List.append_nil] at s1 s2
  obtain ⟨g1, g2, g3⟩ := parts_none hw
  unfold numV
  rw [s1, s2, g1, g2, if_pos ⟨⟨by rw [g1]; exact hw, by rw [g1]; exact h1, by rw [g1]; exact h5, fun h => by rw [g3] at h; cases h⟩, hx⟩]
/-- The digits behind the point denote the part. -/
theorem part_back {f vp k : Nat} (hf : f < 65536) (hk : k ≤ 5) (hv : vp * 10 ^ (5 - k) = (2 * f * 100000 + 65536) / 131072) : (2 * vp * 65536 + 10 ^ k) / (2 * 10 ^ k) = f := by
  have hT : 10 ^ k * 10 ^ (5 - k) = 100000 := by rw [← Nat.pow_add, show k + (5 - k) = 5 by omega]
  have hS : 0 < 10 ^ (5 - k) := Nat.pow_pos (by decide)
  rw [← Nat.mul_div_mul_right _ _ hS, Nat.add_mul, hT, Nat.mul_assoc 2 (10 ^ k), hT]
  have e : 2 * vp * 65536 * 10 ^ (5 - k) = 131072 * (vp * 10 ^ (5 - k)) := by
    rw [Nat.mul_right_comm 2 vp 65536, Nat.mul_assoc]
  rw [e, hv]
  omega
theorem fmt_num {b : Bool} {n : Nat} (hn : n ≤ 2147483648) : numV (fmtL (sgn b) n) = (bif b then -(n : Int) else n, true) := by
  have hd := decD_ok (n / 65536 + 1) (n / 65536) (Nat.lt_succ_self _)
  have hw := hd.len (m := 5) (by decide) (by omega)
  unfold fmtL
  by_cases h0 : n % 65536 = 0
  · rw [if_pos h0]
    have hx : numX (Lib.decDigits (n / 65536)) [] = n := by
      rw [numX_split, hd.v, valA_nil, List.length_nil, Nat.pow_zero]
      omega
    rw [numV_sgn0 hd.a hd.lo hw (by rw [hx]; exact hn), hx]
  · rw [if_neg h0, List.append_assoc]
    have hf : n % 65536 < 65536 := Nat.mod_lt _ (by decide)
    have hy := fr_bound hf
    have hp := pad_ok hy
    have hpl : (Lib.repeatL [48] (5 - (Lib.decDigits ((2 * (n % 65536) * 100000 + 65536) / 131072)).length) ++ Lib.decDigits ((2 * (n % 65536) * 100000 + 65536) / 131072)).length = 5 := Nat.le_antisymm (hp.len (by decide) hy) hp.lo
    generalize Lib.repeatL [48] (5 - (Lib.decDigits ((2 * (n % 65536) * 100000 + 65536) / 131072)).length) ++ Lib.decDigits ((2 * (n % 65536) * 100000 + 65536) / 131072) = t at *
    obtain ⟨z, hz1, hz2⟩ := trim_parts t
    generalize Lib.trimRightB t 48 = p at *
    have hlen := congrArg List.length hz1
    rw [List.length_append, hpl] at hlen
    have hpa : p.all dig = true := by
      have := hp.a
      rw [hz1, List.all_append, Bool.and_eq_true] at this
      exact this.1
    have hval : valA 0 p * 10 ^ (5 - p.length) = (2 * (n % 65536) * 100000 + 65536) / 131072 := by
      have := hp.v
      rw [hz1, valA_append, valA_eq z, val_zeros hz2, Nat.add_zero] at this
      rw [← this, show 5 - p.length = z.length by omega]
    have hp1 : 1 ≤ p.length := by
      cases p with
      | nil =>
        rw [valA_nil, Nat.zero_mul] at hval
        omega
      | cons c r => rw [List.length_cons]; omega
    have hx : numX (Lib.decDigits (n / 65536)) p = n := by
      rw [numX_split, hd.v, part_back hf (by omega) hval]
      omega
    rw [numV_sgn hd.a hd.lo hw hpa hp1 (by omega) (by rw [hx]; exact hn), hx]
theorem fmt_len {b : Bool} {n : Nat} (hn : n ≤ 2147483648) : (fmtL (sgn b) n).length ≤ 20 := by
  have hd := decD_ok (n / 65536 + 1) (n / 65536) (Nat.lt_succ_self _)
  have hw := hd.len (m := 5) (by decide) (by omega)
  have hs : (sgn b).length ≤ 1 := by cases b <;> decide
  unfold fmtL
  split
  · rw [List.length_append]; omega
  · have hf : n % 65536 < 65536 := Nat.mod_lt _ (by decide)
    have hy := fr_bound hf
    have hp := pad_ok hy
    have hpl := hp.len (m := 5) (by decide) hy
    generalize Lib.repeatL [48] (5 - (Lib.decDigits ((2 * (n % 65536) * 100000 + 65536) / 131072)).length) ++ Lib.decDigits ((2 * (n % 65536) * 100000 + 65536) / 131072) = t at *
    obtain ⟨z, hz1, hz2⟩ := trim_parts t
    have hlen := congrArg List.length hz1
    rw [List.length_append] at hlen
    rw [List.length_append, List.length_append, List.length_cons]
    omega
def clampI (v : Int) : Int := if v < -2147483648 then -2147483648 else if v > 2147483648 then 2147483648 else v
def fmtI (v : Int) : List UInt8 := fmtL (sgn (decide (clampI v < 0))) (clampI v).natAbs
theorem clamp_range (v : Int) : -2147483648 ≤ clampI v ∧ clampI v ≤ 2147483648 := by
  unfold clampI
  split
  · omega
  · split <;> omega
theorem clamp_a (v : Int) : (bif decide ((2147483648 : Int) < (bif decide ((-2147483648 : Int) > v) then (-2147483648 : Int) else v)) then (2147483648 : Int) else (bif decide ((-2147483648 : Int) > v) then (-2147483648 : Int) else v)) = clampI v := by
  unfold clampI
  by_cases h1 : v < -2147483648
  · rw [if_pos h1]
    simp (disch := omega) only [dif_dec, dif_ndec, bif_eq, bif_neq, bif_ne, bif_nne, w64, wu64, Int.toNat_natCast, Option.bind_some, cond_true, cond_false, Bool.not_true, Bool.not_false, Sum.elim_inl, Sum.elim_inr]
  · rw [if_neg h1]
    by_cases h2 : v > 2147483648
    · rw [if_pos h2]
      simp (disch := omega) only [dif_dec, dif_ndec, bif_eq, bif_neq, bif_ne, bif_nne, w64, wu64, Int.toNat_natCast, Option.bind_some, cond_true, cond_false, Bool.not_true, Bool.not_false, Sum.elim_inl, Sum.elim_inr]
    · rw [if_neg h2]
      simp (disch := omega) only [dif_dec, dif_ndec, bif_eq, bif_neq, bif_ne, bif_nne, w64, wu64, Int.toNat_natCast, Option.bind_some, cond_true, cond_false, Bool.not_true, Bool.not_false, Sum.elim_inl, Sum.elim_inr]
theorem tfmt_val (v : Int) : token_Format.F v = some (ofB (fmtI v)) := by
  rw [token_Format.F_eq]
  unfold token_Format.F0 fmtI
  rw [clamp_a]
  have hr := clamp_range v
  generalize clampI v = x at *
  rw [token_Format.p0.F_eq]
  unfold token_Format.p0.F0
  by_cases h : x < 0
  · have e : 0 - x = ((x.natAbs : Nat) : Int) := by omega
    rw [decide_eq_true h, cond_true, w64 (by omega) (by omega), e, show (⟨#[45]⟩ : ByteArray) = ofB [45] from rfl, tfmt1_val (by decide) (by omega)]
    rfl
  · have e : x = ((x.natAbs : Nat) : Int) := by omega
    rw [decide_eq_false h, cond_false]
    conv => lhs; rw [e]
    rw [show (⟨#[]⟩ : ByteArray) = ofB [] from rfl, tfmt1_val (by decide) (by omega)]
    rfl
end Go.Abs
