/- A part of the proof that the text with the row names: printed readings of functions, or plain lemmas about them. -/
import Derived.Test.YtgligkmpgefbmaaDoorC6M9
set_option linter.unusedVariables false
set_option linter.unusedSimpArgs false
namespace Go.Abs
open Go Go.Proofs
/-! ### Digit lists are told apart by their values -/
theorem dig_uniq : ∀ {a b : List UInt8}, a.all dig = true → b.all dig = true → a.length = b.length → valA 0 a = valA 0 b → a = b
  | [], [], _, _, _, _ => rfl
  | [], _ :: _, _, _, h, _ => by cases h
  | _ :: _, [], _, _, h, _ => by cases h
  | c :: a, d :: b, ha, hb, hl, hv => by
    rw [List.all_cons, Bool.and_eq_true] at ha hb
    rw [List.length_cons, List.length_cons] at hl
    have hl' : a.length = b.length := by omega
    have hc := dig_iff.1 ha.1
    have hd := dig_iff.1 hb.1
    have h1 := valA_lt ha.2
    have h2 := valA_lt hb.2
    rw [valA_cons, valA_cons, valA_eq a, valA_eq b, hl'] at hv
    rw [hl'] at h1
    simp only [Nat.zero_mul, Nat.zero_add] at hv
    have key : c.toNat = d.toNat ∧ valA 0 a = valA 0 b := by
      generalize 10 ^ b.length = P at *
      generalize valA 0 a = v at *
      generalize valA 0 b = w at *
      rcases Nat.lt_trichotomy c.toNat d.toNat with h | h | h
      · have : (c.toNat - 48 + 1) * P ≤ (d.toNat - 48) * P := Nat.mul_le_mul_right _ (by omega)
        rw [Nat.add_mul, Nat.one_mul] at this
        omega
      · rw [h] at hv
        exact ⟨h, by omega⟩
      · have : (d.toNat - 48 + 1) * P ≤ (c.toNat - 48) * P := Nat.mul_le_mul_right _ (by omega)
        rw [Nat.add_mul, Nat.one_mul] at this
        omega
    rw [UInt8.toNat_inj.1 key.1, dig_uniq ha.2 hb.2 hl' key.2]
/-- Digits of a number, no more than wanted. -/
structure DigOk (n k : Nat) (r : List UInt8) : Prop where
  a : r.all dig = true
  v : valA 0 r = n
  lo : k ≤ r.length
  mn : r.length = k ∨ 10 ^ (r.length - 1) ≤ n
theorem DigOk.uniq {n k : Nat} {a b : List UInt8} (hk : 1 ≤ k) (ha : DigOk n k a) (hb : DigOk n k b) : a = b := by
  refine dig_uniq ha.a hb.a ?_ (ha.v.trans hb.v.symm)
  have h1 := valA_lt ha.a
  have h2 := valA_lt hb.a
  rw [ha.v] at h1
  rw [hb.v] at h2
  have l1 := ha.lo
  have l2 := hb.lo
  have go : ∀ {x y : Nat}, n < 10 ^ x → k ≤ x → (y = k ∨ 10 ^ (y - 1) ≤ n) → y ≤ x := by
    intro x y h1 h2 h3
    rcases h3 with h3 | h3
    · omega
    · have : 10 ^ (y - 1) < 10 ^ x := Nat.lt_of_le_of_lt h3 h1
      have := (Nat.pow_lt_pow_iff_right (by decide : 1 < 10)).1 this
      omega
  exact Nat.le_antisymm (go h2 l2 ha.mn) (go h1 l1 hb.mn)
theorem DigOk.len {n k m : Nat} {r : List UInt8} (h : DigOk n k r) (hk : k ≤ m) (hn : n < 10 ^ m) : r.length ≤ m := by
  rcases h.mn with h3 | h3
  · omega
  · have : 10 ^ (r.length - 1) < 10 ^ m := Nat.lt_of_le_of_lt h3 hn
    have := (Nat.pow_lt_pow_iff_right (by decide : 1 < 10)).1 this
    omega
theorem dec2_loop {k m n0 : Nat} (hk : k ≤ m) (hm : m ≤ 18) (hn0 : n0 < 10 ^ 18) : ∀ (f n : Nat) (L : List UInt8), f = m - L.length → L.all dig = true → n * 10 ^ L.length + valA 0 L = n0 → n < 10 ^ (m - L.length) → L.length ≤ m → (L.length ≤ k ∨ 10 ^ (L.length - 1) ≤ n0) →
    ∃ r, DigOk n0 k r ∧ loopF armplanref6_Decimal.p0.step ((n : Int), (k : Int), ofB L) = some (ofB r) := by
  intro f
  induction f with
  | zero =>
    intro n L hf ha hv hn hl hmn
    have h0 : n = 0 := by
      rw [← hf, Nat.pow_zero] at hn
      omega
    subst h0
    refine ⟨L, ⟨ha, by omega, by omega, by rcases hmn with h | h; exact Or.inl (by omega); exact Or.inr h⟩, loop_end ?_⟩
    unfold armplanref6_Decimal.p0.step armplanref6_Decimal.p0.round
    simp only [szB]
    simp (disch := omega) only [dif_dec, dif_ndec, bif_eq, bif_neq, bif_ne, bif_nne, w64, wu64, Int.toNat_natCast, Option.bind_some, cond_true, cond_false, Bool.not_true, Bool.not_false, Sum.elim_inl, Sum.elim_inr]
  | succ f ih =>
    intro n L hf ha hv hn hl hmn
    by_cases hend : n = 0 ∧ k ≤ L.length
    · obtain ⟨rfl, h2⟩ := hend
      refine ⟨L, ⟨ha, by omega, by omega, by rcases hmn with h | h; exact Or.inl (by omega); exact Or.inr h⟩, loop_end ?_⟩
      unfold armplanref6_Decimal.p0.step armplanref6_Decimal.p0.round
      simp only [szB]
      simp (disch := omega) only [dif_dec, dif_ndec, bif_eq, bif_neq, bif_ne, bif_nne, w64, wu64, Int.toNat_natCast, Option.bind_some, cond_true, cond_false, Bool.not_true, Bool.not_false, Sum.elim_inl, Sum.elim_inr]
    · have hd : n % 10 < 10 := Nat.mod_lt _ (by decide)
      have hpm : 10 ^ (m - L.length) ≤ 10 ^ 18 := Nat.pow_le_pow_right (by decide) (by omega)
      obtain ⟨r, hr, hloop⟩ := ih (n / 10) (dch (n % 10) :: L) (by rw [List.length_cons]; omega) (by rw [List.all_cons, dch_dig hd, ha]; rfl) (by
          rw [valA_cons, dch_nat hd, valA_eq, List.length_cons, Nat.pow_succ, ← hv]
          generalize valA 0 L = v
          generalize 10 ^ L.length = p
          rw [Nat.zero_mul, Nat.zero_add, show 48 + n % 10 - 48 = n % 10 by omega, ← Nat.add_assoc]
          congr 1
          rw [Nat.mul_comm p 10, ← Nat.mul_assoc, ← Nat.add_mul]
          congr 1
          omega) (by
          rw [List.length_cons]
          rw [show m - L.length = (m - (L.length + 1)) + 1 by omega, Nat.pow_succ] at hn
          omega) (by rw [List.length_cons]; omega) (by
          rw [List.length_cons, Nat.add_sub_cancel]
          by_cases hlk : L.length < k
          · exact Or.inl hlk
          · right
            rw [← hv]
            have : 1 * 10 ^ L.length ≤ n * 10 ^ L.length := Nat.mul_le_mul_right _ (by omega)
            rw [Nat.one_mul] at this
            exact Nat.le_trans this (Nat.le_add_right _ _))
      refine ⟨r, hr, ?_⟩
      rw [loopF_eq]
      have hstep : armplanref6_Decimal.p0.step ((n : Int), (k : Int), ofB L) = some (.inl (((n / 10 : Nat) : Int), (k : Int), ofB (dch (n % 10) :: L))) := by
        unfold armplanref6_Decimal.p0.step armplanref6_Decimal.p0.round
        have e1 : ((n : Int)).tmod 10 = ((n % 10 : Nat) : Int) := by rw [Int.tmod_eq_emod_of_nonneg (by omega)]; omega
        have e2 : ((n : Int)).tdiv 10 = ((n / 10 : Nat) : Int) := by rw [Int.tdiv_eq_ediv_of_nonneg (by omega)]; omega
        have e3 : (((n % 10 : Nat) : Int) + 1) = ((n % 10 + 1 : Nat) : Int) := by omega
        have hs10 : ((([48, 49, 50, 51, 52, 53, 54, 55, 56, 57] : List UInt8).length : Nat) : Int) = 10 := rfl
        have hx := digits10 (n % 10) hd
        have hcat : ofB [dch (n % 10)] ++ ofB L = ofB (dch (n % 10) :: L) := catB _ _
        have hco : catOk (ofB [dch (n % 10)]) (ofB L) = true := cat_ok (by rw [szB, szB, List.length_cons, List.length_nil]; omega)
        simp only [szB, e1, e2]
        rw [w64 (n := ((n % 10 : Nat) : Int) + 1) (by omega) (by omega), e3, Int.toNat_natCast, Int.toNat_natCast, hx, hco, hcat, hs10]
        by_cases h0 : (n : Int) > 0
        · simp (disch := omega) only [dif_dec, dif_ndec, bif_eq, bif_neq, bif_ne, bif_nne, w64, wu64, Int.toNat_natCast, Option.bind_some, cond_true, cond_false, Bool.not_true, Bool.not_false, Sum.elim_inl, Sum.elim_inr]
        · simp (disch := omega) only [dif_dec, dif_ndec, bif_eq, bif_neq, bif_ne, bif_nne, w64, wu64, Int.toNat_natCast, Option.bind_some, cond_true, cond_false, Bool.not_true, Bool.not_false, Sum.elim_inl, Sum.elim_inr]
      rw [hstep]
      exact hloop
theorem dec2_val {n k m : Nat} (hk : k ≤ m) (hm : m ≤ 18) (hn : n < 10 ^ m) : ∃ r, DigOk n k r ∧ armplanref6_Decimal.F (n : Int) (k : Int) = some (ofB r) := by
  have hpm : 10 ^ m ≤ 10 ^ 18 := Nat.pow_le_pow_right (by decide) hm
  obtain ⟨r, h1, h2⟩ := dec2_loop (k := k) (m := m) (n0 := n) hk hm (by omega) m n [] (by rw [List.length_nil]; omega) rfl (by rw [valA_nil, List.length_nil, Nat.pow_zero, Nat.mul_one, Nat.add_zero]) (by rw [List.length_nil]; exact hn) (by rw [List.length_nil]; omega) (Or.inl (by rw [List.length_nil]; omega))
  refine ⟨r, h1, ?_⟩
  rw [armplanref6_Decimal.F_eq]
  unfold armplanref6_Decimal.F0
  rw [show (⟨#[]⟩ : ByteArray) = ofB [] from rfl, h2]
  rfl
theorem decD_ok : ∀ (f n : Nat), n < f → DigOk n 1 (Lib.decDigits n)
  | 0, _, h => by omega
  | f + 1, n, h => by
    by_cases h10 : n < 10
    · rw [Lib.decDigits_one h10]
      have hd : dig (UInt8.ofNat (48 + n)) = true := dch_dig h10
      have hn : (UInt8.ofNat (48 + n)).toNat = 48 + n := dch_nat h10
      refine ⟨by rw [List.all_cons, hd]; rfl, ?_, Nat.le_refl _, Or.inl rfl⟩
      rw [valA_cons, valA_nil, hn]
      omega
    · have ih := decD_ok f (n / 10) (by omega)
      rw [Lib.decDigits, dif_neg h10]
      have h9 : n % 10 < 10 := Nat.mod_lt _ (by decide)
      have hd : dig (UInt8.ofNat (48 + n % 10)) = true := dch_dig h9
      have hn : (UInt8.ofNat (48 + n % 10)).toNat = 48 + n % 10 := dch_nat h9
      refine ⟨all_append' ih.a (by rw [List.all_cons, hd]; rfl), ?_, by rw [List.length_append, List.length_cons, List.length_nil]; omega, Or.inr ?_⟩
      · rw [valA_append, ih.v, valA_cons, valA_nil, hn]
        omega
      · rw [List.length_append, List.length_cons, List.length_nil, Nat.add_sub_cancel]
        rcases ih.mn with h1 | h1
        · rw [h1]; omega
        · have hl := ih.lo
          rw [show (Lib.decDigits (n / 10)).length = (Lib.decDigits (n / 10)).length - 1 + 1 by omega, Nat.pow_succ]
          omega
theorem fint_val {n : Nat} (hn : n ≤ 2 ^ 40) : libFormatInt.F (n : Int) 10 = some (ofB (Lib.decDigits n)) := by
  rw [libFormatInt.F_eq]
  unfold libFormatInt.F0 Lib.itoa
  rw [if_pos ⟨rfl, by omega, by omega⟩, if_neg (by omega), Int.toNat_natCast]

/-! ### Zeros behind -/
theorem val_zeros : ∀ {z : List UInt8}, (∀ c ∈ z, c = 48) → valA 0 z = 0
  | [], _ => rfl
  | c :: z, h => by
    rw [valA_cons, h c (List.mem_cons_self ..)]
    exact val_zeros (z := z) fun d hd => h d (List.mem_cons_of_mem _ hd)
theorem trim_parts (t : List UInt8) : ∃ z, t = Lib.trimRightB t 48 ++ z ∧ ∀ c ∈ z, c = 48 := by
  refine ⟨(t.reverse.takeWhile (· == 48)).reverse, ?_, ?_⟩
  · unfold Lib.trimRightB
    rw [← List.reverse_append, List.takeWhile_append_dropWhile, List.reverse_reverse]
  · intro c hc
    rw [List.mem_reverse] at hc
    have := List.all_eq_true.1 (List.all_takeWhile (p := fun x : UInt8 => x == 48) (l := t.reverse)) c hc
    exact eq_of_beq this
theorem trim_loop {s : ByteArray} : ∀ (L : List UInt8), L.length ≤ 2 ^ 40 → (∃ c ∈ L, c ≠ 48) → loopF armplanref6_Format.p2.step (s, ofB L.reverse) = some (s, ofB (L.dropWhile (· == 48)).reverse)
  | [], _, ⟨_, h, _⟩ => by cases h
  | c :: R, hl, hne => by
    rw [List.length_cons] at hl
    have hsz : ((c :: R).reverse.length : Nat) = R.length + 1 := by rw [List.length_reverse, List.length_cons]
    have hlast : btI (ofB (c :: R).reverse) (R.length : Int) = (c.toNat : Int) := by
      rw [btB, List.reverse_cons, List.getD_eq_getElem?_getD, List.getElem?_append_right (by rw [List.length_reverse]; exact Nat.le_refl _), List.length_reverse, Nat.sub_self]
      rfl
    have e1 : ((R.length + 1 : Nat) : Int) - 1 = (R.length : Int) := by omega
    rw [List.dropWhile_cons]
    by_cases hc : c = 48
    · subst hc
      have ih := trim_loop (s := s) R (by omega) (by
        obtain ⟨d, hd, hd2⟩ := hne
        rcases List.mem_cons.1 hd with h | h
        · exact absurd h hd2
        · exact ⟨d, h, hd2⟩)
      rw [loopF_eq]
      have hstep : armplanref6_Format.p2.step (s, ofB ((48 : UInt8) :: R).reverse) = some (.inl (s, ofB R.reverse)) := by
        unfold armplanref6_Format.p2.step armplanref6_Format.p2.round
        simp only [szB, hsz, e1]
        have hx : (ofB ((48 : UInt8) :: R).reverse).extract 0 R.length = ofB R.reverse := by
          rw [exT, List.reverse_cons, List.take_append_of_le_length (by rw [List.length_reverse]; exact Nat.le_refl _), List.take_of_length_le (by rw [List.length_reverse]; exact Nat.le_refl _)]
        have h48 : (((48 : UInt8).toNat : Nat) : Int) = 48 := rfl
        simp (disch := omega) only [dif_dec, dif_ndec, bif_eq, bif_neq, bif_ne, bif_nne, w64, wu64, Int.toNat_natCast, Option.bind_some, cond_true, cond_false, Bool.not_true, Bool.not_false, Sum.elim_inl, Sum.elim_inr, hlast, hx, h48]
      rw [hstep]
      exact ih
    · have hb : (c == 48) = false := beq_false_of_ne hc
      rw [hb, if_neg (by simp)]
      refine loop_end ?_
      unfold armplanref6_Format.p2.step armplanref6_Format.p2.round
      simp only [szB, hsz, e1]
      have h48 : ¬ ((c.toNat : Int) = 48) := fun e => hc ((u8_eq (n := 48) (by decide)).2 (by omega))
      simp (disch := omega) only [dif_dec, dif_ndec, bif_eq, bif_neq, bif_ne, bif_nne, w64, wu64, Int.toNat_natCast, Option.bind_some, cond_true, cond_false, Bool.not_true, Bool.not_false, Sum.elim_inl, Sum.elim_inr, hlast]

/-! ### Format -/
def fmtL (g : List UInt8) (n : Nat) : List UInt8 :=
  if n % 65536 = 0 then g ++ Lib.decDigits (n / 65536)
  else g ++ Lib.decDigits (n / 65536) ++ 46 :: Lib.trimRightB (Lib.repeatL [48] (5 - (Lib.decDigits ((2 * (n % 65536) * 100000 + 65536) / 131072)).length) ++ Lib.decDigits ((2 * (n % 65536) * 100000 + 65536) / 131072)) 48
theorem fr_bound {f : Nat} (h : f < 65536) : (2 * f * 100000 + 65536) / 131072 < 10 ^ 5 := by omega
theorem rep_all : ∀ c, (Lib.repeatL [48] c).all dig = true ∧ (Lib.repeatL [48] c).length = c ∧ ∀ d ∈ Lib.repeatL [48] c, d = 48
  | 0 => ⟨rfl, rfl, fun _ h => by cases h⟩
  | c + 1 => by
    obtain ⟨h1, h2, h3⟩ := rep_all c
    simp only [Lib.repeatL]
    refine ⟨all_append' rfl h1, by rw [List.length_append, h2, List.length_cons, List.length_nil]; omega, fun d hd => ?_⟩
    rcases List.mem_append.1 hd with h | h
    · simpa using h
    · exact h3 d h
/-- The five digits. -/
theorem pad_ok {y : Nat} (hy : y < 10 ^ 5) : DigOk y 5 (Lib.repeatL [48] (5 - (Lib.decDigits y).length) ++ Lib.decDigits y) := by
  have h := decD_ok (y + 1) y (Nat.lt_succ_self _)
  have hl := h.len (m := 5) (by decide) hy
  obtain ⟨r1, r2, r3⟩ := rep_all (5 - (Lib.decDigits y).length)
  have hlen : (Lib.repeatL [48] (5 - (Lib.decDigits y).length) ++ Lib.decDigits y).length = 5 := by rw [List.length_append, r2]; omega
  refine ⟨all_append' r1 h.a, ?_, by omega, Or.inl hlen⟩
  rw [valA_append, val_zeros r3, h.v]
theorem tfmt1_val {g : List UInt8} {n : Nat} (hg : g.length ≤ 1) (hn : n ≤ 2147483648) : token_Format.p1 (n : Int) (ofB g) = some (ofB (fmtL g n)) := by
  rw [token_Format.p1.F_eq]
  unfold token_Format.p1.F0 fmtL
  have e1 : ((n : Int)).tdiv 65536 = ((n / 65536 : Nat) : Int) := by rw [Int.tdiv_eq_ediv_of_nonneg (by omega)]; omega
  have e2 : ((n : Int)).tmod 65536 = ((n % 65536 : Nat) : Int) := by rw [Int.tmod_eq_emod_of_nonneg (by omega)]; omega
  have hf : n % 65536 < 65536 := Nat.mod_lt _ (by decide)
  have hw := (decD_ok (n / 65536 + 1) (n / 65536) (Nat.lt_succ_self _)).len (m := 5) (by decide) (by omega)
  rw [e1, e2, w64 (n := ((n / 65536 : Nat) : Int)) (by omega) (by omega), fint_val (by omega)]
  rw [show ((65536 : Int) != 0) = true from rfl, show ((131072 : Int) != 0) = true from rfl]
  simp only [Option.bind_some, cond_true]
  rw [cat_ok (by rw [szB, szB]; omega)]
  simp only [cond_true, catB]
  generalize n % 65536 = f at *
  generalize n / 65536 = w at *
  by_cases h0 : f = 0
  · subst h0
    rfl
  · rw [if_neg h0, bif_neq (by omega)]
    have hy := fr_bound hf
    have e3 : (2 * (f : Int)) * 100000 + 65536 = ((2 * f * 100000 + 65536 : Nat) : Int) := by omega
    rw [w64 (n := 2 * (f : Int)) (by omega) (by omega), w64 (n := 2 * (f : Int) * 100000) (by omega) (by omega), w64 (n := 2 * (f : Int) * 100000 + 65536) (by omega) (by omega), e3]
    have e4 : (((2 * f * 100000 + 65536 : Nat) : Int)).tdiv 131072 = (((2 * f * 100000 + 65536) / 131072 : Nat) : Int) := by rw [Int.tdiv_eq_ediv_of_nonneg (by omega)]; omega
    rw [e4]
    generalize (2 * f * 100000 + 65536) / 131072 = y at *
    have hp := pad_ok hy
    have hl := (decD_ok (y + 1) y (Nat.lt_succ_self _)).len (m := 5) (by decide) hy
    rw [w64 (n := (y : Int)) (by omega) (by omega), fint_val (by omega)]
    simp only [Option.bind_some, szB]
    have e5 : (5 : Int) - ((Lib.decDigits y).length : Int) = ((5 - (Lib.decDigits y).length : Nat) : Int) := by omega
    rw [w64 (n := (5 : Int) - ((Lib.decDigits y).length : Int)) (by omega) (by omega), e5]
    have hrep : libRepeat.F (⟨#[48]⟩ : ByteArray) ((5 - (Lib.decDigits y).length : Nat) : Int) = some (ofB (Lib.repeatL [48] (5 - (Lib.decDigits y).length))) := by
      rw [libRepeat.F_eq]
      unfold libRepeat.F0
      have hs : (⟨#[48]⟩ : ByteArray).size = 1 := rfl
      rw [if_pos ⟨by omega, by omega, by rw [hs, Int.toNat_natCast]; omega⟩, Int.toNat_natCast]
    rw [hrep]
    simp only [Option.bind_some]
    have hrl := (rep_all (5 - (Lib.decDigits y).length)).2.1
    have hpl : (Lib.repeatL [48] (5 - (Lib.decDigits y).length) ++ Lib.decDigits y).length = 5 := by rw [List.length_append, hrl]; omega
    rw [cat_ok (by rw [szB, szB]; omega)]
    simp only [cond_true, catB]
    have s46 : (⟨#[46]⟩ : ByteArray) = ofB [46] := rfl
    rw [s46, cat_ok (by rw [szB, szB, List.length_append, List.length_cons, List.length_nil]; omega)]
    simp only [cond_true, catB]
    generalize Lib.repeatL [48] (5 - (Lib.decDigits y).length) ++ Lib.decDigits y = t at *
    have htr : libTrimRight.F (ofB t) (⟨#[48]⟩ : ByteArray) = some (ofB (Lib.trimRightB t 48)) := by
      rw [libTrimRight.F_eq]
      unfold libTrimRight.F0
      show (if (48 : UInt8).toNat < 128 ∧ (ofB t).size ≤ 9223372036854775807 then some (ofB (Lib.trimRightB t 48)) else none) = _
      rw [if_pos ⟨by decide, by rw [szB]; omega⟩]
    rw [htr]
    simp only [Option.bind_some]
    have hz : (Lib.trimRightB t 48).length ≤ t.length := by
      obtain ⟨z, h1, _⟩ := trim_parts t
      have := congrArg List.length h1
      rw [List.length_append] at this
      omega
    rw [cat_ok (by rw [szB, szB, List.length_append, List.length_append, List.length_cons, List.length_nil]; omega)]
    simp only [cond_true]
    rw [catB]
    congr 2
    rw [List.append_assoc]
    rfl
theorem rfmt1_val {g : List UInt8} {n : Nat} (hg : g.length ≤ 1) (hn : n ≤ 2147483648) : armplanref6_Format.p1 (n : Int) (ofB g) = some (ofB (fmtL g n)) := by
  rw [armplanref6_Format.p1.F_eq]
  unfold armplanref6_Format.p1.F0 fmtL
  have e1 : ((n : Int)).tdiv 65536 = ((n / 65536 : Nat) : Int) := by rw [Int.tdiv_eq_ediv_of_nonneg (by omega)]; omega
  have e2 : ((n : Int)).tmod 65536 = ((n % 65536 : Nat) : Int) := by rw [Int.tmod_eq_emod_of_nonneg (by omega)]; omega
  have hf : n % 65536 < 65536 := Nat.mod_lt _ (by decide)
  have hd := decD_ok (n / 65536 + 1) (n / 65536) (Nat.lt_succ_self _)
  have hw := hd.len (m := 5) (by decide) (by omega)
  obtain ⟨r, hr, hdec⟩ := dec2_val (n := n / 65536) (k := 1) (m := 5) (by decide) (by decide) (by omega)
  obtain rfl := DigOk.uniq (Nat.le_refl 1) hr hd
  rw [e1, e2, w64 (n := ((n / 65536 : Nat) : Int)) (by omega) (by omega), show (1 : Int) = ((1 : Nat) : Int) from rfl, hdec]
  rw [show ((65536 : Int) != 0) = true from rfl, show ((131072 : Int) != 0) = true from rfl]
  simp only [Option.bind_some, cond_true]
  rw [cat_ok (by rw [szB, szB]; omega)]
  simp only [cond_true, catB]
  generalize n % 65536 = f at *
  generalize n / 65536 = w at *
  by_cases h0 : f = 0
  · subst h0
    rfl
  · rw [if_neg h0, bif_neq (by omega)]
    have hy := fr_bound hf
    have hy1 : 1 ≤ (2 * f * 100000 + 65536) / 131072 := by omega
    have e3 : (2 * (f : Int)) * 100000 + 65536 = ((2 * f * 100000 + 65536 : Nat) : Int) := by omega
    rw [w64 (n := 2 * (f : Int)) (by omega) (by omega), w64 (n := 2 * (f : Int) * 100000) (by omega) (by omega), w64 (n := 2 * (f : Int) * 100000 + 65536) (by omega) (by omega), e3]
    have e4 : (((2 * f * 100000 + 65536 : Nat) : Int)).tdiv 131072 = (((2 * f * 100000 + 65536) / 131072 : Nat) : Int) := by rw [Int.tdiv_eq_ediv_of_nonneg (by omega)]; omega
    rw [e4]
    generalize (2 * f * 100000 + 65536) / 131072 = y at *
    have hp := pad_ok hy
    obtain ⟨t, ht, hdec2⟩ := dec2_val (n := y) (k := 5) (m := 5) (by decide) (by decide) hy
    obtain rfl := DigOk.uniq (by decide) ht hp
    rw [w64 (n := (y : Int)) (by omega) (by omega), show (5 : Int) = ((5 : Nat) : Int) from rfl, hdec2]
    simp only [Option.bind_some]
    have hpl := ht.len (m := 5) (by decide) hy
    generalize Lib.repeatL [48] (5 - (Lib.decDigits y).length) ++ Lib.decDigits y = t at *
    have hloop := trim_loop (s := ofB (g ++ Lib.decDigits w)) t.reverse (by rw [List.length_reverse]; omega) (Classical.byContradiction fun hno => by
      have hz : valA 0 t = 0 := val_zeros fun c hc => Classical.byContradiction fun h => hno ⟨c, List.mem_reverse.2 hc, h⟩
      rw [ht.v] at hz
      omega)
    rw [List.reverse_reverse] at hloop
    rw [hloop]
    simp only [Option.bind_some]
    have hz : (Lib.trimRightB t 48).length ≤ t.length := by
      obtain ⟨z, h1, _⟩ := trim_parts t
      have := congrArg List.length h1
      rw [List.length_append] at this
      omega
    have hz2 : ofB (t.reverse.dropWhile (· == 48)).reverse = ofB (Lib.trimRightB t 48) := rfl
    have s46 : (⟨#[46]⟩ : ByteArray) = ofB [46] := rfl
    rw [hz2, s46, cat_ok (by rw [szB, szB, List.length_append, List.length_cons, List.length_nil]; omega)]
    simp only [cond_true, catB]
    rw [cat_ok (by rw [szB, szB, List.length_append, List.length_append, List.length_cons, List.length_nil]; omega)]
    simp only [cond_true]
    congr 2
    rw [List.append_assoc]
    rfl
end Go.Abs
