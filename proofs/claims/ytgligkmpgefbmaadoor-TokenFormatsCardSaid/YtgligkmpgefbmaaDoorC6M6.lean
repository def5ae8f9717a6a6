/- A part of the proof that the text with the row names: printed readings of functions, or plain lemmas about them. -/
import Derived.Test.YtgligkmpgefbmaaDoorC6M5
set_option linter.unusedVariables false
set_option linter.unusedSimpArgs false
namespace Go.Abs
open Go Go.Proofs

/-! ### Bytes as lists -/
theorem ofB_id (s : ByteArray) : ofB s.data.toList = s := rfl
theorem szB (l : List UInt8) : (ofB l).size = l.length := rfl
theorem ofB_of {s : ByteArray} {l : List UInt8} (h : s.data.toList = l) : s = ofB l := by rw [← h, ofB_id]
theorem exL (l : List UInt8) (p q : Nat) : (ofB l).extract p q = ofB ((l.drop p).take (q - p)) := by
  refine ofB_of ?_
  rw [ByteArray.data_extract, Array.toList_extract, List.extract_eq_take_drop]
theorem exB (l : List UInt8) (p : Nat) : (ofB l).extract p l.length = ofB (l.drop p) := by
  rw [exL, List.take_of_length_le (by rw [List.length_drop]; exact Nat.le_refl _)]
theorem exT (l : List UInt8) (q : Nat) : (ofB l).extract 0 q = ofB (l.take q) := by
  rw [exL, List.drop_zero, Nat.sub_zero]
theorem catB (a b : List UInt8) : ofB a ++ ofB b = ofB (a ++ b) := ofB_of ByteArray.toList_data_append
theorem btB (l : List UInt8) (i : Nat) : btI (ofB l) (i : Int) = ((l.getD i 0).toNat : Int) := by
  unfold btI
  rw [Int.toNat_natCast, Array.getD_eq_getD_getElem?, List.getD_eq_getElem?_getD]
  show (((l.toArray)[i]?.getD 0).toNat : Int) = _
  rw [List.getElem?_toArray]
theorem drop_getD {l : List UInt8} {i : Nat} (h : i < l.length) : l.drop i = l.getD i 0 :: l.drop (i + 1) := by
  rw [List.drop_eq_getElem_cons h, List.getD_eq_getElem?_getD, List.getElem?_eq_getElem h]
  rfl
theorem all_drop {f : UInt8 → Bool} {l : List UInt8} : ∀ (d i : Nat), i + d = l.length → allB (fun j => f (l.getD j 0)) i d = (l.drop i).all f
  | 0, i, h => by rw [List.drop_eq_nil_of_le (by omega)]; rfl
  | d + 1, i, h => by
    rw [drop_getD (by omega), List.all_cons, ← all_drop d (i + 1) (by omega)]
    rfl

def dig (c : UInt8) : Bool := decide (48 ≤ c.toNat ∧ c.toNat ≤ 57)
theorem dig_iff {c : UInt8} : dig c = true ↔ 48 ≤ c.toNat ∧ c.toNat ≤ 57 := by unfold dig; exact decide_eq_true_iff
/-- What digits spell behind a number. -/
def dv6 (a : Nat) (c : UInt8) : Nat := a * 10 + (c.toNat - 48)
theorem dv6_eq (a : Nat) (c : UInt8) : dv6 a c = a * 10 + (c.toNat - 48) := by unfold dv6; rfl
attribute [irreducible] dv6
def valA (a : Nat) (l : List UInt8) : Nat := l.foldl dv6 a
theorem valA_nil (a : Nat) : valA a [] = a := rfl
theorem valA_cons (a : Nat) (c : UInt8) (r : List UInt8) : valA a (c :: r) = valA (a * 10 + (c.toNat - 48)) r := by
  rw [← dv6_eq]
  rfl
theorem valA_append : ∀ (l m : List UInt8) (a : Nat), valA a (l ++ m) = valA (valA a l) m
  | [], m, a => rfl
  | c :: l, m, a => by rw [List.cons_append, valA_cons, valA_cons]; exact valA_append l m _
theorem valA_eq : ∀ (l : List UInt8) (a : Nat), valA a l = a * 10 ^ l.length + valA 0 l
  | [], a => by rw [valA_nil, valA_nil, List.length_nil, Nat.pow_zero, Nat.mul_one, Nat.add_zero]
  | c :: l, a => by
    have h1 := valA_eq l (a * 10 + (c.toNat - 48))
    have h2 := valA_eq l (c.toNat - 48)
    simp only [valA_cons, List.length_cons, Nat.zero_mul, Nat.zero_add]
    generalize c.toNat - 48 = d at *
    generalize valA 0 l = v at *
    rw [h1, h2, Nat.pow_succ]
    generalize 10 ^ l.length = p at *
    rw [Nat.add_mul, Nat.mul_assoc, Nat.mul_comm 10 p, Nat.add_assoc]
theorem valA_lt : ∀ {l : List UInt8}, l.all dig = true → valA 0 l < 10 ^ l.length
  | [], _ => by decide
  | c :: l, h => by
    rw [List.all_cons, Bool.and_eq_true] at h
    have h1 := valA_lt h.2
    have h2 := dig_iff.1 h.1
    have h3 := valA_eq l (c.toNat - 48)
    simp only [valA_cons, List.length_cons, Nat.zero_mul, Nat.zero_add]
    rw [h3, Nat.pow_succ]
    generalize 10 ^ l.length = p at *
    have : (c.toNat - 48) * p ≤ 9 * p := Nat.mul_le_mul_right _ (by omega)
    omega

/-! ### Signs -/
def stripL : List UInt8 → List UInt8
  | [] => []
  | c :: r => if c = 45 then r else c :: r
def negL : List UInt8 → Bool
  | [] => false
  | c :: _ => decide (c = 45)
theorem stripL_len (l : List UInt8) : (stripL l).length ≤ l.length := by
  cases l with
  | nil => exact Nat.le_refl _
  | cons c r =>
    simp only [stripL]
    split
    · rw [List.length_cons]; omega
    · exact Nat.le_refl _
theorem cutp_val (l : List UInt8) : libCutPrefix.F (ofB l) ⟨#[45]⟩ = some (ofB (stripL l), negL l) := by
  rw [libCutPrefix.F_eq]
  unfold libCutPrefix.F0 Lib.trimPrefix Lib.hasPrefix
  show some (ofB (if ([45] : List UInt8).isPrefixOf l = true then l.drop 1 else l), ([45] : List UInt8).isPrefixOf l) = _
  cases l with
  | nil => rfl
  | cons c r =>
    simp only [List.isPrefixOf, Bool.and_true, stripL, negL, List.drop_one, List.tail_cons]
    by_cases h : c = 45
    · subst h
      rfl
    · have h2 : ((45 : UInt8) == c) = false := beq_false_of_ne fun e => h e.symm
      rw [h2, if_neg (by simp), if_neg h, decide_eq_false h]
theorem bt0 (c : UInt8) (r : List UInt8) : btI (ofB (c :: r)) 0 = (c.toNat : Int) := rfl
theorem u8_eq {c : UInt8} {n : Nat} (hn : n < 256) : c = UInt8.ofNat n ↔ c.toNat = n := by
  constructor
  · intro h; subst h; simp only [UInt8.toNat_ofNat']; omega
  · intro h; apply UInt8.toNat_inj.1; simp only [UInt8.toNat_ofNat']; omega
theorem sign_val (l : List UInt8) (hl : l.length ≤ 2 ^ 60) : armplanref6_sign.F (ofB l) = some (ofB (stripL l), negL l) := by
  rw [armplanref6_sign.F_eq]
  unfold armplanref6_sign.F0
  cases l with
  | nil => rfl
  | cons c r =>
    simp only [szB, exB, bt0, List.length_cons, stripL, negL]
    simp only [List.length_cons] at hl
    have hx : (ofB (c :: r)).extract 1 (r.length + 1) = ofB r := exB (c :: r) 1
    by_cases h : c = 45
    · subst h
      simp (disch := omega) only [dif_dec, dif_ndec, bif_eq, bif_neq, bif_ne, bif_nne, w64, wu64, Int.toNat_natCast, Option.bind_some, cond_true, cond_false, Bool.not_true, Bool.not_false, Sum.elim_inl, Sum.elim_inr, hx]
      rfl
    · have h2 : ¬ ((c.toNat : Int) = 45) := by
        intro e
        exact h ((u8_eq (n := 45) (by decide)).2 (by omega))
      rw [if_neg h, decide_eq_false h]
      simp (disch := omega) only [dif_dec, dif_ndec, bif_eq, bif_neq, bif_ne, bif_nne, w64, wu64, Int.toNat_natCast, Option.bind_some, cond_true, cond_false, Bool.not_true, Bool.not_false, Sum.elim_inl, Sum.elim_inr]

/-! ### Digits -/
theorem tdig_loop (l : List UInt8) (m : Int) : loopF token_digits.p0.step (ofB l, m, ofB l, (0 : Int)) = some (bif l.all dig then .inr (ofB l, m) else .inl false) := by
  have h := loop_find (step := token_digits.p0.step) (fun i : Nat => (ofB l, m, ofB l, (i : Int))) l.length (fun i => bif dig (l.getD i 0) then none else some (.inl false)) (.inr (ofB l, m)) (by
    intro i hi
    unfold token_digits.p0.step token_digits.p0.round
    simp only [szB]
    have e1 : ((i : Int) + 1) = ((i + 1 : Nat) : Int) := by omega
    have hb := btB l i
    by_cases ha : btI (ofB l) (i : Int) < 128
    · obtain ⟨hc, hw⟩ := rn_ascii ha
      rw [hc, hw, hb]
      cases hd : dig (l.getD i 0) with
      | true =>
        have := dig_iff.1 hd
        simp (disch := omega) only [dif_dec, dif_ndec, bif_eq, bif_neq, bif_ne, bif_nne, w64, wu64, Int.toNat_natCast, Option.bind_some, cond_true, cond_false, Bool.not_true, Bool.not_false, Sum.elim_inl, Sum.elim_inr, e1]
      | false =>
        have : ¬ (48 ≤ (l.getD i 0).toNat ∧ (l.getD i 0).toNat ≤ 57) := fun e => by rw [dig_iff.2 e] at hd; cases hd
        by_cases h1 : ((l.getD i 0).toNat : Int) < 48
        · simp (disch := omega) only [dif_dec, dif_ndec, bif_eq, bif_neq, bif_ne, bif_nne, w64, wu64, Int.toNat_natCast, Option.bind_some, cond_true, cond_false, Bool.not_true, Bool.not_false, Sum.elim_inl, Sum.elim_inr]
        · simp (disch := omega) only [dif_dec, dif_ndec, bif_eq, bif_neq, bif_ne, bif_nne, w64, wu64, Int.toNat_natCast, Option.bind_some, cond_true, cond_false, Bool.not_true, Bool.not_false, Sum.elim_inl, Sum.elim_inr]
    · have hc := rn_high ha
      cases hd : dig (l.getD i 0) with
      | true => have := dig_iff.1 hd; omega
      | false =>
        generalize rnC (ofB l) (i : Int) = c at *
        simp (disch := omega) only [dif_dec, dif_ndec, bif_eq, bif_neq, bif_ne, bif_nne, w64, wu64, Int.toNat_natCast, Option.bind_some, cond_true, cond_false, Bool.not_true, Bool.not_false, Sum.elim_inl, Sum.elim_inr]) (by
    unfold token_digits.p0.step token_digits.p0.round
    simp only [szB]
    simp (disch := omega) only [dif_dec, dif_ndec, bif_eq, bif_neq, bif_ne, bif_nne, w64, wu64, Int.toNat_natCast, Option.bind_some, cond_true, cond_false, Bool.not_true, Bool.not_false, Sum.elim_inl, Sum.elim_inr]) l.length 0 (by omega)
  rw [show ((0 : Nat) : Int) = 0 from rfl] at h
  rw [h, findE_all (fun j _ _ => rfl), all_drop l.length 0 (by omega), List.drop_zero]
theorem tdig_val (l : List UInt8) (m : Int) : token_digits.F (ofB l) m = some (l.all dig && (decide (1 ≤ l.length) && decide ((l.length : Int) ≤ m))) := by
  rw [token_digits.F_eq]
  unfold token_digits.F0
  rw [tdig_loop]
  cases ha : l.all dig with
  | false => simp (disch := omega) only [dif_dec, dif_ndec, bif_eq, bif_neq, bif_ne, bif_nne, w64, wu64, Int.toNat_natCast, Option.bind_some, cond_true, cond_false, Bool.not_true, Bool.not_false, Sum.elim_inl, Sum.elim_inr, Bool.false_and]
  | true =>
    simp only [Option.bind_some, cond_true, Sum.elim_inr, szB, Bool.true_and]
    by_cases h1 : 1 ≤ l.length
    · simp (disch := omega) only [dif_dec, dif_ndec, bif_eq, bif_neq, bif_ne, bif_nne, w64, wu64, Int.toNat_natCast, Option.bind_some, cond_true, cond_false, Bool.not_true, Bool.not_false, Sum.elim_inl, Sum.elim_inr, decide_eq_true h1, Bool.true_and]
    · simp (disch := omega) only [dif_dec, dif_ndec, bif_eq, bif_neq, bif_ne, bif_nne, w64, wu64, Int.toNat_natCast, Option.bind_some, cond_true, cond_false, Bool.not_true, Bool.not_false, Sum.elim_inl, Sum.elim_inr, decide_eq_false h1, Bool.false_and]

/-- The value of the first fifteen digits. -/
def valN : Nat → Nat → List UInt8 → Nat
  | _, a, [] => a
  | n, a, c :: r => valN (n + 1) (if n < 15 then dv6 a c else a) r
theorem valN_eq : ∀ (l : List UInt8) (n a : Nat), n + l.length ≤ 15 → valN n a l = valA a l
  | [], _, _, _ => rfl
  | c :: l, n, a, h => by
    rw [List.length_cons] at h
    rw [valA_cons]
    simp only [valN, dv6_eq]
    rw [if_pos (by omega)]
    exact valN_eq l (n + 1) _ (by omega)
theorem rdig_loop (l : List UInt8) (hl : l.length ≤ 2 ^ 60) : ∀ (d i v : Nat), i + d = l.length → v < 10 ^ (min i 15) →
    loopF armplanref6_digits.p0.step (ofB l, (i : Int), (v : Int)) = some (((i + ((l.drop i).takeWhile dig).length : Nat) : Int), (valN i v ((l.drop i).takeWhile dig) : Int))
  | 0, i, v, h, _ => by
    rw [List.drop_eq_nil_of_le (by omega)]
    refine loop_end ?_
    unfold armplanref6_digits.p0.step armplanref6_digits.p0.round
    simp only [szB, List.takeWhile_nil, List.length_nil, Nat.add_zero, valN]
    simp (disch := omega) only [dif_dec, dif_ndec, bif_eq, bif_neq, bif_ne, bif_nne, w64, wu64, Int.toNat_natCast, Option.bind_some, cond_true, cond_false, Bool.not_true, Bool.not_false, Sum.elim_inl, Sum.elim_inr]
  | d + 1, i, v, h, hv => by
    have hb := btB l i
    have hlt : i < l.length := by omega
    have hv15 : v < 1000000000000000 := Nat.lt_of_lt_of_le hv (by
      have : 10 ^ (min i 15) ≤ 10 ^ 15 := Nat.pow_le_pow_right (by decide) (by omega)
      omega)
    rw [drop_getD hlt, List.takeWhile_cons]
    cases hd : dig (l.getD i 0) with
    | true =>
      have hc := dig_iff.1 hd
      simp only [if_true, List.length_cons, valN, dv6_eq]
      have ih := rdig_loop l hl d (i + 1) (if i < 15 then v * 10 + ((l.getD i 0).toNat - 48) else v) (by omega) (by
        split
        · rw [show min (i + 1) 15 = i + 1 by omega, Nat.pow_succ]
          rw [show min i 15 = i by omega] at hv
          omega
        · rw [show min (i + 1) 15 = min i 15 by omega]; exact hv)
      rw [show i + 1 + ((l.drop (i + 1)).takeWhile dig).length = i + (((l.drop (i + 1)).takeWhile dig).length + 1) by omega] at ih
      rw [loopF_eq, ← ih]
      have hstep : armplanref6_digits.p0.step (ofB l, (i : Int), (v : Int)) = some (.inl (ofB l, ((i + 1 : Nat) : Int), ((if i < 15 then v * 10 + ((l.getD i 0).toNat - 48) else v : Nat) : Int))) := by
        unfold armplanref6_digits.p0.step armplanref6_digits.p0.round
        simp only [szB, hb]
        have e1 : ((i : Int) + 1) = ((i + 1 : Nat) : Int) := by omega
        generalize (l.getD i 0).toNat = c at *
        by_cases h15 : i < 15
        · have e2 : (10 * (v : Int) + ((c : Int) - 48)) = ((v * 10 + (c - 48) : Nat) : Int) := by omega
          rw [if_pos h15]
          simp (disch := omega) only [dif_dec, dif_ndec, bif_eq, bif_neq, bif_ne, bif_nne, w64, wu64, Int.toNat_natCast, Option.bind_some, cond_true, cond_false, Bool.not_true, Bool.not_false, Sum.elim_inl, Sum.elim_inr, wu8, e1, e2]
        · rw [if_neg h15]
          simp (disch := omega) only [dif_dec, dif_ndec, bif_eq, bif_neq, bif_ne, bif_nne, w64, wu64, Int.toNat_natCast, Option.bind_some, cond_true, cond_false, Bool.not_true, Bool.not_false, Sum.elim_inl, Sum.elim_inr, e1]
      rw [hstep]
    | false =>
      have hc : ¬ (48 ≤ (l.getD i 0).toNat ∧ (l.getD i 0).toNat ≤ 57) := fun e => by rw [dig_iff.2 e] at hd; cases hd
      simp only [Bool.false_eq_true, if_false, List.length_nil, Nat.add_zero, valN]
      refine loop_end ?_
      unfold armplanref6_digits.p0.step armplanref6_digits.p0.round
      simp only [szB, hb]
      generalize (l.getD i 0).toNat = c at *
      by_cases h1 : (c : Int) ≥ 48
      · simp (disch := omega) only [dif_dec, dif_ndec, bif_eq, bif_neq, bif_ne, bif_nne, w64, wu64, Int.toNat_natCast, Option.bind_some, cond_true, cond_false, Bool.not_true, Bool.not_false, Sum.elim_inl, Sum.elim_inr]
      · simp (disch := omega) only [dif_dec, dif_ndec, bif_eq, bif_neq, bif_ne, bif_nne, w64, wu64, Int.toNat_natCast, Option.bind_some, cond_true, cond_false, Bool.not_true, Bool.not_false, Sum.elim_inl, Sum.elim_inr]
theorem rdig_val (l : List UInt8) (hl : l.length ≤ 2 ^ 60) : armplanref6_digits.F (ofB l) = some (((l.takeWhile dig).length : Int), (valN 0 0 (l.takeWhile dig) : Int)) := by
  rw [armplanref6_digits.F_eq]
  unfold armplanref6_digits.F0
  have h := rdig_loop l hl l.length 0 0 (by omega) (by decide)
  rw [List.drop_zero, Nat.zero_add, show ((0 : Nat) : Int) = 0 from rfl] at h
  rw [h]
  rfl

/-! ### strconv.ParseInt of digits -/
theorem parseM_val : ∀ (l : List UInt8) (k a : Nat), l.all dig = true → a < 10 ^ k → k + l.length ≤ 18 → Lib.parseUintM (2 ^ 64 - 1) a l = .ok (valA a l)
  | [], _, _, _, _, _ => rfl
  | c :: l, k, a, h, ha, hk => by
    rw [List.all_cons, Bool.and_eq_true] at h
    rw [List.length_cons] at hk
    have hc := dig_iff.1 h.1
    have h17 : 10 ^ k ≤ 10 ^ 17 := Nat.pow_le_pow_right (by decide) (by omega)
    rw [valA_cons]
    simp only [Lib.parseUintM]
    rw [if_pos hc, if_neg (by omega), if_neg (by omega)]
    refine parseM_val l (k + 1) _ h.2 ?_ (by omega)
    rw [Nat.pow_succ]
    omega
theorem parse_val {l : List UInt8} (h : l.all dig = true) (h1 : 1 ≤ l.length) (h2 : l.length ≤ 18) : libParseInt.F (ofB l) 10 64 = some (valA 0 l : Int) := by
  rw [libParseInt.F_eq]
  unfold libParseInt.F0
  rw [if_pos ⟨rfl, rfl, by rw [szB]; omega⟩]
  show (match Lib.parseIntB 64 l with | .ok v => some v | _ => none) = _
  have hlt := valA_lt h
  have h18 : 10 ^ l.length ≤ 10 ^ 18 := Nat.pow_le_pow_right (by decide) h2
  cases l with
  | nil => exact absurd h1 (by decide)
  | cons c r =>
    have hc := dig_iff.1 (by rw [List.all_cons, Bool.and_eq_true] at h; exact h.1)
    have hu : Lib.parseUintB 64 (c :: r) = .ok (valA 0 (c :: r)) := by
      unfold Lib.parseUintB
      rw [if_neg (by simp)]
      exact parseM_val _ 0 0 h (by decide) (by omega)
    unfold Lib.parseIntB
    simp only []
    rw [if_neg (by omega), hu]
    simp only []
    rw [if_neg (by omega), if_neg (by omega), if_neg (by omega)]
theorem signed_val {n : Int} {b : Bool} (h : -(2 ^ 60) ≤ n) (h2 : n ≤ 2 ^ 60) : token_signed.F n b = some (bif b then -n else n) := by
  rw [token_signed.F_eq]
  unfold token_signed.F0
  cases b with
  | true => simp (disch := omega) only [dif_dec, dif_ndec, bif_eq, bif_neq, bif_ne, bif_nne, w64, wu64, Int.toNat_natCast, Option.bind_some, cond_true, cond_false, Bool.not_true, Bool.not_false, Sum.elim_inl, Sum.elim_inr, Int.zero_sub]
  | false => rfl

/-! ### Integer -/
def intV (l : List UInt8) : Int × Bool :=
  if (stripL l).all dig = true ∧ 1 ≤ (stripL l).length ∧ (stripL l).length ≤ 15 then (bif negL l then -(valA 0 (stripL l) : Int) else valA 0 (stripL l), true) else (0, false)
theorem tint_val (l : List UInt8) : token_Integer.F (ofB l) = some (intV l) := by
  rw [token_Integer.F_eq]
  unfold token_Integer.F0 intV
  rw [cutp_val]
  simp only [Option.bind_some]
  rw [tdig_val]
  simp only [Option.bind_some]
  by_cases h : (stripL l).all dig = true ∧ 1 ≤ (stripL l).length ∧ (stripL l).length ≤ 15
  · have hlt := valA_lt h.1
    have h15 : 10 ^ (stripL l).length ≤ 10 ^ 15 := Nat.pow_le_pow_right (by decide) h.2.2
    rw [if_pos h, h.1, decide_eq_true h.2.1, decide_eq_true (show ((stripL l).length : Int) ≤ 15 by omega)]
    simp only [Bool.true_and, Bool.not_true, cond_false]
    rw [parse_val h.1 h.2.1 (by omega)]
    simp only [Option.bind_some]
    rw [signed_val (by omega) (by omega)]
    rfl
  · have hf : ((stripL l).all dig && (decide (1 ≤ (stripL l).length) && decide (((stripL l).length : Int) ≤ 15))) = false := by
      rw [Bool.eq_false_iff]
      intro e
      simp only [Bool.and_eq_true, decide_eq_true_eq] at e
      exact h ⟨e.1, e.2.1, by omega⟩
    rw [if_neg h, hf]
    rfl
theorem tw_all {f : UInt8 → Bool} : ∀ {l : List UInt8}, (l.takeWhile f).length = l.length ↔ l.all f = true
  | [] => by simp
  | c :: l => by
    rw [List.takeWhile_cons, List.all_cons]
    cases hc : f c with
    | true =>
      simp only [if_true, List.length_cons, Bool.true_and]
      rw [← tw_all (l := l)]
      omega
    | false => simp
theorem tw_eq {f : UInt8 → Bool} : ∀ {l : List UInt8}, l.all f = true → l.takeWhile f = l
  | [], _ => rfl
  | c :: l, h => by
    rw [List.all_cons, Bool.and_eq_true] at h
    rw [List.takeWhile_cons, h.1, if_pos rfl, tw_eq h.2]
theorem tw_le {f : UInt8 → Bool} : ∀ (l : List UInt8), (l.takeWhile f).length ≤ l.length
  | [] => Nat.le_refl _
  | c :: l => by
    rw [List.takeWhile_cons]
    split
    · rw [List.length_cons, List.length_cons]; have := tw_le (f := f) l; omega
    · rw [List.length_nil]; omega
theorem rint_val (l : List UInt8) (hl : l.length ≤ 2 ^ 60) : armplanref6_Integer.F (ofB l) = some (intV l) := by
  rw [armplanref6_Integer.F_eq]
  unfold armplanref6_Integer.F0 intV
  have hs := stripL_len l
  rw [sign_val l hl]
  simp only [Option.bind_some]
  rw [rdig_val _ (by omega)]
  simp only [Option.bind_some, szB]
  have hle := tw_le (f := dig) (stripL l)
  by_cases ha : (stripL l).all dig = true
  · rw [tw_eq ha]
    by_cases h1 : 1 ≤ (stripL l).length
    · by_cases h15 : (stripL l).length ≤ 15
      · have hlt := valA_lt ha
        have hp : 10 ^ (stripL l).length ≤ 10 ^ 15 := Nat.pow_le_pow_right (by decide) h15
        rw [if_pos ⟨ha, h1, h15⟩, valN_eq _ _ _ (by omega)]
        cases negL l with
        | true => simp (disch := omega) only [dif_dec, dif_ndec, bif_eq, bif_neq, bif_ne, bif_nne, w64, wu64, Int.toNat_natCast, Option.bind_some, cond_true, cond_false, Bool.not_true, Bool.not_false, Sum.elim_inl, Sum.elim_inr, Int.zero_sub]
        | false => simp (disch := omega) only [dif_dec, dif_ndec, bif_eq, bif_neq, bif_ne, bif_nne, w64, wu64, Int.toNat_natCast, Option.bind_some, cond_true, cond_false, Bool.not_true, Bool.not_false, Sum.elim_inl, Sum.elim_inr]
      · rw [if_neg (by omega)]
        simp (disch := omega) only [dif_dec, dif_ndec, bif_eq, bif_neq, bif_ne, bif_nne, w64, wu64, Int.toNat_natCast, Option.bind_some, cond_true, cond_false, Bool.not_true, Bool.not_false, Sum.elim_inl, Sum.elim_inr]
    · rw [if_neg (by omega)]
      simp (disch := omega) only [dif_dec, dif_ndec, bif_eq, bif_neq, bif_ne, bif_nne, w64, wu64, Int.toNat_natCast, Option.bind_some, cond_true, cond_false, Bool.not_true, Bool.not_false, Sum.elim_inl, Sum.elim_inr]
  · have hne : (List.takeWhile dig (stripL l)).length ≠ (stripL l).length := fun e => ha (tw_all.1 e)
    rw [if_neg (fun e => ha e.1)]
    generalize (List.takeWhile dig (stripL l)).length = k at *
    by_cases h1 : (k : Int) < 1
    · simp (disch := omega) only [dif_dec, dif_ndec, bif_eq, bif_neq, bif_ne, bif_nne, w64, wu64, Int.toNat_natCast, Option.bind_some, cond_true, cond_false, Bool.not_true, Bool.not_false, Sum.elim_inl, Sum.elim_inr]
    · by_cases h15 : (k : Int) > 15
      · simp (disch := omega) only [dif_dec, dif_ndec, bif_eq, bif_neq, bif_ne, bif_nne, w64, wu64, Int.toNat_natCast, Option.bind_some, cond_true, cond_false, Bool.not_true, Bool.not_false, Sum.elim_inl, Sum.elim_inr]
      · simp (disch := omega) only [dif_dec, dif_ndec, bif_eq, bif_neq, bif_ne, bif_nne, w64, wu64, Int.toNat_natCast, Option.bind_some, cond_true, cond_false, Bool.not_true, Bool.not_false, Sum.elim_inl, Sum.elim_inr]
end Go.Abs
