/- A part of the proof that the text with the row names: printed readings of functions, or plain lemmas about them. -/
import Derived.Test.YtanopckddijfcaaGreatDoorC8YM1
set_option linter.unusedVariables false
set_option linter.unusedSimpArgs false
namespace Go.Abs
open Go Go.Proofs

theorem bsize_append (a b : ByteArray) : (a ++ b).size = a.size + b.size := ByteArray.size_append
theorem cat_ok {a b : ByteArray} (h : a.size + b.size ≤ 2 ^ 62) : catOk a b = true := by
  rw [catOk_eq]
  exact decide_eq_true (by omega)

/-! ### Bytes as lists -/
theorem ofB_id (s : ByteArray) : ofB s.data.toList = s := rfl
theorem szB (l : List UInt8) : (ofB l).size = l.length := rfl
theorem ofB_of {s : ByteArray} {l : List UInt8} (h : s.data.toList = l) : s = ofB l := by rw [← h, ofB_id]
theorem exL (l : List UInt8) (p q : Nat) : (ofB l).extract p q = ofB ((l.drop p).take (q - p)) := by
  refine ofB_of ?_
  rw [ByteArray.data_extract, Array.toList_extract, List.extract_eq_take_drop]
theorem exB (l : List UInt8) (p : Nat) : (ofB l).extract p l.length = ofB (l.drop p) := by
  rw [exL, List.take_of_length_le (by rw [List.length_drop]; exact Nat.le_refl _)]
theorem exT (l : List UInt8) (q : Nat) : (ofB l).extract 0 q = ofB (l.take q) := by
  rw [exL, List.drop_zero, Nat.sub_zero]
theorem catB (a b : List UInt8) : ofB a ++ ofB b = ofB (a ++ b) := ofB_of ByteArray.toList_data_append
theorem btB (l : List UInt8) (i : Nat) : btI (ofB l) (i : Int) = ((l.getD i 0).toNat : Int) := by
  unfold btI
  rw [Int.toNat_natCast, Array.getD_eq_getD_getElem?, List.getD_eq_getElem?_getD]
  show (((l.toArray)[i]?.getD 0).toNat : Int) = _
  rw [List.getElem?_toArray]
theorem drop_getD {l : List UInt8} {i : Nat} (h : i < l.length) : l.drop i = l.getD i 0 :: l.drop (i + 1) := by
  rw [List.drop_eq_getElem_cons h, List.getD_eq_getElem?_getD, List.getElem?_eq_getElem h]
  rfl
theorem all_drop {f : UInt8 → Bool} {l : List UInt8} : ∀ (d i : Nat), i + d = l.length → allB (fun j => f (l.getD j 0)) i d = (l.drop i).all f
  | 0, i, h => by rw [List.drop_eq_nil_of_le (by omega)]; rfl
  | d + 1, i, h => by
    rw [drop_getD (by omega), List.all_cons, ← all_drop d (i + 1) (by omega)]
    rfl

def dig (c : UInt8) : Bool := decide (48 ≤ c.toNat ∧ c.toNat ≤ 57)
theorem dig_iff {c : UInt8} : dig c = true ↔ 48 ≤ c.toNat ∧ c.toNat ≤ 57 := by unfold dig; exact decide_eq_true_iff
/-- What digits spell behind a number. -/
def dv6 (a : Nat) (c : UInt8) : Nat := a * 10 + (c.toNat - 48)
theorem dv6_eq (a : Nat) (c : UInt8) : dv6 a c = a * 10 + (c.toNat - 48) := by unfold dv6; rfl
attribute [irreducible] dv6
def valA (a : Nat) (l : List UInt8) : Nat := l.foldl dv6 a
theorem valA_nil (a : Nat) : valA a [] = a := rfl
theorem valA_cons (a : Nat) (c : UInt8) (r : List UInt8) : valA a (c :: r) = valA (a * 10 + (c.toNat - 48)) r := by
  rw [← dv6_eq]
  rfl
theorem valA_append : ∀ (l m : List UInt8) (a : Nat), valA a (l ++ m) = valA (valA a l) m
  | [], m, a => rfl
  | c :: l, m, a => by rw [List.cons_append, valA_cons, valA_cons]; exact valA_append l m _
theorem valA_eq : ∀ (l : List UInt8) (a : Nat), valA a l = a * 10 ^ l.length + valA 0 l
  | [], a => by rw [valA_nil, valA_nil, List.length_nil, Nat.pow_zero, Nat.mul_one, Nat.add_zero]
  | c :: l, a => by
    have h1 := valA_eq l (a * 10 + (c.toNat - 48))
    have h2 := valA_eq l (c.toNat - 48)
    simp only [valA_cons, List.length_cons, Nat.zero_mul, Nat.zero_add]
    generalize c.toNat - 48 = d at *
    generalize valA 0 l = v at *
    rw [h1, h2, Nat.pow_succ]
    generalize 10 ^ l.length = p at *
    rw [Nat.add_mul, Nat.mul_assoc, Nat.mul_comm 10 p, Nat.add_assoc]
theorem valA_lt : ∀ {l : List UInt8}, l.all dig = true → valA 0 l < 10 ^ l.length
  | [], _ => by decide
  | c :: l, h => by
    rw [List.all_cons, Bool.and_eq_true] at h
    have h1 := valA_lt h.2
    have h2 := dig_iff.1 h.1
    have h3 := valA_eq l (c.toNat - 48)
    simp only [valA_cons, List.length_cons, Nat.zero_mul, Nat.zero_add]
    rw [h3, Nat.pow_succ]
    generalize 10 ^ l.length = p at *
    have : (c.toNat - 48) * p ≤ 9 * p := Nat.mul_le_mul_right _ (by omega)
    omega

/-! ### Signs -/
def stripL : List UInt8 → List UInt8
  | [] => []
  | c :: r => if c = 45 then r else c :: r
def negL : List UInt8 → Bool
  | [] => false
  | c :: _ => decide (c = 45)
theorem stripL_len (l : List UInt8) : (stripL l).length ≤ l.length := by
  cases l with
  | nil => exact Nat.le_refl _
  | cons c r =>
    simp only [stripL]
    split
    · rw [List.length_cons]; omega
    · exact Nat.le_refl _
theorem cutp_val (l : List UInt8) : libCutPrefix.F (ofB l) ⟨#[45]⟩ = some (ofB (stripL l), negL l) := by
  rw [libCutPrefix.F_eq]
  unfold libCutPrefix.F0 Lib.trimPrefix Lib.hasPrefix
  show some (ofB (if ([45] : List UInt8).isPrefixOf l = true then l.drop 1 else l), ([45] : List UInt8).isPrefixOf l) = _
  cases l with
  | nil => rfl
  | cons c r =>
    simp only [List.isPrefixOf, Bool.and_true, stripL, negL, List.drop_one, List.tail_cons]
    by_cases h : c = 45
    · subst h
      rfl
    · have h2 : ((45 : UInt8) == c) = false := beq_false_of_ne fun e => h e.symm
      rw [h2, if_neg (by simp), if_neg h, decide_eq_false h]
theorem bt0 (c : UInt8) (r : List UInt8) : btI (ofB (c :: r)) 0 = (c.toNat : Int) := rfl
theorem u8_eq {c : UInt8} {n : Nat} (hn : n < 256) : c = UInt8.ofNat n ↔ c.toNat = n := by
  constructor
  · intro h; subst h; simp only [UInt8.toNat_ofNat']; omega
  · intro h; apply UInt8.toNat_inj.1; simp only [UInt8.toNat_ofNat']; omega
/-! ### Digits -/
theorem tdig_loop (l : List UInt8) (m : Int) : loopF token_digits.p0.step (ofB l, m, ofB l, (0 : Int)) = some (bif l.all dig then .inr (ofB l, m) else .inl false) := by
  have h := loop_find (step := token_digits.p0.step) (fun i : Nat => (ofB l, m, ofB l, (i : Int))) l.length (fun i => bif dig (l.getD i 0) then none else some (.inl false)) (.inr (ofB l, m)) (by
    intro i hi
    unfold token_digits.p0.step token_digits.p0.round
    simp only [szB]
    have e1 : ((i : Int) + 1) = ((i + 1 : Nat) : Int) := by omega
    have hb := btB l i
    by_cases ha : btI (ofB l) (i : Int) < 128
    · obtain ⟨hc, hw⟩ := rn_ascii ha
      rw [hc, hw, hb]
      cases hd : dig (l.getD i 0) with
      | true =>
        have := dig_iff.1 hd
        simp (disch := omega) only [dif_dec, dif_ndec, bif_eq, bif_neq, bif_ne, bif_nne, w64, wu64, Int.toNat_natCast, Option.bind_some, cond_true, cond_false, Bool.not_true, Bool.not_false, Sum.elim_inl, Sum.elim_inr, e1]
      | false =>
        have : ¬ (48 ≤ (l.getD i 0).toNat ∧ (l.getD i 0).toNat ≤ 57) := fun e => by rw [dig_iff.2 e] at hd; cases hd
        by_cases h1 : ((l.getD i 0).toNat : Int) < 48
        · simp (disch := omega) only [dif_dec, dif_ndec, bif_eq, bif_neq, bif_ne, bif_nne, w64, wu64, Int.toNat_natCast, Option.bind_some, cond_true, cond_false, Bool.not_true, Bool.not_false, Sum.elim_inl, Sum.elim_inr]
        · simp (disch := omega) only [dif_dec, dif_ndec, bif_eq, bif_neq, bif_ne, bif_nne, w64, wu64, Int.toNat_natCast, Option.bind_some, cond_true, cond_false, Bool.not_true, Bool.not_false, Sum.elim_inl, Sum.elim_inr]
    · have hc := rn_high ha
      cases hd : dig (l.getD i 0) with
      | true => have := dig_iff.1 hd; omega
      | false =>
        generalize rnC (ofB l) (i : Int) = c at *
        simp (disch := omega) only [dif_dec, dif_ndec, bif_eq, bif_neq, bif_ne, bif_nne, w64, wu64, Int.toNat_natCast, Option.bind_some, cond_true, cond_false, Bool.not_true, Bool.not_false, Sum.elim_inl, Sum.elim_inr]) (by
    unfold token_digits.p0.step token_digits.p0.round
    simp only [szB]
    simp (disch := omega) only [dif_dec, dif_ndec, bif_eq, bif_neq, bif_ne, bif_nne, w64, wu64, Int.toNat_natCast, Option.bind_some, cond_true, cond_false, Bool.not_true, Bool.not_false, Sum.elim_inl, Sum.elim_inr]) l.length 0 (by omega)
  rw [show ((0 : Nat) : Int) = 0 from rfl] at h
  rw [h, findE_all (fun j _ _ => rfl), all_drop l.length 0 (by omega), List.drop_zero]
theorem tdig_val (l : List UInt8) (m : Int) : token_digits.F (ofB l) m = some (l.all dig && (decide (1 ≤ l.length) && decide ((l.length : Int) ≤ m))) := by
  rw [token_digits.F_eq]
  unfold token_digits.F0
  rw [tdig_loop]
  cases ha : l.all dig with
  | false => simp (disch := omega) only [dif_dec, dif_ndec, bif_eq, bif_neq, bif_ne, bif_nne, w64, wu64, Int.toNat_natCast, Option.bind_some, cond_true, cond_false, Bool.not_true, Bool.not_false, Sum.elim_inl, Sum.elim_inr, Bool.false_and]
  | true =>
    simp only [Option.bind_some, cond_true, Sum.elim_inr, szB, Bool.true_and]
    by_cases h1 : 1 ≤ l.length
    · simp (disch := omega) only [dif_dec, dif_ndec, bif_eq, bif_neq, bif_ne, bif_nne, w64, wu64, Int.toNat_natCast, Option.bind_some, cond_true, cond_false, Bool.not_true, Bool.not_false, Sum.elim_inl, Sum.elim_inr, decide_eq_true h1, Bool.true_and]
    · simp (disch := omega) only [dif_dec, dif_ndec, bif_eq, bif_neq, bif_ne, bif_nne, w64, wu64, Int.toNat_natCast, Option.bind_some, cond_true, cond_false, Bool.not_true, Bool.not_false, Sum.elim_inl, Sum.elim_inr, decide_eq_false h1, Bool.false_and]

/-- The value of the first fifteen digits. -/
def valN : Nat → Nat → List UInt8 → Nat
  | _, a, [] => a
  | n, a, c :: r => valN (n + 1) (if n < 15 then dv6 a c else a) r
theorem valN_eq : ∀ (l : List UInt8) (n a : Nat), n + l.length ≤ 15 → valN n a l = valA a l
  | [], _, _, _ => rfl
  | c :: l, n, a, h => by
    rw [List.length_cons] at h
    rw [valA_cons]
    simp only [valN, dv6_eq]
    rw [if_pos (by omega)]
    exact valN_eq l (n + 1) _ (by omega)
/-! ### strconv.ParseInt of digits -/
theorem parseM_val : ∀ (l : List UInt8) (k a : Nat), l.all dig = true → a < 10 ^ k → k + l.length ≤ 18 → Lib.parseUintM (2 ^ 64 - 1) a l = .ok (valA a l)
  | [], _, _, _, _, _ => rfl
  | c :: l, k, a, h, ha, hk => by
    rw [List.all_cons, Bool.and_eq_true] at h
    rw [List.length_cons] at hk
    have hc := dig_iff.1 h.1
    have h17 : 10 ^ k ≤ 10 ^ 17 := Nat.pow_le_pow_right (by decide) (by omega)
    rw [valA_cons]
    simp only [Lib.parseUintM]
    rw [if_pos hc, if_neg (by omega), if_neg (by omega)]
    refine parseM_val l (k + 1) _ h.2 ?_ (by omega)
    rw [Nat.pow_succ]
    omega
theorem parse_val {l : List UInt8} (h : l.all dig = true) (h1 : 1 ≤ l.length) (h2 : l.length ≤ 18) : libParseInt.F (ofB l) 10 64 = some (valA 0 l : Int) := by
  rw [libParseInt.F_eq]
  unfold libParseInt.F0
  rw [if_pos ⟨rfl, rfl, by rw [szB]; omega⟩]
  show (match Lib.parseIntB 64 l with | .ok v => some v | _ => none) = _
  have hlt := valA_lt h
  have h18 : 10 ^ l.length ≤ 10 ^ 18 := Nat.pow_le_pow_right (by decide) h2
  cases l with
  | nil => exact absurd h1 (by decide)
  | cons c r =>
    have hc := dig_iff.1 (by rw [List.all_cons, Bool.and_eq_true] at h; exact h.1)
    have hu : Lib.parseUintB 64 (c :: r) = .ok (valA 0 (c :: r)) := by
      unfold Lib.parseUintB
      rw [if_neg (by simp)]
      exact parseM_val _ 0 0 h (by decide) (by omega)
    unfold Lib.parseIntB
    simp only []
    rw [if_neg (by omega), hu]
    simp only []
    rw [if_neg (by omega), if_neg (by omega), if_neg (by omega)]
theorem tsg_val {n : Int} {b : Bool} (h : -(2 ^ 60) ≤ n) (h2 : n ≤ 2 ^ 60) : token_signed.F n b = some (bif b then -n else n) := by
  rw [token_signed.F_eq]
  unfold token_signed.F0
  cases b with
  | true => simp (disch := omega) only [dif_dec, dif_ndec, bif_eq, bif_neq, bif_ne, bif_nne, w64, wu64, Int.toNat_natCast, Option.bind_some, cond_true, cond_false, Bool.not_true, Bool.not_false, Sum.elim_inl, Sum.elim_inr, Int.zero_sub]
  | false => rfl

/-! ### Integer -/
def intV (l : List UInt8) : Int × Bool :=
  if (stripL l).all dig = true ∧ 1 ≤ (stripL l).length ∧ (stripL l).length ≤ 15 then (bif negL l then -(valA 0 (stripL l) : Int) else valA 0 (stripL l), true) else (0, false)
theorem tint_val (l : List UInt8) : token_Integer.F (ofB l) = some (intV l) := by
  rw [token_Integer.F_eq]
  unfold token_Integer.F0 intV
  rw [cutp_val]
  simp only [Option.bind_some]
  rw [tdig_val]
  simp only [Option.bind_some]
  by_cases h : (stripL l).all dig = true ∧ 1 ≤ (stripL l).length ∧ (stripL l).length ≤ 15
  · have hlt := valA_lt h.1
    have h15 : 10 ^ (stripL l).length ≤ 10 ^ 15 := Nat.pow_le_pow_right (by decide) h.2.2
    rw [if_pos h, h.1, decide_eq_true h.2.1, decide_eq_true (show ((stripL l).length : Int) ≤ 15 by omega)]
    simp only [Bool.true_and, Bool.not_true, cond_false]
    rw [parse_val h.1 h.2.1 (by omega)]
    simp only [Option.bind_some]
    rw [tsg_val (by omega) (by omega)]
    rfl
  · have hf : ((stripL l).all dig && (decide (1 ≤ (stripL l).length) && decide (((stripL l).length : Int) ≤ 15))) = false := by
      rw [Bool.eq_false_iff]
      intro e
      simp only [Bool.and_eq_true, decide_eq_true_eq] at e
      exact h ⟨e.1, e.2.1, by omega⟩
    rw [if_neg h, hf]
    rfl
theorem tw_all {f : UInt8 → Bool} : ∀ {l : List UInt8}, (l.takeWhile f).length = l.length ↔ l.all f = true
  | [] => by simp
  | c :: l => by
    rw [List.takeWhile_cons, List.all_cons]
    cases hc : f c with
    | true =>
      simp only [if_true, List.length_cons, Bool.true_and]
      rw [← tw_all (l := l)]
      omega
    | false => simp
theorem tw_eq {f : UInt8 → Bool} : ∀ {l : List UInt8}, l.all f = true → l.takeWhile f = l
  | [], _ => rfl
  | c :: l, h => by
    rw [List.all_cons, Bool.and_eq_true] at h
    rw [List.takeWhile_cons, h.1, if_pos rfl, tw_eq h.2]
theorem tw_le {f : UInt8 → Bool} : ∀ (l : List UInt8), (l.takeWhile f).length ≤ l.length
  | [] => Nat.le_refl _
  | c :: l => by
    rw [List.takeWhile_cons]
    split
    · rw [List.length_cons, List.length_cons]; have := tw_le (f := f) l; omega
    · rw [List.length_nil]; omega

/-! ### Number -/
def nodot (c : UInt8) : Bool := c != 46
theorem nodot_iff {c : UInt8} : nodot c = true ↔ c ≠ 46 := by unfold nodot; exact bne_iff_ne
theorem idx_cases : ∀ l : List UInt8, (Lib.indexByte l 46 = -1 ∧ l.takeWhile nodot = l ∧ l.dropWhile nodot = []) ∨
    (∃ k : Nat, Lib.indexByte l 46 = (k : Int) ∧ k < l.length ∧ l.takeWhile nodot = l.take k ∧ l.dropWhile nodot = l.drop k)
  | [] => Or.inl ⟨rfl, rfl, rfl⟩
  | c :: l => by
    by_cases h : c = 46
    · subst h
      exact Or.inr ⟨0, rfl, by simp, rfl, rfl⟩
    · have h1 : nodot c = true := nodot_iff.2 h
      have h2 : (c == 46) = false := beq_false_of_ne h
      simp only [Lib.indexByte, h2, List.takeWhile_cons, List.dropWhile_cons, h1, if_true, Bool.false_eq_true, if_false, List.length_cons]
      rcases idx_cases l with ⟨e1, e2, e3⟩ | ⟨k, e1, e2, e3, e4⟩
      · left
        rw [e1, e2, e3]
        exact ⟨rfl, rfl, rfl⟩
      · right
        refine ⟨k + 1, ?_, by omega, by rw [e3, List.take_succ_cons], by rw [e4, List.drop_succ_cons]⟩
        rw [e1, if_neg (by intro h; have := eq_of_beq h; omega)]
        omega
theorem index_val (l : List UInt8) : libIndex.F (ofB l) ⟨#[46]⟩ = some (Lib.indexByte l 46) := by
  rw [libIndex.F_eq]
  rfl
def wholeL (l : List UInt8) : List UInt8 := l.takeWhile nodot
def restL (l : List UInt8) : List UInt8 := (l.dropWhile nodot).tail
def pointL (l : List UInt8) : Bool := !(l.dropWhile nodot).isEmpty
theorem cut_val (l : List UInt8) (hl : l.length ≤ 2 ^ 60) : strings_Cut.F (ofB l) ⟨#[46]⟩ = some (ofB (wholeL l), ofB (restL l), pointL l) := by
  rw [strings_Cut.F_eq]
  unfold strings_Cut.F0 wholeL restL pointL
  rw [stringslite_Cut.F_eq]
  unfold stringslite_Cut.F0
  rw [index_val]
  simp only [Option.bind_some, szB]
  rcases idx_cases l with ⟨e1, e2, e3⟩ | ⟨k, e1, e2, e3, e4⟩
  · rw [e1, e2, e3]
    rfl
  · rw [e1, e3, e4]
    have hs : (([46] : List UInt8).length : Int) = 1 := rfl
    have e5 : ((k : Int) + 1) = ((k + 1 : Nat) : Int) := by omega
    simp (disch := omega) only [dif_dec, dif_ndec, bif_eq, bif_neq, bif_ne, bif_nne, w64, wu64, Int.toNat_natCast, Option.bind_some, cond_true, cond_false, Bool.not_true, Bool.not_false, Sum.elim_inl, Sum.elim_inr, hs, e5, exT, exB]
    rw [List.drop_eq_getElem_cons e2]
    rfl

/-- Ten to the number of digits. -/
theorem ten_loop {l : List UInt8} (h : l.all dig = true) (hl : l.length ≤ 6) (b : Bool) (v : Int) : ∀ (d i : Nat), i + d = l.length →
    loopF token_Number.p0.step (b, v, ((10 ^ i : Nat) : Int), ofB l, (i : Int)) = some (b, v, ((10 ^ l.length : Nat) : Int))
  | 0, i, hid => by
    obtain rfl : i = l.length := by omega
    refine loop_end ?_
    unfold token_Number.p0.step token_Number.p0.round
    simp only [szB]
    simp (disch := omega) only [dif_dec, dif_ndec, bif_eq, bif_neq, bif_ne, bif_nne, w64, wu64, Int.toNat_natCast, Option.bind_some, cond_true, cond_false, Bool.not_true, Bool.not_false, Sum.elim_inl, Sum.elim_inr]
  | d + 1, i, hid => by
    have ih := ten_loop h hl b v d (i + 1) (by omega)
    have hlt : i < l.length := by omega
    have hd : dig (l.getD i 0) = true := by
      rw [List.all_eq_true] at h
      rw [List.getD_eq_getElem?_getD, List.getElem?_eq_getElem hlt]
      exact h _ (List.getElem_mem _)
    have hc := dig_iff.1 hd
    have hb := btB l i
    obtain ⟨_, hw⟩ := rn_ascii (s := ofB l) (i := i) (by omega)
    have hp : 10 ^ i ≤ 10 ^ 6 := Nat.pow_le_pow_right (by decide) (by omega)
    rw [loopF_eq]
    have hstep : token_Number.p0.step (b, v, ((10 ^ i : Nat) : Int), ofB l, (i : Int)) = some (.inl (b, v, ((10 ^ (i + 1) : Nat) : Int), ofB l, ((i + 1 : Nat) : Int))) := by
      unfold token_Number.p0.step token_Number.p0.round
      simp only [szB]
      have e1 : ((i : Int) + 1) = ((i + 1 : Nat) : Int) := by omega
      rw [hw, Nat.pow_succ]
      generalize 10 ^ i = p at *
      have e2 : ((p : Int) * 10) = ((p * 10 : Nat) : Int) := by omega
      simp (disch := omega) only [dif_dec, dif_ndec, bif_eq, bif_neq, bif_ne, bif_nne, w64, wu64, Int.toNat_natCast, Option.bind_some, cond_true, cond_false, Bool.not_true, Bool.not_false, Sum.elim_inl, Sum.elim_inr, e1, e2]
    rw [hstep]
    exact ih

/-- The number that digits and digits behind the point denote. -/
def numX (w p : List UInt8) : Nat := (2 * valA 0 (w ++ p) * 65536 + 10 ^ p.length) / (2 * 10 ^ p.length)
def numOk (u : List UInt8) : Prop := (wholeL u).all dig = true ∧ 1 ≤ (wholeL u).length ∧ (wholeL u).length ≤ 5 ∧ (pointL u = true → (restL u).all dig = true ∧ 1 ≤ (restL u).length ∧ (restL u).length ≤ 6)
instance (u : List UInt8) : Decidable (numOk u) := inferInstanceAs (Decidable (_ ∧ _ ∧ _ ∧ _))
def numV (l : List UInt8) : Int × Bool :=
  if numOk (stripL l) ∧ numX (wholeL (stripL l)) (restL (stripL l)) ≤ 2147483648 then
    (bif negL l then -(numX (wholeL (stripL l)) (restL (stripL l)) : Int) else numX (wholeL (stripL l)) (restL (stripL l)), true)
  else (0, false)
theorem all_append' {f : UInt8 → Bool} {a b : List UInt8} (h1 : a.all f = true) (h2 : b.all f = true) : (a ++ b).all f = true := by
  rw [List.all_append, h1, h2]
  rfl
theorem numX_bound {w p : List UInt8} (h1 : w.all dig = true) (h2 : p.all dig = true) (hw : w.length ≤ 5) (hp : p.length ≤ 6) : valA 0 (w ++ p) < 10 ^ 11 ∧ 10 ^ p.length ≤ 10 ^ 6 ∧ 1 ≤ 10 ^ p.length := by
  have h := valA_lt (all_append' h1 h2)
  rw [List.length_append] at h
  exact ⟨Nat.lt_of_lt_of_le h (Nat.pow_le_pow_right (by decide) (by omega)), Nat.pow_le_pow_right (by decide) hp, Nat.one_le_pow _ _ (by decide)⟩
theorem point_rest {u : List UInt8} (h : pointL u = false) : restL u = [] := by
  unfold pointL at h
  unfold restL
  cases hd : u.dropWhile nodot with
  | nil => rfl
  | cons c r => rw [hd] at h; cases h
/-- What the program does with sound parts. -/
theorem tnum_end {b : Bool} {w p : List UInt8} (h1 : w.all dig = true) (h2 : p.all dig = true) (hw1 : 1 ≤ w.length) (hw : w.length ≤ 5) (hp : p.length ≤ 6) :
    (bif (catOk (ofB w) (ofB p)) then ((libParseInt.F (ofB w ++ ofB p) 10 64).bind fun r5 => ((loopF token_Number.p0.step (b, r5, 1, ofB p, 0)).bind fun y6 => (bif ((IntKind.wrap .i64 (2 * y6.2.2)) != 0) then (bif decide ((IntKind.wrap .i64 ((IntKind.wrap .i64 ((IntKind.wrap .i64 ((IntKind.wrap .i64 (2 * y6.2.1)) * 65536)) + y6.2.2)).tdiv (IntKind.wrap .i64 (2 * y6.2.2)))) > 2147483648) then some ((0 : Int), false) else ((token_signed.F (IntKind.wrap .i64 ((IntKind.wrap .i64 ((IntKind.wrap .i64 ((IntKind.wrap .i64 (2 * y6.2.1)) * 65536)) + y6.2.2)).tdiv (IntKind.wrap .i64 (2 * y6.2.2)))) y6.1).bind fun r7 => some (r7, true))) else none))) else none)
    = some (if numX w p ≤ 2147483648 then (bif b then -(numX w p : Int) else numX w p, true) else (0, false)) := by
  obtain ⟨hb1, hb2, hb3⟩ := numX_bound h1 h2 hw hp
  rw [cat_ok (by rw [szB, szB]; omega), cond_true, catB, parse_val (all_append' h1 h2) (by rw [List.length_append]; omega) (by rw [List.length_append]; omega)]
  simp only [Option.bind_some]
  have ht := ten_loop h2 hp b (valA 0 (w ++ p) : Int) p.length 0 (by omega)
  rw [show ((10 ^ 0 : Nat) : Int) = 1 from rfl, show ((0 : Nat) : Int) = 0 from rfl] at ht
  rw [ht]
  simp only [Option.bind_some]
  unfold numX
  generalize valA 0 (w ++ p) = v at *
  generalize 10 ^ p.length = t at *
  have e1 : ((2 : Int) * (t : Int)) = ((2 * t : Nat) : Int) := by omega
  have e2 : ((2 : Int) * (v : Int)) * 65536 + (t : Int) = ((2 * v * 65536 + t : Nat) : Int) := by omega
  have hq : (2 * v * 65536 + t) / (2 * t) ≤ 2 * v * 65536 + t := Nat.div_le_self _ _
  rw [w64 (n := (2 : Int) * (t : Int)) (by omega) (by omega), w64 (n := (2 : Int) * (v : Int)) (by omega) (by omega), w64 (n := (2 : Int) * (v : Int) * 65536) (by omega) (by omega), w64 (n := (2 : Int) * (v : Int) * 65536 + (t : Int)) (by omega) (by omega), e1, e2]
  rw [Int.tdiv_eq_ediv_of_nonneg (by omega), ← Int.natCast_ediv]
  generalize (2 * v * 65536 + t) / (2 * t) = q at *
  rw [w64 (n := (q : Int)) (by omega) (by omega)]
  have hne : (((2 * t : Nat) : Int) != 0) = true := bne_iff_ne.2 (by omega)
  rw [hne, cond_true]
  by_cases hm : q ≤ 2147483648
  · rw [if_pos hm]
    simp (disch := omega) only [dif_dec, dif_ndec, bif_eq, bif_neq, bif_ne, bif_nne, w64, wu64, Int.toNat_natCast, Option.bind_some, cond_true, cond_false, Bool.not_true, Bool.not_false, Sum.elim_inl, Sum.elim_inr]
    rw [tsg_val (by omega) (by omega)]
    rfl
  · rw [if_neg hm]
    simp (disch := omega) only [dif_dec, dif_ndec, bif_eq, bif_neq, bif_ne, bif_nne, w64, wu64, Int.toNat_natCast, Option.bind_some, cond_true, cond_false, Bool.not_true, Bool.not_false, Sum.elim_inl, Sum.elim_inr]
theorem tnum_val (l : List UInt8) (hl : l.length ≤ 2 ^ 60) : token_Number.F (ofB l) = some (numV l) := by
  rw [token_Number.F_eq]
  unfold token_Number.F0 numV
  have hs := stripL_len l
  rw [cutp_val]
  simp only [Option.bind_some]
  rw [cut_val _ (by omega)]
  simp only [Option.bind_some]
  generalize stripL l = u at *
  rw [tdig_val]
  simp only [Option.bind_some]
  by_cases hw : (wholeL u).all dig = true ∧ 1 ≤ (wholeL u).length ∧ (wholeL u).length ≤ 5
  · obtain ⟨hw1, hw2, hw3⟩ := hw
    rw [hw1, decide_eq_true hw2, decide_eq_true (show ((wholeL u).length : Int) ≤ 5 by omega)]
    simp only [Bool.true_and, Bool.not_true, cond_false]
    cases hp : pointL u with
    | true =>
      simp only [cond_true]
      rw [tdig_val]
      simp only [Option.bind_some]
      by_cases hr : (restL u).all dig = true ∧ 1 ≤ (restL u).length ∧ (restL u).length ≤ 6
      · obtain ⟨hr1, hr2, hr3⟩ := hr
        rw [hr1, decide_eq_true hr2, decide_eq_true (show ((restL u).length : Int) ≤ 6 by omega)]
        simp only [Bool.true_and, Bool.not_true, cond_false]
        rw [tnum_end hw1 hr1 hw2 hw3 hr3]
        have hok : numOk u := ⟨hw1, hw2, hw3, fun _ => ⟨hr1, hr2, hr3⟩⟩
        by_cases hm : numX (wholeL u) (restL u) ≤ 2147483648
        · rw [if_pos hm, if_pos ⟨hok, hm⟩]
        · rw [if_neg hm, if_neg (fun e => hm e.2)]
      · have hf : ((restL u).all dig && (decide (1 ≤ (restL u).length) && decide (((restL u).length : Int) ≤ 6))) = false := by
          rw [Bool.eq_false_iff]
          intro e
          simp only [Bool.and_eq_true, decide_eq_true_eq] at e
          exact hr ⟨e.1, e.2.1, by omega⟩
        rw [hf, if_neg (fun e => hr (e.1.2.2.2 hp))]
        rfl
    | false =>
      simp only [cond_false]
      have hr := point_rest hp
      rw [hr, tnum_end hw1 rfl hw2 hw3 (by simp)]
      have hok : numOk u := ⟨hw1, hw2, hw3, fun h => by rw [hp] at h; cases h⟩
      by_cases hm : numX (wholeL u) [] ≤ 2147483648
      · rw [if_pos hm, if_pos ⟨hok, hm⟩]
      · rw [if_neg hm, if_neg (fun e => hm e.2)]
  · have hf : ((wholeL u).all dig && (decide (1 ≤ (wholeL u).length) && decide (((wholeL u).length : Int) ≤ 5))) = false := by
      rw [Bool.eq_false_iff]
      intro e
      simp only [Bool.and_eq_true, decide_eq_true_eq] at e
      exact hw ⟨e.1, e.2.1, by omega⟩
    rw [hf, if_neg (fun e => hw ⟨e.1.1, e.1.2.1, e.1.2.2.1⟩)]
    rfl

/-! The reference. -/
/-- A word that is not all digits: what follows its digits is no point. -/
theorem part_bad : ∀ {u : List UInt8}, ¬ (wholeL u).all dig = true → ∃ c r, u.drop (u.takeWhile dig).length = c :: r ∧ c ≠ 46
  | [], h => absurd rfl h
  | c :: u, h => by
    unfold wholeL at h
    rw [List.takeWhile_cons] at h
    by_cases hc : nodot c = true
    · rw [if_pos hc, List.all_cons] at h
      rw [List.takeWhile_cons]
      cases hd : dig c with
      | true =>
        rw [hd, Bool.true_and] at h
        simp only [if_true, List.length_cons, List.drop_succ_cons]
        exact part_bad (u := u) h
      | false => exact ⟨c, u, rfl, nodot_iff.1 hc⟩
    · rw [if_neg hc] at h
      exact absurd rfl h
theorem part_good : ∀ {u : List UInt8}, (wholeL u).all dig = true → u.takeWhile dig = wholeL u ∧ u.drop (wholeL u).length = u.dropWhile nodot
  | [], h => ⟨rfl, rfl⟩
  | c :: u, h => by
    unfold wholeL at h ⊢
    rw [List.takeWhile_cons] at h
    rw [List.takeWhile_cons, List.takeWhile_cons, List.dropWhile_cons]
    by_cases hc : nodot c = true
    · rw [if_pos hc, List.all_cons, Bool.and_eq_true] at h
      rw [if_pos hc, if_pos hc, if_pos h.1]
      have ih := part_good (u := u) h.2
      unfold wholeL at ih
      rw [ih.1, List.length_cons, List.drop_succ_cons]
      exact ⟨rfl, ih.2⟩
    · rw [if_neg hc, if_neg hc]
      have h46 : c = 46 := Classical.byContradiction fun e => hc (nodot_iff.2 e)
      subst h46
      exact ⟨rfl, rfl⟩
theorem rest_head : ∀ {u : List UInt8} {c : UInt8} {r : List UInt8}, u.dropWhile nodot = c :: r → c = 46
  | [], _, _, h => by cases h
  | d :: u, c, r, h => by
    rw [List.dropWhile_cons] at h
    by_cases hc : nodot d = true
    · rw [if_pos hc] at h
      exact rest_head h
    · rw [if_neg hc] at h
      cases h
      exact Classical.byContradiction fun e => hc (nodot_iff.2 e)
theorem numX_split (w p : List UInt8) : numX w p = valA 0 w * 65536 + (2 * valA 0 p * 65536 + 10 ^ p.length) / (2 * 10 ^ p.length) := by
  unfold numX
  rw [valA_append, valA_eq p (valA 0 w)]
  generalize valA 0 w = a
  generalize valA 0 p = b
  have ht : 0 < 10 ^ p.length := Nat.pow_pos (by decide)
  generalize 10 ^ p.length = t at *
  have e : 2 * (a * t + b) * 65536 + t = 2 * b * 65536 + t + a * 65536 * (2 * t) := by
    have h1 : a * 65536 * (2 * t) = 131072 * (a * t) := by
      rw [Nat.mul_assoc, Nat.mul_comm 65536, ← Nat.mul_assoc, ← Nat.mul_assoc, Nat.mul_right_comm a 2 t, Nat.mul_assoc]
      rw [Nat.mul_comm]
    rw [h1]
    generalize a * t = z
    omega
  rw [e, Nat.add_mul_div_right _ _ (by omega), Nat.add_comm]
/-! ### Decimal of the reference -/
def dch (n : Nat) : UInt8 := UInt8.ofNat (48 + n)
theorem dch_nat {n : Nat} (h : n < 10) : (dch n).toNat = 48 + n := by
  unfold dch
  simp only [UInt8.toNat_ofNat']
  omega
theorem dch_dig {n : Nat} (h : n < 10) : dig (dch n) = true := dig_iff.2 (by rw [dch_nat h]; omega)
theorem digits10 : ∀ n, n < 10 → (⟨#[48, 49, 50, 51, 52, 53, 54, 55, 56, 57]⟩ : ByteArray).extract n (n + 1) = ofB [dch n] := by decide +kernel
/-- What Decimal makes of the digits still to come, ahead of those made. -/
structure DecOk (n k m : Nat) (r : List UInt8) : Prop where
  a : r.all dig = true
  v : valA 0 r = n
  lo : k ≤ r.length
  hi : r.length ≤ m
theorem dec_loop {k m n0 : Nat} (hk : k ≤ m) (hm : m ≤ 18) (hn0 : n0 < 10 ^ 18) : ∀ (f n : Nat) (L : List UInt8), f = m - L.length → L.all dig = true → n * 10 ^ L.length + valA 0 L = n0 → n < 10 ^ (m - L.length) → L.length ≤ m →
    ∃ r, DecOk n0 k m r ∧ loopF armplanref6_Decimal.p0.step ((n : Int), (k : Int), ofB L) = some (ofB r) := by
  intro f
  induction f with
  | zero =>
    intro n L hf ha hv hn hl
    have h0 : n = 0 := by
      rw [← hf, Nat.pow_zero] at hn
      omega
    subst h0
    refine ⟨L, ⟨ha, by omega, by omega, by omega⟩, loop_end ?_⟩
    unfold armplanref6_Decimal.p0.step armplanref6_Decimal.p0.round
    simp only [szB]
    simp (disch := omega) only [dif_dec, dif_ndec, bif_eq, bif_neq, bif_ne, bif_nne, w64, wu64, Int.toNat_natCast, Option.bind_some, cond_true, cond_false, Bool.not_true, Bool.not_false, Sum.elim_inl, Sum.elim_inr]
  | succ f ih =>
    intro n L hf ha hv hn hl
    by_cases hend : n = 0 ∧ k ≤ L.length
    · obtain ⟨rfl, h2⟩ := hend
      refine ⟨L, ⟨ha, by omega, by omega, by omega⟩, loop_end ?_⟩
      unfold armplanref6_Decimal.p0.step armplanref6_Decimal.p0.round
      simp only [szB]
      simp (disch := omega) only [dif_dec, dif_ndec, bif_eq, bif_neq, bif_ne, bif_nne, w64, wu64, Int.toNat_natCast, Option.bind_some, cond_true, cond_false, Bool.not_true, Bool.not_false, Sum.elim_inl, Sum.elim_inr]
    · have hd : n % 10 < 10 := Nat.mod_lt _ (by decide)
      have hpm : 10 ^ (m - L.length) ≤ 10 ^ 18 := Nat.pow_le_pow_right (by decide) (by omega)
      obtain ⟨r, hr, hloop⟩ := ih (n / 10) (dch (n % 10) :: L) (by rw [List.length_cons]; omega) (by rw [List.all_cons, dch_dig hd, ha]; rfl) (by
          rw [valA_cons, dch_nat hd, valA_eq, List.length_cons, Nat.pow_succ, ← hv]
          generalize valA 0 L = v
          generalize 10 ^ L.length = p
          rw [Nat.zero_mul, Nat.zero_add, show 48 + n % 10 - 48 = n % 10 by omega, ← Nat.add_assoc]
          congr 1
          rw [Nat.mul_comm p 10, ← Nat.mul_assoc, ← Nat.add_mul]
          congr 1
          omega) (by
          rw [List.length_cons]
          rw [show m - L.length = (m - (L.length + 1)) + 1 by omega, Nat.pow_succ] at hn
          omega) (by rw [List.length_cons]; omega)
      refine ⟨r, hr, ?_⟩
      rw [loopF_eq]
      have hstep : armplanref6_Decimal.p0.step ((n : Int), (k : Int), ofB L) = some (.inl (((n / 10 : Nat) : Int), (k : Int), ofB (dch (n % 10) :: L))) := by
        unfold armplanref6_Decimal.p0.step armplanref6_Decimal.p0.round
        have e1 : ((n : Int)).tmod 10 = ((n % 10 : Nat) : Int) := by rw [Int.tmod_eq_emod_of_nonneg (by omega)]; omega
        have e2 : ((n : Int)).tdiv 10 = ((n / 10 : Nat) : Int) := by rw [Int.tdiv_eq_ediv_of_nonneg (by omega)]; omega
        have e3 : (((n % 10 : Nat) : Int) + 1) = ((n % 10 + 1 : Nat) : Int) := by omega
        have hs10 : ((([48, 49, 50, 51, 52, 53, 54, 55, 56, 57] : List UInt8).length : Nat) : Int) = 10 := rfl
        have hx := digits10 (n % 10) hd
        have hcat : ofB [dch (n % 10)] ++ ofB L = ofB (dch (n % 10) :: L) := catB _ _
        have hco : catOk (ofB [dch (n % 10)]) (ofB L) = true := cat_ok (by rw [szB, szB, List.length_cons, List.length_nil]; omega)
        simp only [szB, e1, e2]
        rw [w64 (n := ((n % 10 : Nat) : Int) + 1) (by omega) (by omega), e3, Int.toNat_natCast, Int.toNat_natCast, hx, hco, hcat, hs10]
        by_cases h0 : (n : Int) > 0
        · simp (disch := omega) only [dif_dec, dif_ndec, bif_eq, bif_neq, bif_ne, bif_nne, w64, wu64, Int.toNat_natCast, Option.bind_some, cond_true, cond_false, Bool.not_true, Bool.not_false, Sum.elim_inl, Sum.elim_inr]
        · simp (disch := omega) only [dif_dec, dif_ndec, bif_eq, bif_neq, bif_ne, bif_nne, w64, wu64, Int.toNat_natCast, Option.bind_some, cond_true, cond_false, Bool.not_true, Bool.not_false, Sum.elim_inl, Sum.elim_inr]
      rw [hstep]
      exact hloop
theorem dec_val {n k m : Nat} (hk : k ≤ m) (hm : m ≤ 18) (hn : n < 10 ^ m) : ∃ r, DecOk n k m r ∧ armplanref6_Decimal.F (n : Int) (k : Int) = some (ofB r) := by
  have hpm : 10 ^ m ≤ 10 ^ 18 := Nat.pow_le_pow_right (by decide) hm
  obtain ⟨r, h1, h2⟩ := dec_loop (k := k) (m := m) (n0 := n) hk hm (by omega) m n [] (by rw [List.length_nil]; omega) rfl (by rw [valA_nil, List.length_nil, Nat.pow_zero, Nat.mul_one, Nat.add_zero]) (by rw [List.length_nil]; exact hn) (by rw [List.length_nil]; omega)
  refine ⟨r, h1, ?_⟩
  rw [armplanref6_Decimal.F_eq]
  unfold armplanref6_Decimal.F0
  rw [show (⟨#[]⟩ : ByteArray) = ofB [] from rfl, h2]
  rfl
/-- The parts of a number in decimal. -/
theorem parts_of {w p : List UInt8} (hw : w.all dig = true) : wholeL (w ++ 46 :: p) = w ∧ restL (w ++ 46 :: p) = p ∧ pointL (w ++ 46 :: p) = true := by
  have hn : ∀ c ∈ w, nodot c = true := by
    intro c hc
    rw [List.all_eq_true] at hw
    have h := dig_iff.1 (hw c hc)
    refine nodot_iff.2 fun e => ?_
    subst e
    exact absurd h.1 (by decide)
  unfold wholeL restL pointL
  have h1 : (w ++ 46 :: p).takeWhile nodot = w := by
    rw [List.takeWhile_append_of_pos hn]
    have : (46 :: p).takeWhile nodot = [] := rfl
    rw [this, List.append_nil]
  have h2 : (w ++ 46 :: p).dropWhile nodot = 46 :: p := by
    rw [List.dropWhile_append_of_pos hn]
    rfl
  rw [h1, h2]
  exact ⟨rfl, rfl, rfl⟩
theorem strip_dig {w r : List UInt8} (hw : w.all dig = true) (h1 : 1 ≤ w.length) : stripL (w ++ r) = w ++ r ∧ negL (w ++ r) = false := by
  cases w with
  | nil => exact absurd h1 (by decide)
  | cons c w =>
    rw [List.all_cons, Bool.and_eq_true] at hw
    have h := dig_iff.1 hw.1
    have hc : c ≠ 45 := fun e => by subst e; exact absurd h.1 (by decide)
    simp only [List.cons_append, stripL, negL]
    rw [if_neg hc, decide_eq_false hc]
    exact ⟨rfl, rfl⟩
/-- The number of a sound decimal text. -/
theorem numV_of {w p : List UInt8} (hw : w.all dig = true) (h1 : 1 ≤ w.length) (h5 : w.length ≤ 5) (hp : p.all dig = true) (hp1 : 1 ≤ p.length) (hp6 : p.length ≤ 6) (hx : numX w p ≤ 2147483648) :
    numV (w ++ 46 :: p) = ((numX w p : Int), true) := by
  obtain ⟨s1, s2⟩ := strip_dig (r := 46 :: p) hw h1
  obtain ⟨g1, g2, g3⟩ := parts_of (p := p) hw
  unfold numV
  rw [s1, s2, g1, g2, if_pos ⟨⟨by rw [g1]; exact hw, by rw [g1]; exact h1, by rw [g1]; exact h5, fun _ => by rw [g2]; exact ⟨hp, hp1, hp6⟩⟩, hx⟩]
  rfl
end Go.Abs
