/- A part of the proof that the text with the row names: printed readings of functions, or plain lemmas about them. -/
import Derived.Test.YtgligkmpgefbmaaDoorC6M8
set_option linter.unusedVariables false
set_option linter.unusedSimpArgs false
namespace Go.Abs
open Go Go.Proofs
/-! ### Decimal of the reference -/
def dch (n : Nat) : UInt8 := UInt8.ofNat (48 + n)
theorem dch_nat {n : Nat} (h : n < 10) : (dch n).toNat = 48 + n := by
  unfold dch
  simp only [UInt8.toNat_ofNat']
  omega
theorem dch_dig {n : Nat} (h : n < 10) : dig (dch n) = true := dig_iff.2 (by rw [dch_nat h]; omega)
theorem digits10 : ∀ n, n < 10 → (⟨#[48, 49, 50, 51, 52, 53, 54, 55, 56, 57]⟩ : ByteArray).extract n (n + 1) = ofB [dch n] := by decide +kernel
/-- What Decimal makes of the digits still to come, ahead of those made. -/
structure DecOk (n k m : Nat) (r : List UInt8) : Prop where
  a : r.all dig = true
  v : valA 0 r = n
  lo : k ≤ r.length
  hi : r.length ≤ m
theorem dec_loop {k m n0 : Nat} (hk : k ≤ m) (hm : m ≤ 18) (hn0 : n0 < 10 ^ 18) : ∀ (f n : Nat) (L : List UInt8), f = m - L.length → L.all dig = true → n * 10 ^ L.length + valA 0 L = n0 → n < 10 ^ (m - L.length) → L.length ≤ m →
    ∃ r, DecOk n0 k m r ∧ loopF armplanref6_Decimal.p0.step ((n : Int), (k : Int), ofB L) = some (ofB r) := by
  intro f
  induction f with
  | zero =>
    intro n L hf ha hv hn hl
    have h0 : n = 0 := by
      rw [← hf, Nat.pow_zero] at hn
      omega
    subst h0
    refine ⟨L, ⟨ha, by omega, by omega, by omega⟩, loop_end ?_⟩
    unfold armplanref6_Decimal.p0.step armplanref6_Decimal.p0.round
    simp only [szB]
    simp (disch := omega) only [dif_dec, dif_ndec, bif_eq, bif_neq, bif_ne, bif_nne, w64, wu64, Int.toNat_natCast, Option.bind_some, cond_true, cond_false, Bool.not_true, Bool.not_false, Sum.elim_inl, Sum.elim_inr]
  | succ f ih =>
    intro n L hf ha hv hn hl
    by_cases hend : n = 0 ∧ k ≤ L.length
    · obtain ⟨rfl, h2⟩ := hend
      refine ⟨L, ⟨ha, by omega, by omega, by omega⟩, loop_end ?_⟩
      unfold armplanref6_Decimal.p0.step armplanref6_Decimal.p0.round
      simp only [szB]
      simp (disch := omega) only [dif_dec, dif_ndec, bif_eq, bif_neq, bif_ne, bif_nne, w64, wu64, Int.toNat_natCast, Option.bind_some, cond_true, cond_false, Bool.not_true, Bool.not_false, Sum.elim_inl, Sum.elim_inr]
    · have hd : n % 10 < 10 := Nat.mod_lt _ (by decide)
      have hpm : 10 ^ (m - L.length) ≤ 10 ^ 18 := Nat.pow_le_pow_right (by decide) (by omega)
      obtain ⟨r, hr, hloop⟩ := ih (n / 10) (dch (n % 10) :: L) (by rw [List.length_cons]; omega) (by rw [List.all_cons, dch_dig hd, ha]; rfl) (by
          rw [valA_cons, dch_nat hd, valA_eq, List.length_cons, Nat.pow_succ, ← hv]
          generalize valA 0 L = v
          generalize 10 ^ L.length = p
          rw [Nat.zero_mul, Nat.zero_add, show 48 + n % 10 - 48 = n % 10 by omega, ← Nat.add_assoc]
          congr 1
          rw [Nat.mul_comm p 10, ← Nat.mul_assoc, ← Nat.add_mul]
          congr 1
          omega) (by
          rw [List.length_cons]
          rw [show m - L.length = (m - (L.length + 1)) + 1 by omega, Nat.pow_succ] at hn
          omega) (by rw [List.length_cons]; omega)
      refine ⟨r, hr, ?_⟩
      rw [loopF_eq]
      have hstep : armplanref6_Decimal.p0.step ((n : Int), (k : Int), ofB L) = some (.inl (((n / 10 : Nat) : Int), (k : Int), ofB (dch (n % 10) :: L))) := by
        unfold armplanref6_Decimal.p0.step armplanref6_Decimal.p0.round
        have e1 : ((n : Int)).tmod 10 = ((n % 10 : Nat) : Int) := by rw [Int.tmod_eq_emod_of_nonneg (by omega)]; omega
        have e2 : ((n : Int)).tdiv 10 = ((n / 10 : Nat) : Int) := by rw [Int.tdiv_eq_ediv_of_nonneg (by omega)]; omega
        have e3 : (((n % 10 : Nat) : Int) + 1) = ((n % 10 + 1 : Nat) : Int) := by omega
        have hs10 : ((([48, 49, 50, 51, 52, 53, 54, 55, 56, 57] : List UInt8).length : Nat) : Int) = 10 := rfl
        have hx := digits10 (n % 10) hd
        have hcat : ofB [dch (n % 10)] ++ ofB L = ofB (dch (n % 10) :: L) := catB _ _
        have hco : catOk (ofB [dch (n % 10)]) (ofB L) = true := cat_ok (by rw [szB, szB, List.length_cons, List.length_nil]; omega)
        simp only [szB, e1, e2]
        rw [w64 (n := ((n % 10 : Nat) : Int) + 1) (by omega) (by omega), e3, Int.toNat_natCast, Int.toNat_natCast, hx, hco, hcat, hs10]
        by_cases h0 : (n : Int) > 0
        · simp (disch := omega) only [dif_dec, dif_ndec, bif_eq, bif_neq, bif_ne, bif_nne, w64, wu64, Int.toNat_natCast, Option.bind_some, cond_true, cond_false, Bool.not_true, Bool.not_false, Sum.elim_inl, Sum.elim_inr]
        · simp (disch := omega) only [dif_dec, dif_ndec, bif_eq, bif_neq, bif_ne, bif_nne, w64, wu64, Int.toNat_natCast, Option.bind_some, cond_true, cond_false, Bool.not_true, Bool.not_false, Sum.elim_inl, Sum.elim_inr]
      rw [hstep]
      exact hloop
theorem dec_val {n k m : Nat} (hk : k ≤ m) (hm : m ≤ 18) (hn : n < 10 ^ m) : ∃ r, DecOk n k m r ∧ armplanref6_Decimal.F (n : Int) (k : Int) = some (ofB r) := by
  have hpm : 10 ^ m ≤ 10 ^ 18 := Nat.pow_le_pow_right (by decide) hm
  obtain ⟨r, h1, h2⟩ := dec_loop (k := k) (m := m) (n0 := n) hk hm (by omega) m n [] (by rw [List.length_nil]; omega) rfl (by rw [valA_nil, List.length_nil, Nat.pow_zero, Nat.mul_one, Nat.add_zero]) (by rw [List.length_nil]; exact hn) (by rw [List.length_nil]; omega)
  refine ⟨r, h1, ?_⟩
  rw [armplanref6_Decimal.F_eq]
  unfold armplanref6_Decimal.F0
  rw [show (⟨#[]⟩ : ByteArray) = ofB [] from rfl, h2]
  rfl
/-- The parts of a number in decimal. -/
theorem parts_of {w p : List UInt8} (hw : w.all dig = true) : wholeL (w ++ 46 :: p) = w ∧ restL (w ++ 46 :: p) = p ∧ pointL (w ++ 46 :: p) = true := by
  have hn : ∀ c ∈ w, nodot c = true := by
    intro c hc
    rw [List.all_eq_true] at hw
    have h := dig_iff.1 (hw c hc)
    refine nodot_iff.2 fun e => ?_
    subst e
    exact absurd h.1 (by decide)
  unfold wholeL restL pointL
  have h1 : (w ++ 46 :: p).takeWhile nodot = w := by
    rw [List.takeWhile_append_of_pos hn]
    have : (46 :: p).takeWhile nodot = [] := rfl
    rw [this, List.append_nil]
  have h2 : (w ++ 46 :: p).dropWhile nodot = 46 :: p := by
    rw [List.dropWhile_append_of_pos hn]
    rfl
  rw [h1, h2]
  exact ⟨rfl, rfl, rfl⟩
theorem strip_dig {w r : List UInt8} (hw : w.all dig = true) (h1 : 1 ≤ w.length) : stripL (w ++ r) = w ++ r ∧ negL (w ++ r) = false := by
  cases w with
  | nil => exact absurd h1 (by decide)
  | cons c w =>
    rw [List.all_cons, Bool.and_eq_true] at hw
    have h := dig_iff.1 hw.1
    have hc : c ≠ 45 := fun e => by subst e; exact absurd h.1 (by decide)
    simp only [List.cons_append, stripL, negL]
    rw [if_neg hc, decide_eq_false hc]
    exact ⟨rfl, rfl⟩
/-- The number of a sound decimal text. -/
theorem numV_of {w p : List UInt8} (hw : w.all dig = true) (h1 : 1 ≤ w.length) (h5 : w.length ≤ 5) (hp : p.all dig = true) (hp1 : 1 ≤ p.length) (hp6 : p.length ≤ 6) (hx : numX w p ≤ 2147483648) :
    numV (w ++ 46 :: p) = ((numX w p : Int), true) := by
  obtain ⟨s1, s2⟩ := strip_dig (r := 46 :: p) hw h1
  obtain ⟨g1, g2, g3⟩ := parts_of (p := p) hw
  unfold numV
  rw [s1, s2, g1, g2, if_pos ⟨⟨by rw [g1]; exact hw, by rw [g1]; exact h1, by rw [g1]; exact h5, fun _ => by rw [g2]; exact ⟨hp, hp1, hp6⟩⟩, hx⟩]
  rfl
end Go.Abs
