/- A part of the proof that the text with the row names: printed readings of functions, or plain lemmas about them. -/
import Derived.Test.YtgligkmpgefbmaaDoorC6GLTokenNearest
import Derived.Test.YtgligkmpgefbmaaDoorC6M9
import Derived.Test.YtgligkmpgefbmaaDoorAbsD
set_option linter.unusedVariables false
set_option linter.unusedSimpArgs false
namespace Go.Abs
open Go Go.Proofs
theorem near_loop {a b : Int} {n : Nat} (hn : n ≤ 6) : loopF armplanlaw6_TokenNearest.p0.step (a, b, (n : Int), 1, 0) = some (a, b, (n : Int), ((10 ^ n : Nat) : Int)) := by
  have h := loop_count (step := armplanlaw6_TokenNearest.p0.step) (fun i : Nat => (a, b, (n : Int), ((10 ^ i : Nat) : Int), (i : Int))) n (a, b, (n : Int), ((10 ^ n : Nat) : Int)) (by
    intro i hi
    have hp : 10 ^ i ≤ 10 ^ 6 := Nat.pow_le_pow_right (by decide) (by omega)
    unfold armplanlaw6_TokenNearest.p0.step armplanlaw6_TokenNearest.p0.round
    simp only []
    rw [Nat.pow_succ]
    have e1 : ((i : Int) + 1) = ((i + 1 : Nat) : Int) := by omega
    generalize 10 ^ i = p at *
    have e2 : ((p : Int) * 10) = ((p * 10 : Nat) : Int) := by omega
    simp (disch := omega) only [dif_dec, dif_ndec, bif_eq, bif_neq, bif_ne, bif_nne, w64, wu64, Int.toNat_natCast, Option.bind_some, cond_true, cond_false, Bool.not_true, Bool.not_false, Sum.elim_inl, Sum.elim_inr, e1, e2]) (by
    unfold armplanlaw6_TokenNearest.p0.step armplanlaw6_TokenNearest.p0.round
    simp only []
    simp (disch := omega) only [dif_dec, dif_ndec, bif_eq, bif_neq, bif_ne, bif_nne, w64, wu64, Int.toNat_natCast, Option.bind_some, cond_true, cond_false, Bool.not_true, Bool.not_false, Sum.elim_inl, Sum.elim_inr]) n 0 (by omega)
  exact h
theorem near_x {w f t : Nat} (hw : w < 32000) (hf : f < t) (ht0 : 1 ≤ t) (ht : t ≤ 10000) :
    let X := (2 * (w * t + f) * 65536 + t) / (2 * t)
    X ≤ 32000 * 65536 ∧ 2 * ((X : Int) * t - ((w : Int) * t + f) * 65536) ≤ t ∧ -2 * ((X : Int) * t - ((w : Int) * t + f) * 65536) < t ∧ (w * t + f < 320000000) ∧ X * t ≤ 32000 * 65536 * 10000 := by
  intro X
  have hwt : w * t ≤ 31999 * t := Nat.mul_le_mul_right _ (by omega)
  have hA : w * t + f < 32000 * t := by omega
  have h1 : X * (2 * t) ≤ 2 * (w * t + f) * 65536 + t := Nat.div_mul_le_self _ _
  have h2 : 2 * (w * t + f) * 65536 + t < (X + 1) * (2 * t) := Nat.lt_mul_of_div_lt (Nat.lt_succ_self _) (by omega)
  have hX : X ≤ 32000 * 65536 := by
    refine Nat.le_of_lt_succ (Nat.div_lt_of_lt_mul ?_)
    have : 2 * t * Nat.succ (32000 * 65536) = 4194304002 * t := by
      rw [Nat.mul_comm, ← Nat.mul_assoc]
    rw [this]
    omega
  have hXt : X * t ≤ 32000 * 65536 * 10000 := Nat.mul_le_mul hX ht
  have e1 : X * (2 * t) = 2 * (X * t) := by rw [Nat.mul_comm 2 t, ← Nat.mul_assoc, Nat.mul_comm _ 2]
  have e2 : (X + 1) * (2 * t) = 2 * (X * t) + 2 * t := by rw [Nat.add_mul, Nat.one_mul, e1]
  rw [e1] at h1
  rw [e2] at h2
  have c1 : (X : Int) * (t : Int) = ((X * t : Nat) : Int) := (Int.natCast_mul _ _).symm
  have c2 : (w : Int) * (t : Int) = ((w * t : Nat) : Int) := (Int.natCast_mul _ _).symm
  rw [c1, c2]
  refine ⟨hX, ?_, ?_, ?_, hXt⟩
  · generalize X * t = y at *
    generalize w * t = z at *
    omega
  · generalize X * t = y at *
    generalize w * t = z at *
    omega
  · generalize w * t = z at *
    omega
theorem nearest_law {a b k : Int} (ha : 0 ≤ a ∧ a ≤ 65535) (hb : 0 ≤ b ∧ b ≤ 65535) (hk : 0 ≤ k ∧ k ≤ 255) : armplanlaw6_TokenNearest.F a b k = some true := by
  rw [armplanlaw6_TokenNearest.F_eq]
  unfold armplanlaw6_TokenNearest.F0
  have hk4 : 0 ≤ k.tmod 4 ∧ k.tmod 4 < 4 := ⟨Int.tmod_nonneg _ hk.1, Int.tmod_lt_of_pos _ (by decide)⟩
  obtain ⟨n, hn⟩ : ∃ n : Nat, k.tmod 4 + 1 = (n : Int) := ⟨(k.tmod 4 + 1).toNat, by omega⟩
  have hw0 : 0 ≤ a.tmod 32000 ∧ a.tmod 32000 < 32000 := ⟨Int.tmod_nonneg _ ha.1, Int.tmod_lt_of_pos _ (by decide)⟩
  obtain ⟨w, hw⟩ : ∃ w : Nat, a.tmod 32000 = (w : Int) := ⟨(a.tmod 32000).toNat, by omega⟩
  have ht4 : 10 ^ n ≤ 10 ^ 4 := Nat.pow_le_pow_right (by decide) (by omega)
  have ht1 : 1 ≤ 10 ^ n := Nat.one_le_pow _ _ (by decide)
  have hf0 : 0 ≤ b.tmod ((10 ^ n : Nat) : Int) ∧ b.tmod ((10 ^ n : Nat) : Int) < ((10 ^ n : Nat) : Int) := ⟨Int.tmod_nonneg _ hb.1, Int.tmod_lt_of_pos _ (by omega)⟩
  obtain ⟨f, hf⟩ : ∃ f : Nat, b.tmod ((10 ^ n : Nat) : Int) = (f : Int) := ⟨(b.tmod ((10 ^ n : Nat) : Int)).toNat, by omega⟩
  obtain ⟨r1, d1, q1⟩ := dec_val (n := w) (k := 1) (m := 5) (by decide) (by decide) (by omega)
  obtain ⟨r2, d2, q2⟩ := dec_val (n := f) (k := n) (m := n) (Nat.le_refl _) (by omega) (by omega)
  obtain ⟨x1, x2, x3, x4, x5⟩ := near_x (w := w) (f := f) (t := 10 ^ n) (by omega) (by omega) ht1 ht4
  have hlen : r2.length = n := Nat.le_antisymm d2.hi d2.lo
  have hX : numX r1 r2 = (2 * (w * 10 ^ n + f) * 65536 + 10 ^ n) / (2 * 10 ^ n) := by
    unfold numX
    rw [valA_append, valA_eq r2, d1.v, d2.v, hlen]
  have hnum : token_Number.F ((ofB r1 ++ (⟨#[46]⟩ : ByteArray)) ++ ofB r2) = some ((numX r1 r2 : Int), true) := by
    have e : (ofB r1 ++ (⟨#[46]⟩ : ByteArray)) ++ ofB r2 = ofB (r1 ++ 46 :: r2) := by
      rw [show (⟨#[46]⟩ : ByteArray) = ofB [46] from rfl, catB, catB, List.append_assoc]
      rfl
    have l1 := d1.hi
    rw [e, tnum_val _ (by rw [List.length_append, List.length_cons]; omega), numV_of d1.a d1.lo d1.hi d2.a (by omega) (by omega) (by rw [hX]; omega)]
  rw [w64 (n := k.tmod 4) (by omega) (by omega), w64 (n := k.tmod 4 + 1) (by omega) (by omega), hn, near_loop (by omega)]
  simp only [Option.bind_some]
  rw [w64 (n := a.tmod 32000) (by omega) (by omega), w64 (n := b) (by omega) (by omega), hw, hf]
  have hne : (((10 ^ n : Nat) : Int) != 0) = true := bne_iff_ne.2 (by omega)
  have l1 := d1.hi
  rw [show ((32000 : Int) != 0) = true from rfl, hne]
  simp only [cond_true]
  rw [show (1 : Int) = ((1 : Nat) : Int) from rfl, q1]
  simp only [Option.bind_some]
  have s46 : (⟨#[46]⟩ : ByteArray).size = 1 := rfl
  have z1 : (ofB r1).size = r1.length := rfl
  have z2 : (ofB r2).size = r2.length := rfl
  rw [cat_ok (by omega), q2]
  simp only [Option.bind_some, cond_true]
  rw [cat_ok (by rw [bsize_append]; omega), hnum, awake_val]
  simp only [Option.bind_some, cond_true]
  rw [hX]
  generalize (2 * (w * 10 ^ n + f) * 65536 + 10 ^ n) / (2 * 10 ^ n) = X at *
  generalize 10 ^ n = t at *
  have c1 : (X : Int) * (t : Int) = ((X * t : Nat) : Int) := (Int.natCast_mul _ _).symm
  have c2 : (w : Int) * (t : Int) = ((w * t : Nat) : Int) := (Int.natCast_mul _ _).symm
  simp only [c1, c2] at x2 x3 ⊢
  generalize X * t = y at *
  generalize w * t = z at *
  simp (disch := omega) only [dif_dec, dif_ndec, bif_eq, bif_neq, bif_ne, bif_nne, w64, wu64, Int.toNat_natCast, Option.bind_some, cond_true, cond_false, Bool.not_true, Bool.not_false, Sum.elim_inl, Sum.elim_inr, decide_eq_true x2]
  rw [decide_eq_true x3]
theorem nearest_good (x : ArgT [.lf (.int .u16), .lf (.int .u16), .lf (.int .u8)]) (g : GoodAll [.lf (.int .u16), .lf (.int .u16), .lf (.int .u8)] x) : armplanlaw6_TokenNearest.F x.1 x.2.1 x.2.2.1 = some true := by
  obtain ⟨g1, g2, g3, _⟩ := g
  simp only [Good, IntKind.min, IntKind.max] at g1 g2 g3
  exact nearest_law g1 g2 g3
end Go.Abs
