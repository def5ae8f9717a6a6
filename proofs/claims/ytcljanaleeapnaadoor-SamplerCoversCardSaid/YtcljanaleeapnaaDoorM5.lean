/- A part of the proof that the text with the row names: printed readings of functions, or plain lemmas about them. -/
import Derived.Test.YtcljanaleeapnaaDoorM4
set_option linter.unusedVariables false
set_option linter.unusedSimpArgs false
namespace Go.Abs
open Go

theorem div64_zero {l d : Nat} (hl : l < 2 ^ 64) (hd : 0 < d) : bits_Div64.F 0 (l : Int) (d : Int) = some (((l / d : Nat) : Int), ((l % d : Nat) : Int)) := by
  rw [bits_Div64.F_eq]
  unfold bits_Div64.F0
  rw [bif_neq (by omega), dif_ndec (by omega), bif_eq rfl, bif_ne (by omega), bif_ne (by omega), tdiv_nat, tmod_nat, wu64_nat, Nat.mod_eq_of_lt]
  exact Nat.lt_of_le_of_lt (Nat.div_le_self _ _) hl
theorem lz_val {y : Nat} (h0 : 0 < y) (hy : y < 2 ^ 64) : ∃ s : Nat, bits_LeadingZeros64.F (y : Int) = some (s : Int) ∧ s ≤ 63 ∧ 2 ^ 63 ≤ y * 2 ^ s ∧ y * 2 ^ s < 2 ^ 64 := by
  obtain ⟨L, h, h1, h2, h3, h4⟩ := len64_val h0 hy
  rw [bits_LeadingZeros64.F_eq]
  unfold bits_LeadingZeros64.F0
  rw [h, Option.bind_some, w64 (by omega) (by omega)]
  refine ⟨64 - L, ?_, by omega, ?_, ?_⟩
  · congr 1; omega
  · calc 2 ^ 63 = 2 ^ (L - 1) * 2 ^ (64 - L) := by rw [← Nat.pow_add]; congr 1; omega
      _ ≤ _ := Nat.mul_le_mul_right _ h3
  · calc y * 2 ^ (64 - L) < 2 ^ L * 2 ^ (64 - L) := Nat.mul_lt_mul_of_pos_right h4 (Nat.pow_pos (by omega))
      _ = 2 ^ 64 := by rw [← Nat.pow_add]; congr 1; omega
theorem shl_nat (a k : Nat) (hk : k ≤ 64) (h : a * 2 ^ k < 2 ^ 64) : shlI .u64 (a : Int) (k : Int) = ((a * 2 ^ k : Nat) : Int) := by
  unfold shlI
  rw [show min ((k : Int).toNat) (IntKind.bits .u64) = k by simp [IntKind.bits]; omega, show (2 ^ k : Int) = ((2 ^ k : Nat) : Int) by push_cast; rfl, ← Int.natCast_mul, wu64_nat, Nat.mod_eq_of_lt h]

def div64M (r : Int) : Nat := if r < 4294967296 then (4294967296 - r).toNat else 4294967297
theorem div64_next {r v : Int} (h0 : 0 ≤ r) (h1 : r ≤ 18446744073709551615) (hv : 1 ≤ v) (hv' : v < 4294967296) (h : ¬ IntKind.wrap .u64 (r + v) ≥ 4294967296) : div64M (IntKind.wrap .u64 (r + v)) < div64M r ∧ 0 ≤ IntKind.wrap .u64 (r + v) ∧ IntKind.wrap .u64 (r + v) ≤ 18446744073709551615 := by
  unfold div64M
  by_cases hr : r < 4294967296
  · rw [wu64 (by omega) (by omega)] at h ⊢
    rw [if_pos hr, if_pos (by omega)]
    omega
  · rw [if_neg hr, if_pos (by omega)]
    rw [IntKind.wrap_u64] at h ⊢
    omega
theorem div64_p0 (a b : Int) (v : Int) (hv : 1 ≤ v) (hv' : v < 4294967296) (c d e f q r : Int) (h0 : 0 ≤ r) (h1 : r ≤ 18446744073709551615) :
    ∃ o, loopF bits_Div64.p0.step (a, b, v, c, d, e, f, q, r) = some o ∧ o.2.1 = b ∧ o.2.2.1 = v := by
  refine loop_rule (step := bits_Div64.p0.step) (fun s => s.2.1 = b ∧ s.2.2.1 = v ∧ 0 ≤ s.2.2.2.2.2.2.2.2 ∧ s.2.2.2.2.2.2.2.2 ≤ 18446744073709551615) (fun o => o.2.1 = b ∧ o.2.2.1 = v) (fun s => div64M s.2.2.2.2.2.2.2.2) ?_ _ ⟨rfl, rfl, h0, h1⟩
  rintro ⟨a, b', v', c, d, e, f, q, r⟩ ⟨rfl, rfl, h0, h1⟩
  simp only [bits_Div64.p0.step, bits_Div64.p0.round] at *
  have key : (∃ y, (bif decide (IntKind.wrap .u64 (r + v') ≥ 4294967296) then some (Sum.inr (a, b', v', c, d, e, f, IntKind.wrap .u64 (q - 1))) else some (Sum.inl (a, b', v', c, d, e, f, IntKind.wrap .u64 (q - 1), IntKind.wrap .u64 (r + v'))) : Option ((Int × Int × Int × Int × Int × Int × Int × Int × Int) ⊕ (Int × Int × Int × Int × Int × Int × Int × Int))) = some (.inl y) ∧ (y.2.1 = b' ∧ y.2.2.1 = v' ∧ 0 ≤ y.2.2.2.2.2.2.2.2 ∧ y.2.2.2.2.2.2.2.2 ≤ 18446744073709551615) ∧ div64M y.2.2.2.2.2.2.2.2 < div64M r) ∨
      (∃ o, (bif decide (IntKind.wrap .u64 (r + v') ≥ 4294967296) then some (Sum.inr (a, b', v', c, d, e, f, IntKind.wrap .u64 (q - 1))) else some (Sum.inl (a, b', v', c, d, e, f, IntKind.wrap .u64 (q - 1), IntKind.wrap .u64 (r + v'))) : Option ((Int × Int × Int × Int × Int × Int × Int × Int × Int) ⊕ (Int × Int × Int × Int × Int × Int × Int × Int))) = some (.inr o) ∧ o.2.1 = b' ∧ o.2.2.1 = v') := by
    by_cases h : IntKind.wrap .u64 (r + v') ≥ 4294967296
    · rw [dif_dec h]; exact .inr ⟨_, rfl, rfl, rfl⟩
    · rw [dif_ndec h]
      obtain ⟨g1, g2, g3⟩ := div64_next h0 h1 hv hv' h
      exact .inl ⟨_, rfl, ⟨rfl, rfl, g2, g3⟩, g1⟩
  by_cases h2 : q ≥ 4294967296
  · rw [dif_dec h2]; exact key
  · rw [dif_ndec h2]
    by_cases h3 : IntKind.wrap .u64 (q * c) > IntKind.wrap .u64 (IntKind.wrap .u64 (4294967296 * r) + e)
    · rw [dif_dec h3]; exact key
    · rw [dif_ndec h3]; exact .inr ⟨_, rfl, rfl, rfl⟩
theorem div64_p1 (a b : Int) (v : Int) (hv : 1 ≤ v) (hv' : v < 4294967296) (c d e r f q : Int) (h0 : 0 ≤ r) (h1 : r ≤ 18446744073709551615) :
    ∃ o, loopF bits_Div64.p1.step (a, b, v, c, d, e, r, f, q) = some o ∧ o.2.1 = b := by
  refine loop_rule (step := bits_Div64.p1.step) (fun s => s.2.1 = b ∧ s.2.2.1 = v ∧ 0 ≤ s.2.2.2.2.2.2.1 ∧ s.2.2.2.2.2.2.1 ≤ 18446744073709551615) (fun o => o.2.1 = b) (fun s => div64M s.2.2.2.2.2.2.1) ?_ _ ⟨rfl, rfl, h0, h1⟩
  rintro ⟨a, b', v', c, d, e, r, f, q⟩ ⟨rfl, rfl, h0, h1⟩
  simp only [bits_Div64.p1.step, bits_Div64.p1.round] at *
  have key : (∃ y, (bif decide (IntKind.wrap .u64 (r + v') ≥ 4294967296) then some (Sum.inr (a, b', d, e, f, IntKind.wrap .u64 (q - 1))) else some (Sum.inl (a, b', v', c, d, e, IntKind.wrap .u64 (r + v'), f, IntKind.wrap .u64 (q - 1))) : Option ((Int × Int × Int × Int × Int × Int × Int × Int × Int) ⊕ (Int × Int × Int × Int × Int × Int))) = some (.inl y) ∧ (y.2.1 = b' ∧ y.2.2.1 = v' ∧ 0 ≤ y.2.2.2.2.2.2.1 ∧ y.2.2.2.2.2.2.1 ≤ 18446744073709551615) ∧ div64M y.2.2.2.2.2.2.1 < div64M r) ∨
      (∃ o, (bif decide (IntKind.wrap .u64 (r + v') ≥ 4294967296) then some (Sum.inr (a, b', d, e, f, IntKind.wrap .u64 (q - 1))) else some (Sum.inl (a, b', v', c, d, e, IntKind.wrap .u64 (r + v'), f, IntKind.wrap .u64 (q - 1))) : Option ((Int × Int × Int × Int × Int × Int × Int × Int × Int) ⊕ (Int × Int × Int × Int × Int × Int))) = some (.inr o) ∧ o.2.1 = b') := by
    by_cases h : IntKind.wrap .u64 (r + v') ≥ 4294967296
    · rw [dif_dec h]; exact .inr ⟨_, rfl, rfl⟩
    · rw [dif_ndec h]
      obtain ⟨g1, g2, g3⟩ := div64_next h0 h1 hv hv' h
      exact .inl ⟨_, rfl, ⟨rfl, rfl, g2, g3⟩, g1⟩
  by_cases h2 : q ≥ 4294967296
  · rw [dif_dec h2]; exact key
  · rw [dif_ndec h2]
    by_cases h3 : IntKind.wrap .u64 (q * c) > IntKind.wrap .u64 (IntKind.wrap .u64 (4294967296 * r) + d)
    · rw [dif_dec h3]; exact key
    · rw [dif_ndec h3]; exact .inr ⟨_, rfl, rfl⟩
theorem wu64_range (n : Int) : 0 ≤ IntKind.wrap .u64 n ∧ IntKind.wrap .u64 n ≤ 18446744073709551615 := by
  rw [IntKind.wrap_u64]; omega

theorem div64_some {h l d : Int} (h0 : 0 ≤ h) (hd : h < d) (hd' : d ≤ 18446744073709551615) : ∃ r, bits_Div64.F h l d = some r := by
  rw [bits_Div64.F_eq]
  unfold bits_Div64.F0
  rw [bif_neq (by omega), dif_ndec (by omega)]
  by_cases hz : h = 0
  · rw [bif_eq hz, bif_ne (by omega), bif_ne (by omega)]
    exact ⟨_, rfl⟩
  · rw [bif_neq hz]
    obtain ⟨y, rfl⟩ : ∃ y : Nat, d = y := ⟨d.toNat, by omega⟩
    obtain ⟨s, hs, hs1, hs2, hs3⟩ := lz_val (y := y) (by omega) (by omega)
    rw [hs, Option.bind_some]
    have es : IntKind.wrap .u64 (s : Int) = (s : Int) := wu64 (by omega) (by omega)
    rw [es, dif_dec (by omega), dif_dec (by omega), dif_dec (wu64_range _).1, dif_dec (by omega)]
    rw [shl_nat y s (by omega) hs3, show (32 : Int) = ((32 : Nat) : Int) from rfl, shr_nat _ 32 (by decide)]
    have hv : (1 : Int) ≤ ((y * 2 ^ s / 2 ^ 32 : Nat) : Int) := by omega
    have hv' : ((y * 2 ^ s / 2 ^ 32 : Nat) : Int) < 4294967296 := by omega
    rw [bif_ne (by omega)]
    refine (fun {α β : Type} {x : Option α} {f : α → Option β} {Q : α → Prop} (hx : ∃ o, x = some o ∧ Q o) (hf : ∀ o, Q o → ∃ r, f o = some r) => show ∃ r, x.bind f = some r from by obtain ⟨o, e, q⟩ := hx; rw [e]; exact hf o q) (div64_p0 _ (s : Int) _ hv hv' _ _ _ _ _ _ (wu64_range _).1 (wu64_range _).2) ?_
    rintro ⟨o1, o2, o3, o4, o5, o6, o7, o8⟩ ⟨e1, e2⟩
    simp only [] at e1 e2
    subst e1
    subst e2
    simp only []
    rw [bif_ne (by omega)]
    refine (fun {α β : Type} {x : Option α} {f : α → Option β} {Q : α → Prop} (hx : ∃ o, x = some o ∧ Q o) (hf : ∀ o, Q o → ∃ r, f o = some r) => show ∃ r, x.bind f = some r from by obtain ⟨o, e, q⟩ := hx; rw [e]; exact hf o q) (div64_p1 _ (s : Int) _ hv hv' _ _ _ _ _ _ (wu64_range _).1 (wu64_range _).2) ?_
    rintro ⟨p1, p2, p3, p4, p5, p6⟩ e1
    simp only [] at e1
    subst e1
    simp only []
    rw [dif_dec (by omega)]
    exact ⟨_, rfl⟩
end Go.Abs
