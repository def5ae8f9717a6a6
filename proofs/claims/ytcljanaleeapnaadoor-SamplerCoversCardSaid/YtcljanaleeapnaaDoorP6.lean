/- A part of the proof that the text with the row names: printed readings of functions, or plain lemmas about them. -/
import Derived.Test.YtcljanaleeapnaaDoorL6
import Derived.Test.YtcljanaleeapnaaDoorP12
set_option linter.unusedVariables false
set_option linter.unusedSimpArgs false
namespace Go.Abs
open Go
theorem covers_box {b : List (Int × Int)} (hm : Moderate b) (hm' : ∀ x ∈ b, x.1 ≤ 40) {L H : Int} (hL : -1000 < L) (hL' : L < 1000) (hH : L ≤ H) (hH' : H ≤ L + 127) :
    (b.set 0 (L, H)).length = b.length ∧ lo_ (b.set 0 (L, H)) 0 = L ∧ hi_ (b.set 0 (L, H)) 0 = H ∧ usB (b.set 0 (L, H)) = true ∧ ∀ i, i < b.length → validB (lo_ (b.set 0 (L, H)) i) (hi_ (b.set 0 (L, H)) i) = true ∧ hi_ (b.set 0 (L, H)) i ≤ lo_ (b.set 0 (L, H)) i + 200 := by
  have h1 := hm.1
  have h3 := hm.2.1
  have hl : (b.set 0 (L, H)).length = b.length := by simp
  have h0 : (b.set 0 (L, H)).getD 0 ((0 : Int), (0 : Int)) = (L, H) := by
    rw [List.getD_eq_getElem?_getD, List.getElem?_set_self (by omega)]; rfl
  have hi : ∀ i, i < b.length → validB (lo_ (b.set 0 (L, H)) i) (hi_ (b.set 0 (L, H)) i) = true ∧ hi_ (b.set 0 (L, H)) i ≤ lo_ (b.set 0 (L, H)) i + 200 := by
    intro i hi
    by_cases e : i = 0
    · subst e
      unfold lo_ hi_
      rw [h0]
      exact ⟨validB_iff.2 ⟨by simp only []; omega, by simp only []; omega, by simp only []; omega⟩, by simp only []; omega⟩
    · have h := moderate_valid hm hm' i hi
      have e2 : (b.set 0 (L, H)).getD i ((0 : Int), (0 : Int)) = b.getD i ((0 : Int), (0 : Int)) := by
        rw [List.getD_eq_getElem?_getD, List.getElem?_set_ne (by omega), ← List.getD_eq_getElem?_getD]
      unfold lo_ hi_ at h ⊢
      rw [e2]
      exact ⟨h.1, by omega⟩
  refine ⟨hl, by unfold lo_; rw [h0], by unfold hi_; rw [h0], usB_iff.2 ⟨by omega, by omega, fun i hi' => (hi i (by omega)).1⟩, hi⟩
theorem covers_step {b : List (Int × Int)} {s : List Bool} {m i : Nat} {L : Int} (hm7 : m < 8) (hL : -1000 < L) (hL' : L < 1000) (hlen : 1 ≤ b.length) (hlen' : b.length ≤ 3) (h0 : lo_ b 0 = L) (h1 : hi_ b 0 = L + 2 ^ m - 1) (hus : usB b = true)
    (hv' : validB (lo_ b 0) (hi_ b 0) = true) (hi : i < 2 ^ m) (hsl : s.length = 2 ^ m) (hsf : s.getD (lead 2 m i) false = false) :
    armplanlaw23_SamplerCovers.p0.step (((2 ^ m : Nat) : Int), (i : Int), b, s) = some (.inl (((2 ^ m : Nat) : Int), ((i + 1 : Nat) : Int), b, s.set (lead 2 m i) true)) := by
  have hp : 2 ^ m ≤ 2 ^ 7 := Nat.pow_le_pow_right (by decide) (by omega)
  have hlt := lead_lt (b := 2) (by decide) m i
  have hpi : (2 : Int) ^ m = ((2 ^ m : Nat) : Int) := by push_cast; rfl
  rw [hpi] at h1
  have hq : hv b i 0 = L + ((lead 2 m i : Nat) : Int) := by
    have := (hv_range (b := b) (i := i) (k := 0) (by decide) hv' (by omega)).1
    rw [this, h0, h1, show (L + ((2 ^ m : Nat) : Int) - 1 - L + 1).toNat = 2 ^ m by omega]
    have h3 := rv_lead (b := 2) (by decide) m 32 (i % 2 ^ 32) (Nat.mod_lt _ (by decide))
    rw [Nat.mod_eq_of_lt (a := i) (by omega)] at h3
    unfold radN radD
    rw [show primeN 0 = 2 from rfl, Nat.mod_eq_of_lt (a := i) (by omega), h3]
  have hg : ((List.range b.length).map (hv b i)).getD 0 0 = L + ((lead 2 m i : Nat) : Int) := by
    rw [List.getD_eq_getElem?_getD, List.getElem?_map, List.getElem?_range (by omega), ← hq]; rfl
  unfold armplanlaw23_SamplerCovers.p0.step armplanlaw23_SamplerCovers.p0.round
  simp only []
  rw [dif_dec (by omega), wu64 (by omega) (by omega), halton_val i (by omega), Option.bind_some, if_pos hus]
  unfold lo_ at h0
  unfold hi_ at h1
  simp only [List.length_map, List.length_range, hg, h0, h1]
  have hw : IntKind.wrap .i64 (L + ((lead 2 m i : Nat) : Int) - L) = ((lead 2 m i : Nat) : Int) := by rw [w64 (by omega) (by omega)]; omega
  rw [hw]
  have d1 : decide ((0 : Int) < (b.length : Int)) = true := decide_eq_true (by omega)
  have d2 : decide ((0 : Int) ≤ ((lead 2 m i : Nat) : Int)) = true := decide_eq_true (by omega)
  have d3 : decide (((lead 2 m i : Nat) : Int) < (s.length : Int)) = true := decide_eq_true (by omega)
  rw [bif_nne rfl]
  simp only [d1, d2, d3, cond_true, Int.toNat_natCast, hsf, cond_false]
  rw [dif_ndec (by omega), dif_ndec (by omega), w64 (by omega) (by omega)]
  rfl
theorem shl_one : ∀ m : Nat, m < 8 → shlI .i64 1 (m : Int) = ((2 ^ m : Nat) : Int) := by decide +kernel
theorem covers_true {l : List Int} (m lo : Int) (hl : l.length ≤ 2 ^ 60) : armplanlaw23_SamplerCovers.F l m lo = some true := by
  rw [armplanlaw23_SamplerCovers.F_eq]
  unfold armplanlaw23_SamplerCovers.F0
  obtain ⟨b, hb, hm, hm'⟩ := root_val hl
  have hb1 := hm.1
  have hb3 := hm.2.1
  rw [round_val (by decide) (by decide), Option.bind_some]
  have m1 := Int.emod_nonneg m (show (8 : Int) ≠ 0 by decide)
  have m2 := Int.emod_lt_of_pos m (show (0 : Int) < 8 by decide)
  obtain ⟨e, he⟩ : ∃ e : Nat, m % 8 = e := ⟨(m % 8).toNat, by omega⟩
  rw [he, wu64 (by omega) (by omega), dif_dec (by omega), hb, Option.bind_some]
  rw [shl_one e (by omega)]
  have hp : 2 ^ e ≤ 2 ^ 7 := Nat.pow_le_pow_right (by decide) (by omega)
  have hp1 : 1 ≤ 2 ^ e := Nat.one_le_two_pow
  have t1 : -1000 < lo.tmod 1000 := Int.lt_tmod_of_pos lo (by decide)
  have t2 : lo.tmod 1000 < 1000 := Int.tmod_lt_of_pos lo (by decide)
  generalize lo.tmod 1000 = L at *
  have hg0 : ∀ v : Int × Int, (b.set 0 v).getD 0 ((0 : Int), (0 : Int)) = v := by
    intro v
    rw [List.getD_eq_getElem?_getD, List.getElem?_set_self (by omega)]; rfl
  simp only [hg0, List.length_set, List.set_set]
  rw [w64 (n := L + ((2 ^ e : Nat) : Int)) (by omega) (by omega), w64 (by omega) (by omega)]
  have d1 : decide ((0 : Int) < (b.length : Int)) = true := decide_eq_true (by omega)
  simp only [d1, cond_true]
  rw [dif_dec (by omega), Int.toNat_natCast, dif_dec (by omega)]
  obtain ⟨x1, x2, x3, x4, x5⟩ := covers_box hm hm' t1 t2 (H := L + ((2 ^ e : Nat) : Int) - 1) (by omega) (by omega)
  generalize b.set 0 (L, L + ((2 ^ e : Nat) : Int) - 1) = b2 at *
  have hpi : (2 : Int) ^ e = ((2 ^ e : Nat) : Int) := by push_cast; rfl
  have hloop : ∃ o, loopF armplanlaw23_SamplerCovers.p0.step (((2 ^ e : Nat) : Int), (0 : Int), b2, List.replicate (2 ^ e) false) = some o ∧ o = Sum.inr () := by
    refine loop_rule (fun st => ∃ (i : Nat) (s : List Bool), st = (((2 ^ e : Nat) : Int), (i : Int), b2, s) ∧ i ≤ 2 ^ e ∧ Marks (lead 2 e) (2 ^ e) 0 i s) (fun o => o = Sum.inr ()) (fun st => (2 ^ e - st.2.1.toNat)) ?_ _ ⟨0, _, rfl, Nat.zero_le _, Marks.start _ _ _⟩
    rintro _ ⟨i, s, rfl, hi, hM⟩
    by_cases h : i < 2 ^ e
    · refine .inl ⟨_, covers_step (by omega) t1 t2 (by omega) (by omega) x2 (by rw [hpi]; exact x3) x4 (x5 0 (by omega)).1 h hM.len (hM.free fun j _ hj e' => ?_), ⟨i + 1, _, rfl, h, hM.next (Nat.zero_le _)⟩, ?_⟩
      · have := lead_inj (by omega) e j i e'
        rw [Nat.mod_eq_of_lt (by omega), Nat.mod_eq_of_lt (by omega)] at this
        omega
      · simp only [Int.toNat_natCast]
        omega
    · refine .inr ⟨_, ?_, rfl⟩
      unfold armplanlaw23_SamplerCovers.p0.step armplanlaw23_SamplerCovers.p0.round
      simp only []
      rw [dif_ndec (by omega)]
  obtain ⟨o, ho, rfl⟩ := hloop
  rw [ho]
  simp only [Option.bind_some, Sum.elim_inr, awake_true]
theorem covers_good (x : List Int × Int × Int × Unit) (g : GoodAll [.lf (.slc (.int .i64)), .lf (.int .i64), .lf (.int .i64)] x) : armplanlaw23_SamplerCovers.F x.1 x.2.1 x.2.2.1 = some true := by
  obtain ⟨⟨h2, _⟩, _⟩ := g
  simp only [minB, reachBytes] at h2
  exact covers_true _ _ (by omega)
end Go.Abs
