/- A part of the proof that the text with the row names: printed readings of functions, or plain lemmas about them. -/
import Derived.Test.YtcljanaleeapnaaDoorM6
set_option linter.unusedVariables false
set_option linter.unusedSimpArgs false
namespace Go.Abs
open Go

abbrev lo_ (b : List (Int × Int)) (i : Nat) : Int := (b.getD i ((0 : Int), (0 : Int))).1
abbrev hi_ (b : List (Int × Int)) (i : Nat) : Int := (b.getD i ((0 : Int), (0 : Int))).2
def usB (b : List (Int × Int)) : Bool := decide (1 ≤ b.length) && (decide (b.length ≤ 10) && allB (fun i => validB (lo_ b i) (hi_ b i)) 0 b.length)
theorem usB_iff {b : List (Int × Int)} : usB b = true ↔ 1 ≤ b.length ∧ b.length ≤ 10 ∧ ∀ i, i < b.length → validB (lo_ b i) (hi_ b i) = true := by
  unfold usB
  simp only [Bool.and_eq_true, decide_eq_true_eq, allB_iff, Nat.zero_add]
  exact ⟨fun ⟨h1, h2, h3⟩ => ⟨h1, h2, fun i hi => h3 i (Nat.zero_le _) hi⟩, fun ⟨h1, h2, h3⟩ => ⟨h1, h2, fun i _ hi => h3 i hi⟩⟩
theorem usable_val {b : List (Int × Int)} (hb : b.length ≤ 2 ^ 60) : sampler_usable.F b = some (usB b) := by
  rw [sampler_usable.F_eq]
  unfold sampler_usable.F0 usB
  by_cases h1 : 1 ≤ b.length
  · rw [bif_neq (by omega)]
    by_cases h2 : b.length ≤ 10
    · rw [dif_ndec (by omega)]
      have := loop_all (step := sampler_usable.p0.step) (fun i : Nat => (b, (b.length : Int), (i : Int))) b.length (fun i => validB (lo_ b i) (hi_ b i)) (.inl false) (.inr ()) (by
        intro i hi
        unfold sampler_usable.p0.step sampler_usable.p0.round
        simp only []
        rw [dif_dec (by omega), dif_dec (by omega), dif_dec (by omega), Int.toNat_natCast, ivalid_val, Option.bind_some, w64 (by omega) (by omega)]
        cases hv : validB (lo_ b i) (hi_ b i) with
        | true => simp [hv]
        | false => simp [hv]) (by
        unfold sampler_usable.p0.step sampler_usable.p0.round
        simp only []
        rw [dif_ndec (by omega)]) b.length 0 (by omega)
      rw [show ((0 : Nat) : Int) = 0 from rfl] at this
      rw [this, Option.bind_some]
      simp only [h1, h2, decide_true, Bool.true_and]
      cases allB (fun i => validB (lo_ b i) (hi_ b i)) 0 b.length <;> rfl
    · rw [dif_dec (by omega)]; simp [h2]
  · rw [bif_eq (by omega)]; simp [h1]
theorem sampled_val {b : List (Int × Int)} (hb : b.length ≤ 2 ^ 60) : armplanref23_sampled.F b = some (usB b) := by
  rw [armplanref23_sampled.F_eq]
  unfold armplanref23_sampled.F0 usB
  by_cases h1 : 1 ≤ b.length
  · rw [dif_ndec (by omega)]
    by_cases h2 : b.length ≤ 10
    · rw [dif_ndec (by omega)]
      have := loop_all (step := armplanref23_sampled.p0.step) (fun i : Nat => (b, (i : Int))) b.length (fun i => validB (lo_ b i) (hi_ b i)) (.inl false) (.inr ()) (by
        intro i hi
        unfold armplanref23_sampled.p0.step armplanref23_sampled.p0.round
        simp only []
        rw [dif_dec (by omega), dif_dec (by omega), dif_dec (by omega), Int.toNat_natCast, rvalid_val, Option.bind_some, w64 (by omega) (by omega)]
        cases hv : validB (lo_ b i) (hi_ b i) with
        | true => simp [hv]
        | false => simp [hv]) (by
        unfold armplanref23_sampled.p0.step armplanref23_sampled.p0.round
        simp only []
        rw [dif_ndec (by omega)]) b.length 0 (by omega)
      rw [show ((0 : Nat) : Int) = 0 from rfl] at this
      rw [this, Option.bind_some]
      simp only [h1, h2, decide_true, Bool.true_and]
      cases allB (fun i => validB (lo_ b i) (hi_ b i)) 0 b.length <;> rfl
    · rw [dif_dec (by omega)]; simp [h2]
  · rw [dif_dec (by omega)]; simp [h1]

/-! ### Halton, Uniform -/
theorem primeN_facts : ∀ k : Nat, k < 10 → 2 ≤ primeN k ∧ primeN k ≤ 29 := by decide
def radN (k i : Nat) : Nat := rv (primeN k) 32 (i % 2 ^ 32)
def radD (k i : Nat) : Nat := primeN k ^ nd (primeN k) 32 (i % 2 ^ 32)
theorem rad_at {k i : Nat} (h : k < 10) : sampler_Radical.F ((primeN k : Nat) : Int) (i : Int) = some ((radN k i : Int), (radD k i : Int)) ∧ radN k i < radD k i ∧ radD k i ≤ 2 ^ 37 := by
  obtain ⟨h1, h2⟩ := primeN_facts k h
  exact ⟨rad_val h1 h2, rv_lt h1 _ _, den_le h1 h2 (Nat.mod_lt _ (by decide))⟩
noncomputable def hv (b : List (Int × Int)) (i k : Nat) : Int := (sampler_Place.F (radN k i : Int) (radD k i : Int) (lo_ b k) (hi_ b k)).getD 0
theorem hv_val (b : List (Int × Int)) {i k : Nat} (h : k < 10) : sampler_Place.F (radN k i : Int) (radD k i : Int) (lo_ b k) (hi_ b k) = some (hv b i k) ∧ armplanref23_Place.F (radN k i : Int) (radD k i : Int) (lo_ b k) (hi_ b k) = some (hv b i k) := by
  obtain ⟨_, h1, h2⟩ := rad_at (i := i) h
  obtain ⟨e, r, hr⟩ := place_eq (num := (radN k i : Int)) (den := (radD k i : Int)) (lo := lo_ b k) (hi := hi_ b k) (by omega) (by omega) (by omega) (by omega)
  unfold hv
  rw [e, hr]
  exact ⟨rfl, rfl⟩
theorem halton_val {b : List (Int × Int)} (i : Nat) (hb : b.length ≤ 2 ^ 60) : sampler_Halton.F b (i : Int) = some (if usB b = true then (List.range b.length).map (hv b i) else []) := by
  rw [sampler_Halton.F_eq]
  unfold sampler_Halton.F0
  rw [usable_val hb, Option.bind_some]
  cases hu : usB b with
  | false => rfl
  | true =>
    obtain ⟨h1, h2, h3⟩ := usB_iff.1 hu
    rw [Bool.not_true, cond_false, dif_dec (by omega), dif_dec (by omega), Int.toNat_natCast, if_pos rfl]
    have := loop_count (step := sampler_Halton.p0.step) (fun j : Nat => ((i : Int), b, (b.length : Int), (j : Int), fill (hv b i) 0 b.length j)) b.length ((List.range b.length).map (hv b i)) (by
      intro j hj
      obtain ⟨r1, _, _⟩ := rad_at (i := i) (show j < 10 by omega)
      unfold sampler_Halton.p0.step sampler_Halton.p0.round
      simp only []
      rw [dif_dec (by omega), dif_dec (by omega), dif_dec (by omega), Int.toNat_natCast, prime_val (by omega), Option.bind_some, r1, Option.bind_some]
      simp only []
      rw [(hv_val b (show j < 10 by omega)).1, Option.bind_some, dif_dec (by omega), dif_dec (by rw [fill_length (by omega)]; omega), w64 (by omega) (by omega), fill_set hj]
      rfl) (by
      unfold sampler_Halton.p0.step sampler_Halton.p0.round
      simp only []
      rw [dif_ndec (by omega), fill_end]) b.length 0 (by omega)
    rw [fill_zero, show ((0 : Nat) : Int) = 0 from rfl] at this
    rw [this]
    rfl
theorem rhalton_val {b : List (Int × Int)} (i : Nat) (hb : b.length ≤ 2 ^ 60) : armplanref23_Halton.F b (i : Int) = some (if usB b = true then (List.range b.length).map (hv b i) else []) := by
  rw [armplanref23_Halton.F_eq]
  unfold armplanref23_Halton.F0
  rw [sampled_val hb, Option.bind_some]
  cases hu : usB b with
  | false => rfl
  | true =>
    obtain ⟨h1, h2, h3⟩ := usB_iff.1 hu
    rw [Bool.not_true, cond_false, if_pos rfl]
    have := loop_count (step := armplanref23_Halton.p0.step) (fun j : Nat => (b, (i : Int), (j : Int), (List.range j).map (hv b i))) b.length ((List.range b.length).map (hv b i)) (by
      intro j hj
      obtain ⟨r1, _, _⟩ := rad_at (i := i) (show j < 10 by omega)
      unfold armplanref23_Halton.p0.step armplanref23_Halton.p0.round
      simp only []
      rw [dif_dec (by omega), prime_eq, prime_val (by omega), Option.bind_some, radical_eq, r1, Option.bind_some, dif_dec (by omega), dif_dec (by omega), dif_dec (by omega), dif_dec (by omega), Int.toNat_natCast]
      simp only []
      rw [(hv_val b (show j < 10 by omega)).2, Option.bind_some, dif_dec (by simp; omega), w64 (by omega) (by omega), range_map_succ]
      rfl) (by
      unfold armplanref23_Halton.p0.step armplanref23_Halton.p0.round
      simp only []
      rw [dif_ndec (by omega)]) b.length 0 (by omega)
    rw [show ((0 : Nat) : Int) = 0 from rfl] at this
    rw [List.range_zero, List.map_nil] at this
    rw [this]
    rfl
def wordAt (b : List (Int × Int)) (s i : Int) (k : Nat) : Int := IntKind.wrap .u64 (IntKind.wrap .u64 (i * IntKind.wrap .u64 (b.length : Int)) + IntKind.wrap .u64 (k : Int))
noncomputable def uv (b : List (Int × Int)) (s i : Int) (k : Nat) : Int := ((sampler_Word.F s (wordAt b s i k)).bind fun r => sampler_Spread.F r (lo_ b k) (hi_ b k)).getD 0
theorem uv_val (b : List (Int × Int)) {s i : Int} (hs : 0 ≤ s) (hs' : s ≤ 18446744073709551615) {k : Nat} (hv : validB (lo_ b k) (hi_ b k) = true) :
    ∃ w : Nat, sampler_Word.F s (wordAt b s i k) = some (w : Int) ∧ w < 2 ^ 64 ∧ sampler_Spread.F (w : Int) (lo_ b k) (hi_ b k) = some (uv b s i k) ∧ armplanref23_Spread.F (w : Int) (lo_ b k) (hi_ b k) = some (uv b s i k) ∧ lo_ b k ≤ uv b s i k ∧ uv b s i k ≤ hi_ b k := by
  obtain ⟨h1, h2, h3⟩ := validB_iff.1 hv
  obtain ⟨r, hr, r0, r1⟩ := word_some' (s := s) (i := wordAt b s i k) hs hs' (wu64_range _).1 (wu64_range _).2
  obtain ⟨w, rfl⟩ : ∃ n : Nat, r = n := ⟨r.toNat, by omega⟩
  have hsp := spread_val (w := w) (by omega) hv
  have he : uv b s i k = spreadV w (lo_ b k) (hi_ b k) := by
    unfold uv
    rw [hr, Option.bind_some, hsp]
    rfl
  have hrg := spreadV_range (w := w) (by omega) hv
  refine ⟨w, hr, by omega, by rw [he]; exact hsp, ?_, by rw [he]; exact hrg.1, by rw [he]; exact hrg.2⟩
  rw [rspread_eq (by omega) (by omega) (by omega), he]
  exact hsp
theorem uniform_val {b : List (Int × Int)} {s i : Int} (hs : 0 ≤ s) (hs' : s ≤ 18446744073709551615) (hb : b.length ≤ 2 ^ 60) : sampler_Uniform.F b s i = some (if usB b = true then (List.range b.length).map (uv b s i) else []) := by
  rw [sampler_Uniform.F_eq]
  unfold sampler_Uniform.F0
  rw [usable_val hb, Option.bind_some]
  cases hu : usB b with
  | false => rfl
  | true =>
    obtain ⟨h1, h2, h3⟩ := usB_iff.1 hu
    rw [Bool.not_true, cond_false, dif_dec (by omega), dif_dec (by omega), Int.toNat_natCast, if_pos rfl]
    have := loop_count (step := sampler_Uniform.p0.step) (fun j : Nat => (b, s, i, b, (b.length : Int), (j : Int), fill (uv b s i) 0 b.length j)) b.length ((List.range b.length).map (uv b s i)) (by
      intro j hj
      obtain ⟨w, w1, w2, w3, w4, _⟩ := uv_val b (i := i) hs hs' (h3 j hj)
      unfold sampler_Uniform.p0.step sampler_Uniform.p0.round
      simp only []
      rw [dif_dec (by omega), dif_dec (by omega), dif_dec (by omega), Int.toNat_natCast, show IntKind.wrap .u64 (IntKind.wrap .u64 (i * IntKind.wrap .u64 (b.length : Int)) + IntKind.wrap .u64 (j : Int)) = wordAt b s i j from rfl, w1, Option.bind_some]
      rw [w3, Option.bind_some, dif_dec (by omega), dif_dec (by rw [fill_length (by omega)]; omega), w64 (by omega) (by omega), fill_set hj]
      rfl) (by
      unfold sampler_Uniform.p0.step sampler_Uniform.p0.round
      simp only []
      rw [dif_ndec (by omega), fill_end]) b.length 0 (by omega)
    rw [fill_zero, show ((0 : Nat) : Int) = 0 from rfl] at this
    rw [this]
    rfl
theorem runiform_val {b : List (Int × Int)} {s i : Int} (hs : 0 ≤ s) (hs' : s ≤ 18446744073709551615) (hb : b.length ≤ 2 ^ 60) : armplanref23_Uniform.F b s i = some (if usB b = true then (List.range b.length).map (uv b s i) else []) := by
  rw [armplanref23_Uniform.F_eq]
  unfold armplanref23_Uniform.F0
  rw [sampled_val hb, Option.bind_some]
  cases hu : usB b with
  | false => rfl
  | true =>
    obtain ⟨h1, h2, h3⟩ := usB_iff.1 hu
    rw [Bool.not_true, cond_false, if_pos rfl]
    have := loop_count (step := armplanref23_Uniform.p0.step) (fun j : Nat => (b, s, i, (j : Int), (List.range j).map (uv b s i))) b.length ((List.range b.length).map (uv b s i)) (by
      intro j hj
      obtain ⟨w, w1, w2, w3, w4, _⟩ := uv_val b (i := i) hs hs' (h3 j hj)
      unfold armplanref23_Uniform.p0.step armplanref23_Uniform.p0.round
      simp only []
      rw [dif_dec (by omega), ← word_eq, show IntKind.wrap .u64 (IntKind.wrap .u64 (i * IntKind.wrap .u64 (b.length : Int)) + IntKind.wrap .u64 (j : Int)) = wordAt b s i j from rfl, w1, Option.bind_some, dif_dec (by omega), dif_dec (by omega), dif_dec (by omega), dif_dec (by omega), Int.toNat_natCast]
      rw [w4, Option.bind_some, dif_dec (by simp; omega), w64 (by omega) (by omega), range_map_succ]
      rfl) (by
      unfold armplanref23_Uniform.p0.step armplanref23_Uniform.p0.round
      simp only []
      rw [dif_ndec (by omega)]) b.length 0 (by omega)
    rw [show ((0 : Nat) : Int) = 0 from rfl] at this
    rw [List.range_zero, List.map_nil] at this
    rw [this]
    rfl
theorem same_refl {l : List Int} (hl : l.length ≤ 2 ^ 60) : armplanmake_Same.F l l = some true := by
  rw [armplanmake_Same.F_eq]
  unfold armplanmake_Same.F0
  rw [bif_nne rfl]
  have := loop_count (step := armplanmake_Same.p0.step) (fun j : Nat => (l, l, (j : Int))) l.length (Sum.inr ()) (by
    intro j hj
    unfold armplanmake_Same.p0.step armplanmake_Same.p0.round
    simp only []
    rw [dif_dec (by omega), dif_dec (by omega), dif_dec (by omega), dif_dec (by omega), dif_dec (by omega), bif_nne rfl, w64 (by omega) (by omega)]
    rfl) (by
    unfold armplanmake_Same.p0.step armplanmake_Same.p0.round
    simp only []
    rw [dif_ndec (by omega)]) l.length 0 (by omega)
  rw [show ((0 : Nat) : Int) = 0 from rfl] at this
  rw [this]
  rfl
theorem ref1has_val {lo hi x : Int} (h : validB lo hi = true) (h1 : lo ≤ x) (h2 : x ≤ hi) : armplanref1_Has.F lo hi x = some true := by
  rw [armplanref1_Has.F_eq]
  unfold armplanref1_Has.F0
  rw [rvalid_val, h, Option.bind_some, cond_true, dif_dec h1, decide_eq_true h2]
theorem allValid_val {b : List (Int × Int)} (hb : b.length ≤ 2 ^ 60) (h : ∀ i, i < b.length → validB (lo_ b i) (hi_ b i) = true) : armplanref10_allValid.F b = some true := by
  rw [armplanref10_allValid.F_eq]
  unfold armplanref10_allValid.F0
  have := loop_count (step := armplanref10_allValid.p0.step) (fun j : Nat => (b, (j : Int))) b.length (Sum.inr ()) (by
    intro j hj
    unfold armplanref10_allValid.p0.step armplanref10_allValid.p0.round
    simp only []
    rw [dif_dec (by omega), dif_dec (by omega), dif_dec (by omega), Int.toNat_natCast, rvalid_val, h j hj, Option.bind_some, w64 (by omega) (by omega)]
    rfl) (by
    unfold armplanref10_allValid.p0.step armplanref10_allValid.p0.round
    simp only []
    rw [dif_ndec (by omega)]) b.length 0 (by omega)
  rw [show ((0 : Nat) : Int) = 0 from rfl] at this
  rw [this]
  rfl
theorem has_val {b : List (Int × Int)} {f : Nat → Int} (hb : b.length ≤ 2 ^ 60) (h : ∀ i, i < b.length → validB (lo_ b i) (hi_ b i) = true) (hf : ∀ i, i < b.length → lo_ b i ≤ f i ∧ f i ≤ hi_ b i) : armplanref10_Has.F b ((List.range b.length).map f) = some true := by
  rw [armplanref10_Has.F_eq]
  unfold armplanref10_Has.F0
  rw [allValid_val hb h, Option.bind_some, Bool.not_true, cond_false, bif_nne (by simp)]
  have := loop_count (step := armplanref10_Has.p0.step) (fun j : Nat => (b, (List.range b.length).map f, (j : Int))) b.length (Sum.inr ()) (by
    intro j hj
    unfold armplanref10_Has.p0.step armplanref10_Has.p0.round
    simp only [List.length_map, List.length_range]
    have hg : ((List.range b.length).map f).getD j 0 = f j := by rw [List.getD_eq_getElem?_getD]; simp [hj]
    rw [dif_dec (by omega), dif_dec (by omega), dif_dec (by omega), dif_dec (by omega), dif_dec (by omega), Int.toNat_natCast, hg, ref1has_val (h j hj) (hf j hj).1 (hf j hj).2, Option.bind_some, w64 (by omega) (by omega)]
    rfl) (by
    unfold armplanref10_Has.p0.step armplanref10_Has.p0.round
    simp only [List.length_map, List.length_range]
    rw [dif_ndec (by omega)]) b.length 0 (by omega)
  rw [show ((0 : Nat) : Int) = 0 from rfl] at this
  rw [this]
  rfl
theorem moderate_valid {b : List (Int × Int)} (hm : Moderate b) (hm' : ∀ x ∈ b, x.1 ≤ 40) : ∀ i, i < b.length → validB (lo_ b i) (hi_ b i) = true ∧ -40 ≤ lo_ b i ∧ lo_ b i ≤ hi_ b i ∧ hi_ b i ≤ lo_ b i + 59 ∧ lo_ b i ≤ 40 := by
  intro i hi
  have hmem : b.getD i ((0 : Int), (0 : Int)) ∈ b := by rw [List.getD_eq_getElem?_getD, List.getElem?_eq_getElem hi]; exact List.getElem_mem _
  have h1 := hm.2.2 _ hmem
  have h2 := hm' _ hmem
  refine ⟨validB_iff.2 ?_, h1.1, h1.2.1, h1.2.2, h2⟩
  show -2147483648 ≤ (b.getD i ((0 : Int), (0 : Int))).1 ∧ (b.getD i ((0 : Int), (0 : Int))).1 ≤ (b.getD i ((0 : Int), (0 : Int))).2 ∧ (b.getD i ((0 : Int), (0 : Int))).2 ≤ 2147483648
  omega
end Go.Abs
