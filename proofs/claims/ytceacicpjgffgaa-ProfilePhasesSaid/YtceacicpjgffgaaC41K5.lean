/- A part of the proof that the text with the row names: printed readings of functions, or plain lemmas about them. -/
import Derived.Test.YtceacicpjgffgaaC41K4
set_option linter.unusedVariables false
set_option linter.unusedSimpArgs false
namespace Go.Abs
open Go

/-! ### Ramps -/
theorem getD_mem {α : Type} {l : List α} {d : α} {i : Nat} (h : i < l.length) : l.getD i d ∈ l := by
  rw [List.getD_eq_getElem?_getD, List.getElem?_eq_getElem h]
  exact List.getElem_mem _
theorem mem_getD {α : Type} {l : List α} {d x : α} (h : x ∈ l) : ∃ i, i < l.length ∧ l.getD i d = x := by
  obtain ⟨i, hi, e⟩ := List.getElem_of_mem h
  exact ⟨i, hi, by rw [List.getD_eq_getElem?_getD, List.getElem?_eq_getElem hi, e]; rfl⟩
def rampL (d : Int) : Nat → List RT
  | 0 => []
  | k + 1 => rampL d k ++ [((k : Int), ((-1 : Int), ((1 : Int), d))), ((k : Int), ((1 : Int), ((-1 : Int), d)))]
theorem rampL_length (d : Int) : ∀ k, (rampL d k).length = 2 * k
  | 0 => rfl
  | k + 1 => by rw [rampL, List.length_append, rampL_length d k]; simp only [List.length_cons, List.length_nil]; omega
theorem rampL_mem {d : Int} {r : RT} : ∀ {k : Nat}, r ∈ rampL d k ↔ ∃ i, i < k ∧ (r = ((i : Int), ((-1 : Int), ((1 : Int), d))) ∨ r = ((i : Int), ((1 : Int), ((-1 : Int), d))))
  | 0 => by simp [rampL]
  | k + 1 => by
    rw [rampL, List.mem_append, rampL_mem]
    simp only [List.mem_cons, List.not_mem_nil, or_false]
    constructor
    · rintro (⟨i, h1, h2⟩ | h)
      · exact ⟨i, by omega, h2⟩
      · exact ⟨k, by omega, h⟩
    · rintro ⟨i, h1, h2⟩
      by_cases e : i = k
      · subst e; exact .inr h2
      · exact .inl ⟨i, by omega, h2⟩
def gapV (i k : Nat) : Int := max ((i : Int) - k) ((k : Int) - i)
def wantV (top : List Int) (c : Int) (i : Nat) : Nat → Int
  | 0 => top.getD i 0
  | k + 1 => min (wantV top c i k) (top.getD k 0 + c * gapV i k)
theorem want_le {top : List Int} {c : Int} {i : Nat} : ∀ {n : Nat}, wantV top c i n ≤ top.getD i 0 ∧ ∀ k, k < n → wantV top c i n ≤ top.getD k 0 + c * gapV i k
  | 0 => ⟨Int.le_refl _, fun k h => by omega⟩
  | n + 1 => by
    obtain ⟨h1, h2⟩ := want_le (top := top) (c := c) (i := i) (n := n)
    rw [wantV]
    refine ⟨by omega, fun k hk => ?_⟩
    by_cases e : k = n
    · subst e; omega
    · have := h2 k (by omega); omega
theorem want_ge {top : List Int} {c v : Int} {i : Nat} : ∀ {n : Nat}, v ≤ top.getD i 0 → (∀ k, k < n → v ≤ top.getD k 0 + c * gapV i k) → v ≤ wantV top c i n
  | 0, h, _ => h
  | n + 1, h, h' => by
    rw [wantV]
    have := want_ge (top := top) (c := c) (n := n) h fun k hk => h' k (by omega)
    have := h' n (by omega)
    omega
theorem gap_self (i : Nat) : gapV i i = 0 := by unfold gapV; omega
theorem gap_nonneg (i k : Nat) : 0 ≤ gapV i k := by unfold gapV; omega
theorem gap_step (i j k : Nat) (h : i = j + 1 ∨ j = i + 1) : gapV i k ≤ gapV j k + 1 := by unfold gapV; omega
theorem want_step {top : List Int} {c : Int} (hc : 0 ≤ c) {i j : Nat} (h : i = j + 1 ∨ j = i + 1) (hj : j < top.length) : wantV top c i top.length - wantV top c j top.length ≤ c := by
  have : wantV top c i top.length - c ≤ wantV top c j top.length := by
    have key : ∀ k, k < top.length → wantV top c i top.length - c ≤ top.getD k 0 + c * gapV j k := by
      intro k hk
      have h1 := (want_le (top := top) (c := c) (i := i) (n := top.length)).2 k hk
      have h2 := Int.mul_le_mul_of_nonneg_left (gap_step i j k h) hc
      rw [Int.mul_add, Int.mul_one] at h2
      omega
    refine want_ge ?_ key
    have := key j hj
    rw [gap_self, Int.mul_zero] at this
    omega
  omega
/-- Levels whose neighbors differ by at most c. -/
theorem lip {x : List Int} {c : Int} {n : Nat} (h : ∀ i, i + 1 < n → x.getD (i + 1) 0 - x.getD i 0 ≤ c ∧ x.getD i 0 - x.getD (i + 1) 0 ≤ c) : ∀ (g : Nat) (i : Nat), i + g < n → x.getD (i + g) 0 - x.getD i 0 ≤ c * g ∧ x.getD i 0 - x.getD (i + g) 0 ≤ c * g
  | 0, i, hi => by simp
  | g + 1, i, hi => by
    obtain ⟨h1, h2⟩ := lip h g i (by omega)
    obtain ⟨h3, h4⟩ := h (i + g) (by omega)
    have e : c * ((g + 1 : Nat) : Int) = c * (g : Int) + c := by push_cast; rw [Int.mul_add, Int.mul_one]
    rw [e, show i + (g + 1) = i + g + 1 by omega]
    omega
theorem ramps_great {top : List Int} {c : Int} (h2 : 2 ≤ top.length) (h65 : top.length ≤ 65) (ht : ∀ i, i < top.length → 0 ≤ top.getD i 0 ∧ top.getD i 0 ≤ 4096) (hs : top.sum < 16384) (hc : 0 ≤ c) (hc' : c ≤ 1000) :
    ∃ t x, greatV top (rampL c (top.length - 1)) = (x, (t, true)) ∧ t.length ≤ 16384 ∧ x.length = top.length ∧ ∀ i, i < top.length → x.getD i 0 = wantV top c i top.length := by
  have hlen := rampL_length c (top.length - 1)
  have hv : ValidP top (rampL c (top.length - 1)) := by
    refine ⟨h2, h65, by omega, ht, fun k hk => ?_⟩
    obtain ⟨i, hi, h | h⟩ := rampL_mem.1 (getD_mem (d := R0) hk) <;> rw [h]
    · exact ⟨show -1073741824 ≤ (-1 : Int) ∧ (-1 : Int) ≤ 1073741824 by omega, show -1073741824 ≤ (1 : Int) ∧ (1 : Int) ≤ 1073741824 by omega, show -1152921504606846976 ≤ c ∧ c ≤ 1152921504606846976 by omega, show 0 ≤ (i : Int) by omega, show (i : Int) ≤ (top.length : Int) - 2 by omega, by simp⟩
    · exact ⟨show -1073741824 ≤ (1 : Int) ∧ (1 : Int) ≤ 1073741824 by omega, show -1073741824 ≤ (-1 : Int) ∧ (-1 : Int) ≤ 1073741824 by omega, show -1152921504606846976 ≤ c ∧ c ≤ 1152921504606846976 by omega, show 0 ≤ (i : Int) by omega, show (i : Int) ≤ (top.length : Int) - 2 by omega, by simp⟩
  have hw : FeasP top (rampL c (top.length - 1)) ((List.range top.length).map fun i => wantV top c i top.length) := by
    have hg : ∀ i, i < top.length → ((List.range top.length).map fun i => wantV top c i top.length).getD i 0 = wantV top c i top.length := by
      intro i hi
      rw [List.getD_eq_getElem?_getD, List.getElem?_map, List.getElem?_range hi]
      rfl
    refine ⟨hv, by simp, fun i hi => ?_, fun k hk => ?_⟩
    · have hi' : i < top.length := by simpa using hi
      rw [hg i hi']
      refine ⟨want_ge (ht i hi').1 fun k hk => ?_, want_le.1⟩
      have := (ht k hk).1
      have := Int.mul_nonneg hc (gap_nonneg i k)
      omega
    · obtain ⟨i, hi, h | h⟩ := rampL_mem.1 (getD_mem (d := R0) hk) <;> rw [h]
      · simp only [Int.toNat_natCast]
        rw [hg i (by omega), hg (i + 1) (by omega)]
        have := want_step (top := top) hc (i := i + 1) (j := i) (.inl rfl) (by omega)
        omega
      · simp only [Int.toNat_natCast]
        rw [hg i (by omega), hg (i + 1) (by omega)]
        have := want_step (top := top) hc (i := i) (j := i + 1) (.inr rfl) (by omega)
        omega
  obtain ⟨t, x, g1, g2, g3, g4, g5⟩ := great_top hv hs hw
  refine ⟨t, x, g1, g2, g4.l, fun i hi => Int.le_antisymm ?_ ?_⟩
  · have hl : ∀ i, i + 1 < top.length → x.getD (i + 1) 0 - x.getD i 0 ≤ c ∧ x.getD i 0 - x.getD (i + 1) 0 ≤ c := by
      intro i hi
      have key : ∀ r ∈ rampL c (top.length - 1), r.2.1 * x.getD r.1.toNat 0 + r.2.2.1 * x.getD (r.1.toNat + 1) 0 ≤ r.2.2.2 := by
        intro r hr
        obtain ⟨k, hk, e⟩ := mem_getD (d := R0) hr
        rw [← e]
        exact g4.s k hk
      have k1 := key _ (rampL_mem.2 ⟨i, by omega, .inl rfl⟩)
      have k2 := key _ (rampL_mem.2 ⟨i, by omega, .inr rfl⟩)
      simp only [Int.toNat_natCast] at k1 k2
      omega
    have hu : ∀ k, k < top.length → x.getD k 0 ≤ top.getD k 0 := fun k hk => (g4.u k (by rw [g4.l]; exact hk)).2
    refine want_ge (hu i hi) fun k hk => ?_
    have := hu k hk
    rcases Nat.le_total i k with h | h
    · obtain ⟨g, rfl⟩ := Nat.exists_eq_add_of_le h
      have := (lip hl g i hk).2
      have e : gapV i (i + g) = (g : Int) := by unfold gapV; omega
      rw [e]
      omega
    · obtain ⟨g, rfl⟩ := Nat.exists_eq_add_of_le h
      have := (lip hl g k hi).1
      have e : gapV (k + g) k = (g : Int) := by unfold gapV; omega
      rw [e]
      omega
  · have := g5 i hi
    rwa [show ((List.range top.length).map fun i => wantV top c i top.length).getD i 0 = wantV top c i top.length by
      rw [List.getD_eq_getElem?_getD, List.getElem?_map, List.getElem?_range hi]
      rfl] at this

/-! ### Splits -/
def splitV (r : RT) : List RT × Bool :=
  bif formB r && decide (-1073741824 ≤ r.2.1 + r.2.2.1 ∧ r.2.1 + r.2.2.1 ≤ 1073741824) then
    bif decide (0 < r.2.1) && decide (0 < r.2.2.1) then ([(r.1, (r.2.1 + r.2.2.1, ((0 : Int), r.2.2.2))), (r.1, ((0 : Int), (r.2.1 + r.2.2.1, r.2.2.2)))], true) else ([r], true)
  else ([], false)
theorem split_strong {A B C u v : Int} (hA : 0 ≤ A) (hB : 0 ≤ B) (h1 : (A + B) * u ≤ C) (h2 : (A + B) * v ≤ C) : A * u + B * v ≤ C := by
  rw [Int.add_mul] at h1 h2
  rcases Int.le_total u v with h | h
  · have := Int.mul_le_mul_of_nonneg_left h hA
    omega
  · have := Int.mul_le_mul_of_nonneg_left h hB
    omega

/-! ### Phases -/
abbrev PhT := Int × (Int × Int)
abbrev Ph0 : PhT := ((0 : Int), ((0 : Int), (0 : Int)))
def kindV (a b : Int) : Int := bif decide (a < b) then 1 else bif decide (a > b) then 2 else 0
def pushPh (out : List PhT) (k : Int) (i : Nat) : List PhT :=
  bif decide (0 < out.length) && ((out.getD (out.length - 1) Ph0).1 == k) then out.set (out.length - 1) ((out.getD (out.length - 1) Ph0).1, ((out.getD (out.length - 1) Ph0).2.1, (i : Int) + 1)) else out ++ [(k, ((i : Int), (i : Int) + 1))]
def phL (x : List Int) : Nat → List PhT
  | 0 => []
  | i + 1 => pushPh (phL x i) (kindV (x.getD i 0) (x.getD (i + 1) 0)) i
def phasesV (x : List Int) : List PhT := phL x (x.length - 1)
theorem phL_length (x : List Int) : ∀ i, (phL x i).length ≤ i
  | 0 => Nat.le_refl _
  | i + 1 => by
    have := phL_length x i
    rw [phL, pushPh]
    cases (decide (0 < (phL x i).length) && (((phL x i).getD ((phL x i).length - 1) Ph0).1 == kindV (x.getD i 0) (x.getD (i + 1) 0))) with
    | true => rw [cond_true, List.length_set]; omega
    | false => rw [cond_false, List.length_append]; simp only [List.length_cons, List.length_nil]; omega
structure PhOk (x : List Int) (m : Nat) (l : List PhT) : Prop where
  ne : 0 < l.length
  first : (l.getD 0 Ph0).2.1 = 0
  last : (l.getD (l.length - 1) Ph0).2.2 = m
  each : ∀ k, k < l.length → 0 ≤ (l.getD k Ph0).2.1 ∧ (l.getD k Ph0).2.1 < (l.getD k Ph0).2.2 ∧ (l.getD k Ph0).2.2 ≤ m
  next : ∀ k, 0 < k → k < l.length → (l.getD k Ph0).2.1 = (l.getD (k - 1) Ph0).2.2 ∧ (l.getD k Ph0).1 ≠ (l.getD (k - 1) Ph0).1
  kind : ∀ k, k < l.length → ∀ i : Nat, (l.getD k Ph0).2.1 ≤ i → (i : Int) < (l.getD k Ph0).2.2 → kindV (x.getD i 0) (x.getD (i + 1) 0) = (l.getD k Ph0).1
theorem phL_ok (x : List Int) : ∀ m, PhOk x (m + 1) (phL x (m + 1))
  | 0 => by
    rw [phL, phL, pushPh]
    refine ⟨by simp, rfl, rfl, fun k hk => ?_, fun k h0 hk => ?_, fun k hk i h1 h2 => ?_⟩
    · obtain rfl : k = 0 := by simpa using hk
      exact ⟨Int.le_refl _, show (0 : Int) < 0 + 1 by omega, show (0 : Int) + 1 ≤ ((0 + 1 : Nat) : Int) by omega⟩
    · have : k < 1 := by simpa using hk
      omega
    · obtain rfl : k = 0 := by simpa using hk
      have h1' : (0 : Int) ≤ i := h1
      have h2' : (i : Int) < 0 + 1 := h2
      obtain rfl : i = 0 := by omega
      rfl
  | m + 1 => by
    have ih := phL_ok x m
    rw [phL, pushPh]
    generalize phL x (m + 1) = l at *
    obtain ⟨h1, h2, h3, h4, h5, h6⟩ := ih
    rw [decide_eq_true h1, Bool.true_and]
    by_cases c : (l.getD (l.length - 1) Ph0).1 = kindV (x.getD (m + 1) 0) (x.getD (m + 1 + 1) 0)
    · have cb : ((l.getD (l.length - 1) Ph0).1 == kindV (x.getD (m + 1) 0) (x.getD (m + 1 + 1) 0)) = true := by simpa using c
      rw [cb, cond_true]
      have g : ∀ k, (l.set (l.length - 1) ((l.getD (l.length - 1) Ph0).1, ((l.getD (l.length - 1) Ph0).2.1, ((m + 1 : Nat) : Int) + 1))).getD k Ph0 = if l.length - 1 = k then ((l.getD (l.length - 1) Ph0).1, ((l.getD (l.length - 1) Ph0).2.1, ((m + 1 : Nat) : Int) + 1)) else l.getD k Ph0 := fun k => getD_set (by omega)
      refine ⟨by rw [List.length_set]; exact h1, ?_, ?_, fun k hk => ?_, fun k h0 hk => ?_, fun k hk i a b => ?_⟩
      · rw [g]
        split
        · rename_i e; simp only []; rw [e]; exact h2
        · exact h2
      · rw [List.length_set, g, if_pos rfl]
        simp only []
        omega
      · rw [List.length_set] at hk
        have := h4 k hk
        rw [g]
        split
        · rename_i e
          have := h4 (l.length - 1) (by omega)
          simp only []
          omega
        · omega
      · rw [List.length_set] at hk
        have := h5 k h0 hk
        rw [g, g, if_neg (show ¬ l.length - 1 = k - 1 by omega)]
        split
        · rename_i e
          rw [e]
          exact this
        · exact this
      · rw [List.length_set] at hk
        rw [g] at a b ⊢
        by_cases e : l.length - 1 = k
        · rw [if_pos e] at a b ⊢
          simp only [] at a b ⊢
          by_cases ei : i = m + 1
          · rw [ei]; exact c.symm
          · exact h6 (l.length - 1) (by omega) i a (by rw [h3]; omega)
        · rw [if_neg e] at a b ⊢
          exact h6 k hk i a b
    · have cb : ((l.getD (l.length - 1) Ph0).1 == kindV (x.getD (m + 1) 0) (x.getD (m + 1 + 1) 0)) = false := by simpa using c
      rw [cb, cond_false]
      have hl : ∀ q : PhT, (l ++ [q]).length = l.length + 1 := by intro q; simp
      have g1 : ∀ (q : PhT) k, k < l.length → (l ++ [q]).getD k Ph0 = l.getD k Ph0 := by
        intro q k hk
        rw [List.getD_eq_getElem?_getD, List.getElem?_append_left hk, List.getD_eq_getElem?_getD]
      have g2 : ∀ q : PhT, (l ++ [q]).getD l.length Ph0 = q := by
        intro q
        rw [List.getD_eq_getElem?_getD, List.getElem?_append_right (Nat.le_refl _), Nat.sub_self]
        rfl
      refine ⟨by rw [hl]; omega, ?_, ?_, fun k hk => ?_, fun k h0 hk => ?_, fun k hk i a b => ?_⟩
      · rw [g1 _ _ h1]; exact h2
      · rw [hl, Nat.add_sub_cancel, g2]
        simp only []
        omega
      · rw [hl] at hk
        by_cases e : k = l.length
        · rw [e, g2]; simp only []; omega
        · rw [g1 _ _ (by omega)]
          have := h4 k (by omega)
          omega
      · rw [hl] at hk
        rw [g1 _ (k - 1) (by omega)]
        by_cases e : k = l.length
        · rw [e, g2]
          simp only []
          exact ⟨h3.symm, fun h => c h.symm⟩
        · rw [g1 _ _ (by omega)]
          exact h5 k h0 (by omega)
      · rw [hl] at hk
        by_cases e : k = l.length
        · rw [e, g2] at a b ⊢
          simp only [] at a b ⊢
          obtain rfl : i = m + 1 := by omega
          rfl
        · rw [g1 _ _ (by omega)] at a b ⊢
          exact h6 k (by omega) i a b
end Go.Abs
