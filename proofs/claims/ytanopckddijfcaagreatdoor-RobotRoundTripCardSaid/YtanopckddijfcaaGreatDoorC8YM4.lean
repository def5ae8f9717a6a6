/- A part of the proof that the text with the row names: printed readings of functions, or plain lemmas about them. -/
import Derived.Test.YtanopckddijfcaaGreatDoorC8YM3
set_option linter.unusedVariables false
set_option linter.unusedSimpArgs false
namespace Go.Abs
open Go

/-! ### A scene as it is made is valid -/
theorem letters_ok : ∀ i : Nat, i < 3 → nameB (letterB i) = true ∧ ∀ j : Nat, j < i → eqS (letterB j) (letterB i) = false := by
  have h : ((List.range 3).all fun i => nameB (letterB i) && (List.range i).all fun j => !(eqS (letterB j) (letterB i))) = true := by decide +kernel
  intro i hi
  rw [List.all_eq_true] at h
  have h1 := h i (List.mem_range.2 hi)
  rw [Bool.and_eq_true, List.all_eq_true] at h1
  exact ⟨h1.1, fun j hj => by simpa using h1.2 j (List.mem_range.2 hj)⟩
theorem okC_of {m x : Int} (h : -m ≤ x) (h' : x ≤ m) : okC m x = true := okC_iff.2 ⟨h, h'⟩
theorem btwB_of {a x b : Int} (h : a ≤ x) (h' : x ≤ b) : btwB a x b = true := btwB_iff.2 ⟨h, h'⟩
theorem linkB_of {n k : Int} (h : -1 ≤ k) (h' : k < n) : linkB n k = true := by
  unfold linkB
  simp (disch := omega) only [dif_dec, dif_ndec, bif_eq, bif_neq, bif_ne, bif_nne, w64, wu64, Int.toNat_natCast, Option.bind_some, cond_true, cond_false, Bool.not_true, Bool.not_false, Sum.elim_inl, Sum.elim_inr, decide_eq_true h']
theorem linkB_iff {n k : Int} : linkB n k = true ↔ -1 ≤ k ∧ k < n := by
  constructor
  · intro h
    unfold linkB at h
    by_cases h1 : k ≥ -1
    · rw [dif_dec h1] at h
      exact ⟨h1, of_decide_eq_true h⟩
    · rw [dif_ndec h1] at h; cases h
  · exact fun h => linkB_of h.1 h.2
/-- What makes a joint free of errors. -/
structure FineJ (n : Int) (j : JT) : Prop where
  nm : nameB j.1 = true
  kd : 0 ≤ j.2.1 ∧ j.2.1 ≤ 6
  pa : -1 ≤ j.2.2.1 ∧ j.2.2.1 < n
  of : vecB j.2.2.2.1.1 j.2.2.2.1.2.1 j.2.2.2.1.2.2 = true
  li : j.2.2.2.2.1 ≤ j.2.2.2.2.2.1 ∧ -reachV j.2.1 ≤ j.2.2.2.2.1 ∧ j.2.2.2.2.2.1 ≤ reachV j.2.1
  we : 1 ≤ j.2.2.2.2.2.2.1 ∧ j.2.2.2.2.2.2.1 ≤ 1024
  sp : 1 ≤ j.2.2.2.2.2.2.2.1 ∧ j.2.2.2.2.2.2.2.1 ≤ 1048576
  ac : 1 ≤ j.2.2.2.2.2.2.2.2.1 ∧ j.2.2.2.2.2.2.2.2.1 ≤ 1048576
  tq : 1 ≤ j.2.2.2.2.2.2.2.2.2 ∧ j.2.2.2.2.2.2.2.2.2 ≤ 1099511627776
theorem chkJ_fine {n : Int} {j : JT} (h : FineJ n j) : chkJ false n j = 0 := by
  obtain ⟨h1, ⟨h2, h3⟩, ⟨h4, h5⟩, h6, ⟨h7, h8, h9⟩, ⟨g1, g2⟩, ⟨g3, g4⟩, ⟨g5, g6⟩, g7, g8⟩ := h
  unfold chkJ
  simp (disch := omega) only [dif_dec, dif_ndec, bif_eq, bif_neq, bif_ne, bif_nne, w64, wu64, Int.toNat_natCast, Option.bind_some, cond_true, cond_false, Bool.not_true, Bool.not_false, Sum.elim_inl, Sum.elim_inr, h1, h6, btwB_of g1 g2, btwB_of g3 g4, btwB_of g5 g6, btwB_of g7 g8]
theorem chkJ_fine' {t : Bool} {n : Int} {j : JT} (h : chkJ t n j = 0) : t = false ∧ FineJ n j := by
  unfold chkJ at h
  have cut : ∀ {c : Bool} {e r : Int}, e ≠ 0 → (bif c then e else r) = 0 → c = false ∧ r = 0 := by
    intro c e r he hh
    cases c with
    | true => exact absurd hh he
    | false => exact ⟨rfl, hh⟩
  obtain ⟨a1, h⟩ := cut (by decide) h
  obtain ⟨a2, h⟩ := cut (by decide) h
  obtain ⟨a3, h⟩ := cut (by decide) h
  obtain ⟨a4, h⟩ := cut (by decide) h
  obtain ⟨a5, h⟩ := cut (by decide) h
  obtain ⟨a6, h⟩ := cut (by decide) h
  obtain ⟨a7, h⟩ := cut (by decide) h
  obtain ⟨a8, h⟩ := cut (by decide) h
  obtain ⟨a9, h⟩ := cut (by decide) h
  obtain ⟨b1, h⟩ := cut (by decide) h
  obtain ⟨b2, h⟩ := cut (by decide) h
  obtain ⟨b3, h⟩ := cut (by decide) h
  obtain ⟨b4, h⟩ := cut (by decide) h
  obtain ⟨b5, h⟩ := cut (by decide) h
  have d := fun {p : Prop} [Decidable p] (h : decide p = false) => of_decide_eq_false h
  have e3 := d a3
  have e4 := d a4
  have e5 := d a5
  have e6 := d a6
  have e8 := d a8
  have e9 := d a9
  have f1 := d b1
  refine ⟨a2, by simpa using a1, by omega, by omega, by simpa using a7, by omega, ?_, ?_, ?_, ?_⟩
  · exact btwB_iff.1 (by simpa using b2)
  · exact btwB_iff.1 (by simpa using b3)
  · exact btwB_iff.1 (by simpa using b4)
  · exact btwB_iff.1 (by simpa using b5)
theorem goodJ_fine {i : Nat} {j : JT} (hi : i < 3) (h : GoodJ i j) : FineJ i j := by
  obtain ⟨h1, h2, h3, h4, h5, h6, h7, h8, h9, h10, h11⟩ := h
  refine ⟨by rw [h1]; exact (letters_ok i hi).1, by omega, by omega, ?_, h7, by omega, by omega, by omega, by omega⟩
  unfold vecB
  rw [okC_of (by omega) (by omega), okC_of (by omega) (by omega), okC_of (by omega) (by omega)]
  rfl
theorem nameIn_false {js : List JT} {nm : ByteArray} {n : Nat} (h : ∀ j, j < n → eqS (js.getD j J0).1 nm = false) : nameIn js nm n = false := by
  unfold nameIn
  cases hb : anyB (fun i => eqS (js.getD i J0).1 nm) 0 n with
  | false => rfl
  | true =>
    obtain ⟨j, _, h2, h3⟩ := anyB_iff.1 hb
    rw [h j (by omega)] at h3
    cases h3
theorem chkM_good {n : Int} {m : MT} (h : GoodM n m) : chkM n m = 0 := by
  obtain ⟨⟨h1, h2⟩, ⟨h3, h4⟩, ⟨h5, h6⟩, h7, h8, h9⟩ := h
  unfold chkM vecB
  simp (disch := omega) only [dif_dec, dif_ndec, bif_eq, bif_neq, bif_ne, bif_nne, w64, wu64, Int.toNat_natCast, Option.bind_some, cond_true, cond_false, Bool.not_true, Bool.not_false, Sum.elim_inl, Sum.elim_inr, btwB_of (show 1 ≤ m.2.1 by omega) (show m.2.1 ≤ 65536 by omega), okC_of (show -4194304 ≤ m.2.2.1 by omega) (by omega), okC_of (show -4194304 ≤ m.2.2.2.1 by omega) (by omega), okC_of (show -4194304 ≤ m.2.2.2.2 by omega) (by omega), Bool.and_true]
theorem goodR_jErr {js : List JT} {ms : List MT} (h : GoodR js ms) : firstErr (jErr js) 0 js.length = 0 := by
  refine firstErr_zero fun j _ hj => ?_
  have h3 := h.2.1
  have hg := h.2.2.1 j (by omega)
  unfold jErr
  rw [nameIn_false]
  · exact chkJ_fine (goodJ_fine (by omega) hg)
  · intro k hk
    rw [(h.2.2.1 k (by omega)).1, hg.1]
    exact (letters_ok j (by omega)).2 k hk
theorem chkRobot_good {js : List JT} {ms : List MT} (h : GoodR js ms) : chkRobot js ms = 0 := by
  have h1 := h.1
  have h3 := h.2.1
  have h4 := h.2.2.2.1
  unfold chkRobot
  rw [goodR_jErr h]
  have hm : firstErr (mErr js.length ms) 0 ms.length = 0 := firstErr_zero fun j _ hj => chkM_good (h.2.2.2.2 j (by omega))
  rw [hm]
  simp (disch := omega) only [dif_dec, dif_ndec, bif_eq, bif_neq, bif_ne, bif_nne, w64, wu64, Int.toNat_natCast, Option.bind_some, cond_true, cond_false, Bool.not_true, Bool.not_false, Sum.elim_inl, Sum.elim_inr]
def par_ (js : List JT) (k : Int) : Int := (js.getD k.toNat J0).2.2.1
def lo__ (js : List JT) (k : Int) : Int := (js.getD k.toNat J0).2.2.2.2.1
def hi__ (js : List JT) (k : Int) : Int := (js.getD k.toNat J0).2.2.2.2.2.1
def chainL (js : List JT) : Nat → Int → List Int
  | 0, _ => []
  | f + 1, k => if k = -1 then [] else chainL js f (par_ js k) ++ [k]
theorem front_list (v3 : List Int) (v0 : Int) : (((v3 ++ [0]).take 1 ++ ((v3 ++ [0]).take ((v3 ++ [0]).length - 1) ++ (v3 ++ [0]).drop (1 + Nat.min (v3 ++ [0]).length ((v3 ++ [0]).length - 1)))).set 0 v0) = v0 :: v3 := by
  have h1 : (v3 ++ [0]).length - 1 = v3.length := by simp
  have h2 : Nat.min (v3 ++ [0]).length v3.length = v3.length := Nat.min_eq_right (by simp)
  rw [h1, h2, List.take_left, List.drop_of_length_le (by simp; omega)]
  cases v3 <;> simp
/-- The parents lead down. -/
def Down (js : List JT) : Prop := ∀ i : Nat, i < js.length → -1 ≤ par_ js i ∧ par_ js i < i
theorem chkRobot_zero {js : List JT} {ms : List MT} (h : chkRobot js ms = 0) : 1 ≤ js.length ∧ js.length ≤ 10 ∧ (∀ i, i < js.length → nameIn js (js.getD i J0).1 i = false ∧ FineJ i (js.getD i J0)) ∧ ms.length ≤ 32 ∧ ∀ i, i < ms.length → chkM js.length (ms.getD i M0) = 0 := by
  unfold chkRobot at h
  by_cases h1 : (js.length : Int) < 1
  · rw [dif_dec h1] at h; cases h
  · rw [dif_ndec h1] at h
    by_cases h2 : (js.length : Int) > 10
    · rw [dif_dec h2] at h; cases h
    · rw [dif_ndec h2] at h
      by_cases h3 : firstErr (jErr js) 0 js.length = 0
      · rw [bif_nne h3] at h
        by_cases h4 : (ms.length : Int) > 32
        · rw [dif_dec h4] at h; cases h
        · rw [dif_ndec h4] at h
          exact ⟨by omega, by omega, fun i hi => chkJ_fine' (firstErr_iff.1 h3 i (Nat.zero_le _) (by omega)), by omega, fun i hi => firstErr_iff.1 h i (Nat.zero_le _) (by omega)⟩
      · rw [bif_ne h3] at h
        exact absurd h h3
theorem down_of {js : List JT} {ms : List MT} (h : chkRobot js ms = 0) : Down js := by
  intro i hi
  have := ((chkRobot_zero h).2.2.1 i hi).2.pa
  unfold par_
  rw [Int.toNat_natCast]
  exact this
def hasB (l : List Int) (v : Int) : Bool := anyB (fun i => v == l.getD i 0) 0 l.length
/-- The joints between two links. -/
def btwL (js : List JT) (a b : Int) : Nat → Nat → List Int
  | _, 0 => []
  | i, k + 1 => (if hasB (chainL js 11 a) (i : Int) == hasB (chainL js 11 b) (i : Int) then [] else [(i : Int)]) ++ btwL js a b (i + 1) k
theorem chainL_length (js : List JT) : ∀ (f : Nat) (k : Int), (chainL js f k).length ≤ f
  | 0, k => by simp [chainL]
  | f + 1, k => by
    rw [chainL]
    split
    · simp
    · have := chainL_length js f (par_ js k)
      simp only [List.length_append, List.length_cons, List.length_nil]
      omega
theorem btwL_mem {js : List JT} {a b : Int} : ∀ {k i : Nat} {x : Int}, x ∈ btwL js a b i k → (i : Int) ≤ x ∧ x < (i + k : Nat)
  | 0, i, x, h => by simp [btwL] at h
  | k + 1, i, x, h => by
    rw [btwL, List.mem_append] at h
    rcases h with h | h
    · split at h
      · cases h
      · simp at h; omega
    · have := btwL_mem h; omega
theorem btwL_length {js : List JT} {a b : Int} : ∀ {k i : Nat}, (btwL js a b i k).length ≤ k
  | 0, i => by simp [btwL]
  | k + 1, i => by
    have := btwL_length (js := js) (a := a) (b := b) (k := k) (i := i + 1)
    rw [btwL, List.length_append]
    split
    · simp; omega
    · simp only [List.length_cons, List.length_nil]; omega
def movB (js : List JT) (l : List Int) : Bool := anyB (fun i => decide (lo__ js (l.getD i 0) < hi__ js (l.getD i 0))) 0 l.length
def rigidB (js : List JT) (a b : Int) : Bool := linkB js.length a && (linkB js.length b && !movB js (btwL js a b 0 js.length))

end Go.Abs
