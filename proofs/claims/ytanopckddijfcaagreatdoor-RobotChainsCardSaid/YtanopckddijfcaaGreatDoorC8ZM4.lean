/- A part of the proof that the text with the row names: printed readings of functions, or plain lemmas about them. -/
import Derived.Test.YtanopckddijfcaaGreatDoorC8ZM3
set_option linter.unusedVariables false
set_option linter.unusedSimpArgs false
namespace Go.Abs
open Go

/-! ### A scene as it is made is valid -/
theorem letters_ok : ∀ i : Nat, i < 3 → nameB (letterB i) = true ∧ ∀ j : Nat, j < i → eqS (letterB j) (letterB i) = false := by
  have h : ((List.range 3).all fun i => nameB (letterB i) && (List.range i).all fun j => !(eqS (letterB j) (letterB i))) = true := by decide +kernel
  intro i hi
  rw [List.all_eq_true] at h
  have h1 := h i (List.mem_range.2 hi)
  rw [Bool.and_eq_true, List.all_eq_true] at h1
  exact ⟨h1.1, fun j hj => by simpa using h1.2 j (List.mem_range.2 hj)⟩
theorem okC_of {m x : Int} (h : -m ≤ x) (h' : x ≤ m) : okC m x = true := okC_iff.2 ⟨h, h'⟩
theorem btwB_of {a x b : Int} (h : a ≤ x) (h' : x ≤ b) : btwB a x b = true := btwB_iff.2 ⟨h, h'⟩
theorem linkB_of {n k : Int} (h : -1 ≤ k) (h' : k < n) : linkB n k = true := by
  unfold linkB
  simp (disch := omega) only [dif_dec, dif_ndec, bif_eq, bif_neq, bif_ne, bif_nne, w64, wu64, Int.toNat_natCast, Option.bind_some, cond_true, cond_false, Bool.not_true, Bool.not_false, Sum.elim_inl, Sum.elim_inr, decide_eq_true h']
theorem linkB_iff {n k : Int} : linkB n k = true ↔ -1 ≤ k ∧ k < n := by
  constructor
  · intro h
    unfold linkB at h
    by_cases h1 : k ≥ -1
    · rw [dif_dec h1] at h
      exact ⟨h1, of_decide_eq_true h⟩
    · rw [dif_ndec h1] at h; cases h
  · exact fun h => linkB_of h.1 h.2
/-- What makes a joint free of errors. -/
structure FineJ (n : Int) (j : JT) : Prop where
  nm : nameB j.1 = true
  kd : 0 ≤ j.2.1 ∧ j.2.1 ≤ 6
  pa : -1 ≤ j.2.2.1 ∧ j.2.2.1 < n
  of : vecB j.2.2.2.1.1 j.2.2.2.1.2.1 j.2.2.2.1.2.2 = true
  li : j.2.2.2.2.1 ≤ j.2.2.2.2.2.1 ∧ -reachV j.2.1 ≤ j.2.2.2.2.1 ∧ j.2.2.2.2.2.1 ≤ reachV j.2.1
  we : 1 ≤ j.2.2.2.2.2.2.1 ∧ j.2.2.2.2.2.2.1 ≤ 1024
  sp : 1 ≤ j.2.2.2.2.2.2.2.1 ∧ j.2.2.2.2.2.2.2.1 ≤ 1048576
  ac : 1 ≤ j.2.2.2.2.2.2.2.2.1 ∧ j.2.2.2.2.2.2.2.2.1 ≤ 1048576
  tq : 1 ≤ j.2.2.2.2.2.2.2.2.2 ∧ j.2.2.2.2.2.2.2.2.2 ≤ 1099511627776
theorem chkJ_fine {n : Int} {j : JT} (h : FineJ n j) : chkJ false n j = 0 := by
  obtain ⟨h1, ⟨h2, h3⟩, ⟨h4, h5⟩, h6, ⟨h7, h8, h9⟩, ⟨g1, g2⟩, ⟨g3, g4⟩, ⟨g5, g6⟩, g7, g8⟩ := h
  unfold chkJ
  simp (disch := omega) only [dif_dec, dif_ndec, bif_eq, bif_neq, bif_ne, bif_nne, w64, wu64, Int.toNat_natCast, Option.bind_some, cond_true, cond_false, Bool.not_true, Bool.not_false, Sum.elim_inl, Sum.elim_inr, h1, h6, btwB_of g1 g2, btwB_of g3 g4, btwB_of g5 g6, btwB_of g7 g8]
theorem chkJ_fine' {t : Bool} {n : Int} {j : JT} (h : chkJ t n j = 0) : t = false ∧ FineJ n j := by
  unfold chkJ at h
  have cut : ∀ {c : Bool} {e r : Int}, e ≠ 0 → (bif c then e else r) = 0 → c = false ∧ r = 0 := by
    intro c e r he hh
    cases c with
    | true => exact absurd hh he
    | false => exact ⟨rfl, hh⟩
  obtain ⟨a1, h⟩ := cut (by decide) h
  obtain ⟨a2, h⟩ := cut (by decide) h
  obtain ⟨a3, h⟩ := cut (by decide) h
  obtain ⟨a4, h⟩ := cut (by decide) h
  obtain ⟨a5, h⟩ := cut (by decide) h
  obtain ⟨a6, h⟩ := cut (by decide) h
  obtain ⟨a7, h⟩ := cut (by decide) h
  obtain ⟨a8, h⟩ := cut (by decide) h
  obtain ⟨a9, h⟩ := cut (by decide) h
  obtain ⟨b1, h⟩ := cut (by decide) h
  obtain ⟨b2, h⟩ := cut (by decide) h
  obtain ⟨b3, h⟩ := cut (by decide) h
  obtain ⟨b4, h⟩ := cut (by decide) h
  obtain ⟨b5, h⟩ := cut (by decide) h
  have d := fun {p : Prop} [Decidable p] (h : decide p = false) => of_decide_eq_false h
  have e3 := d a3
  have e4 := d a4
  have e5 := d a5
  have e6 := d a6
  have e8 := d a8
  have e9 := d a9
  have f1 := d b1
  refine ⟨a2, by simpa using a1, by omega, by omega, by simpa using a7, by omega, ?_, ?_, ?_, ?_⟩
  · exact btwB_iff.1 (by simpa using b2)
  · exact btwB_iff.1 (by simpa using b3)
  · exact btwB_iff.1 (by simpa using b4)
  · exact btwB_iff.1 (by simpa using b5)
theorem goodJ_fine {i : Nat} {j : JT} (hi : i < 3) (h : GoodJ i j) : FineJ i j := by
  obtain ⟨h1, h2, h3, h4, h5, h6, h7, h8, h9, h10, h11⟩ := h
  refine ⟨by rw [h1]; exact (letters_ok i hi).1, by omega, by omega, ?_, h7, by omega, by omega, by omega, by omega⟩
  unfold vecB
  rw [okC_of (by omega) (by omega), okC_of (by omega) (by omega), okC_of (by omega) (by omega)]
  rfl
theorem nameIn_false {js : List JT} {nm : ByteArray} {n : Nat} (h : ∀ j, j < n → eqS (js.getD j J0).1 nm = false) : nameIn js nm n = false := by
  unfold nameIn
  cases hb : anyB (fun i => eqS (js.getD i J0).1 nm) 0 n with
  | false => rfl
  | true =>
    obtain ⟨j, _, h2, h3⟩ := anyB_iff.1 hb
    rw [h j (by omega)] at h3
    cases h3
theorem chkM_good {n : Int} {m : MT} (h : GoodM n m) : chkM n m = 0 := by
  obtain ⟨⟨h1, h2⟩, ⟨h3, h4⟩, ⟨h5, h6⟩, h7, h8, h9⟩ := h
  unfold chkM vecB
  simp (disch := omega) only [dif_dec, dif_ndec, bif_eq, bif_neq, bif_ne, bif_nne, w64, wu64, Int.toNat_natCast, Option.bind_some, cond_true, cond_false, Bool.not_true, Bool.not_false, Sum.elim_inl, Sum.elim_inr, btwB_of (show 1 ≤ m.2.1 by omega) (show m.2.1 ≤ 65536 by omega), okC_of (show -4194304 ≤ m.2.2.1 by omega) (by omega), okC_of (show -4194304 ≤ m.2.2.2.1 by omega) (by omega), okC_of (show -4194304 ≤ m.2.2.2.2 by omega) (by omega), Bool.and_true]
theorem goodR_jErr {js : List JT} {ms : List MT} (h : GoodR js ms) : firstErr (jErr js) 0 js.length = 0 := by
  refine firstErr_zero fun j _ hj => ?_
  have h3 := h.2.1
  have hg := h.2.2.1 j (by omega)
  unfold jErr
  rw [nameIn_false]
  · exact chkJ_fine (goodJ_fine (by omega) hg)
  · intro k hk
    rw [(h.2.2.1 k (by omega)).1, hg.1]
    exact (letters_ok j (by omega)).2 k hk
theorem chkRobot_good {js : List JT} {ms : List MT} (h : GoodR js ms) : chkRobot js ms = 0 := by
  have h1 := h.1
  have h3 := h.2.1
  have h4 := h.2.2.2.1
  unfold chkRobot
  rw [goodR_jErr h]
  have hm : firstErr (mErr js.length ms) 0 ms.length = 0 := firstErr_zero fun j _ hj => chkM_good (h.2.2.2.2 j (by omega))
  rw [hm]
  simp (disch := omega) only [dif_dec, dif_ndec, bif_eq, bif_neq, bif_ne, bif_nne, w64, wu64, Int.toNat_natCast, Option.bind_some, cond_true, cond_false, Bool.not_true, Bool.not_false, Sum.elim_inl, Sum.elim_inr]
def par_ (js : List JT) (k : Int) : Int := (js.getD k.toNat J0).2.2.1
def lo__ (js : List JT) (k : Int) : Int := (js.getD k.toNat J0).2.2.2.2.1
def hi__ (js : List JT) (k : Int) : Int := (js.getD k.toNat J0).2.2.2.2.2.1
def chainL (js : List JT) : Nat → Int → List Int
  | 0, _ => []
  | f + 1, k => if k = -1 then [] else chainL js f (par_ js k) ++ [k]
theorem front_list (v3 : List Int) (v0 : Int) : (((v3 ++ [0]).take 1 ++ ((v3 ++ [0]).take ((v3 ++ [0]).length - 1) ++ (v3 ++ [0]).drop (1 + Nat.min (v3 ++ [0]).length ((v3 ++ [0]).length - 1)))).set 0 v0) = v0 :: v3 := by
  have h1 : (v3 ++ [0]).length - 1 = v3.length := by simp
  have h2 : Nat.min (v3 ++ [0]).length v3.length = v3.length := Nat.min_eq_right (by simp)
  rw [h1, h2, List.take_left, List.drop_of_length_le (by simp; omega)]
  cases v3 <;> simp
/-- The parents lead down. -/
def Down (js : List JT) : Prop := ∀ i : Nat, i < js.length → -1 ≤ par_ js i ∧ par_ js i < i
theorem chain_loop {js : List JT} {ms : List MT} (hd : Down js) (hn : js.length ≤ 10) : ∀ (f : Nat) (k : Int) (out : List Int), -1 ≤ k → k < js.length → k + 1 ≤ f → out.length + f ≤ 100 →
    loopF robot_Chain.p0.step (k, js, ms, out) = some (chainL js f k ++ out)
  | 0, k, out, h1, h2, h3, h4 => by
    obtain rfl : k = -1 := by omega
    refine loop_end ?_
    unfold robot_Chain.p0.step robot_Chain.p0.round
    simp only []
    simp (disch := omega) only [dif_dec, dif_ndec, bif_eq, bif_neq, bif_ne, bif_nne, w64, wu64, Int.toNat_natCast, Option.bind_some, cond_true, cond_false, Bool.not_true, Bool.not_false, Sum.elim_inl, Sum.elim_inr]
    rfl
  | f + 1, k, out, h1, h2, h3, h4 => by
    by_cases h : k = -1
    · rw [chainL, if_pos h]
      refine loop_end ?_
      unfold robot_Chain.p0.step robot_Chain.p0.round
      simp only []
      simp (disch := omega) only [dif_dec, dif_ndec, bif_eq, bif_neq, bif_ne, bif_nne, w64, wu64, Int.toNat_natCast, Option.bind_some, cond_true, cond_false, Bool.not_true, Bool.not_false, Sum.elim_inl, Sum.elim_inr]
      rfl
    · rw [chainL, if_neg h]
      have hp := hd k.toNat (by omega)
      rw [show ((k.toNat : Nat) : Int) = k by omega] at hp
      have := chain_loop (ms := ms) hd hn f (par_ js k) (k :: out) hp.1 (by omega) (by omega) (by simp only [List.length_cons]; omega)
      rw [List.append_assoc, List.singleton_append, ← this]
      refine loop_next ?_ rfl
      unfold robot_Chain.p0.step robot_Chain.p0.round
      simp only []
      rw [front_list]
      have hl : (out ++ [0]).length = out.length + 1 := by simp
      simp only [hl, List.length_append, List.length_cons, List.length_nil, List.length_take, List.length_drop]
      simp (disch := omega) only [dif_dec, dif_ndec, bif_eq, bif_neq, bif_ne, bif_nne, w64, wu64, Int.toNat_natCast, Option.bind_some, cond_true, cond_false, Bool.not_true, Bool.not_false, Sum.elim_inl, Sum.elim_inr]
      rfl
theorem chkRobot_zero {js : List JT} {ms : List MT} (h : chkRobot js ms = 0) : 1 ≤ js.length ∧ js.length ≤ 10 ∧ (∀ i, i < js.length → nameIn js (js.getD i J0).1 i = false ∧ FineJ i (js.getD i J0)) ∧ ms.length ≤ 32 ∧ ∀ i, i < ms.length → chkM js.length (ms.getD i M0) = 0 := by
  unfold chkRobot at h
  by_cases h1 : (js.length : Int) < 1
  · rw [dif_dec h1] at h; cases h
  · rw [dif_ndec h1] at h
    by_cases h2 : (js.length : Int) > 10
    · rw [dif_dec h2] at h; cases h
    · rw [dif_ndec h2] at h
      by_cases h3 : firstErr (jErr js) 0 js.length = 0
      · rw [bif_nne h3] at h
        by_cases h4 : (ms.length : Int) > 32
        · rw [dif_dec h4] at h; cases h
        · rw [dif_ndec h4] at h
          exact ⟨by omega, by omega, fun i hi => chkJ_fine' (firstErr_iff.1 h3 i (Nat.zero_le _) (by omega)), by omega, fun i hi => firstErr_iff.1 h i (Nat.zero_le _) (by omega)⟩
      · rw [bif_ne h3] at h
        exact absurd h h3
theorem down_of {js : List JT} {ms : List MT} (h : chkRobot js ms = 0) : Down js := by
  intro i hi
  have := ((chkRobot_zero h).2.2.1 i hi).2.pa
  unfold par_
  rw [Int.toNat_natCast]
  exact this
theorem isLinkR_val {js : List JT} {ms : List MT} (h : chkRobot js ms = 0) (k : Int) : robot_isLink.F js ms k = some (linkB js.length k) := by
  obtain ⟨h1, h2, _, h4, _⟩ := chkRobot_zero h
  rw [robot_isLink.F_eq]
  unfold robot_isLink.F0 linkB
  rw [robotCheck_val (by omega) (by omega), Option.bind_some, h]
  by_cases a : k ≥ -1
  · by_cases b : k < (js.length : Int)
    · simp (disch := omega) only [dif_dec, dif_ndec, bif_eq, bif_neq, bif_ne, bif_nne, w64, wu64, Int.toNat_natCast, Option.bind_some, cond_true, cond_false, Bool.not_true, Bool.not_false, Sum.elim_inl, Sum.elim_inr, decide_eq_true b]
      rfl
    · simp (disch := omega) only [dif_dec, dif_ndec, bif_eq, bif_neq, bif_ne, bif_nne, w64, wu64, Int.toNat_natCast, Option.bind_some, cond_true, cond_false, Bool.not_true, Bool.not_false, Sum.elim_inl, Sum.elim_inr, decide_eq_false b]
  · simp (disch := omega) only [dif_dec, dif_ndec, bif_eq, bif_neq, bif_ne, bif_nne, w64, wu64, Int.toNat_natCast, Option.bind_some, cond_true, cond_false, Bool.not_true, Bool.not_false, Sum.elim_inl, Sum.elim_inr]
theorem chain_val {js : List JT} {ms : List MT} (h : chkRobot js ms = 0) {k : Int} (hk : linkB js.length k = true) : robot_Chain.F js ms k = some (chainL js 11 k) := by
  obtain ⟨h1, h2, _, _⟩ := chkRobot_zero h
  obtain ⟨h3, h4⟩ := linkB_iff.1 hk
  rw [robot_Chain.F_eq]
  unfold robot_Chain.F0
  rw [isLinkR_val h, hk, Option.bind_some, Bool.not_true, cond_false, chain_loop (down_of h) h2 11 k [] h3 h4 (by omega) (by simp), List.append_nil]
  rfl
def hasB (l : List Int) (v : Int) : Bool := anyB (fun i => v == l.getD i 0) 0 l.length
theorem contains_val {l : List Int} (v : Int) (hl : l.length ≤ 2 ^ 60) : slices_Contains_int.F l v = some (hasB l v) := by
  rw [slices_Contains_int.F_eq]
  unfold slices_Contains_int.F0
  rw [slices_Index_int.F_eq]
  unfold slices_Index_int.F0
  have h1 := loop_find (step := slices_Index_int.p0.step) (fun i : Nat => (l, v, (l.length : Int), (i : Int))) l.length (fun i => bif v == l.getD i 0 then some (.inl (i : Int)) else none) (.inr ()) (by
    intro i hi
    unfold slices_Index_int.p0.step slices_Index_int.p0.round
    simp only []
    simp (disch := omega) only [dif_dec, dif_ndec, bif_eq, bif_neq, bif_ne, bif_nne, w64, wu64, Int.toNat_natCast, Option.bind_some, cond_true, cond_false, Bool.not_true, Bool.not_false, Sum.elim_inl, Sum.elim_inr]
    cases (v == l.getD i 0) <;> rfl) (by
    unfold slices_Index_int.p0.step slices_Index_int.p0.round
    simp only []
    simp (disch := omega) only [dif_dec, dif_ndec, bif_eq, bif_neq, bif_ne, bif_nne, w64, wu64, Int.toNat_natCast, Option.bind_some, cond_true, cond_false, Bool.not_true, Bool.not_false, Sum.elim_inl, Sum.elim_inr]) l.length 0 (by omega)
  rw [show ((0 : Nat) : Int) = 0 from rfl] at h1
  obtain ⟨w, hw, hd⟩ := idx_any (fun i => v == l.getD i 0) l.length 0
  rw [h1, Option.bind_some, hw, Option.bind_some, hd]
  rfl
/-- The joints between two links. -/
def btwL (js : List JT) (a b : Int) : Nat → Nat → List Int
  | _, 0 => []
  | i, k + 1 => (if hasB (chainL js 11 a) (i : Int) == hasB (chainL js 11 b) (i : Int) then [] else [(i : Int)]) ++ btwL js a b (i + 1) k
theorem chainL_length (js : List JT) : ∀ (f : Nat) (k : Int), (chainL js f k).length ≤ f
  | 0, k => by simp [chainL]
  | f + 1, k => by
    rw [chainL]
    split
    · simp
    · have := chainL_length js f (par_ js k)
      simp only [List.length_append, List.length_cons, List.length_nil]
      omega
theorem btw_loop {js : List JT} {a b : Int} (hn : js.length ≤ 10) : ∀ (k i : Nat) (out : List Int), i + k = js.length → out.length ≤ i →
    loopF robot_Between.p0.step ((js.length : Int), (i : Int), chainL js 11 a, chainL js 11 b, out) = some (out ++ btwL js a b i k)
  | 0, i, out, h, ho => by
    refine loop_end ?_
    unfold robot_Between.p0.step robot_Between.p0.round
    simp only []
    simp (disch := omega) only [dif_dec, dif_ndec, bif_eq, bif_neq, bif_ne, bif_nne, w64, wu64, Int.toNat_natCast, Option.bind_some, cond_true, cond_false, Bool.not_true, Bool.not_false, Sum.elim_inl, Sum.elim_inr]
    simp [btwL]
  | k + 1, i, out, h, ho => by
    have c1 := chainL_length js 11 a
    have c2 := chainL_length js 11 b
    rw [btwL]
    cases hb : (hasB (chainL js 11 a) (i : Int) == hasB (chainL js 11 b) (i : Int)) with
    | true =>
      rw [if_pos rfl, List.nil_append, ← btw_loop hn k (i + 1) out (by omega) (by omega)]
      refine loop_next ?_ rfl
      unfold robot_Between.p0.step robot_Between.p0.round
      simp only []
      simp (disch := omega) only [dif_dec, dif_ndec, bif_eq, bif_neq, bif_ne, bif_nne, w64, wu64, Int.toNat_natCast, Option.bind_some, cond_true, cond_false, Bool.not_true, Bool.not_false, Sum.elim_inl, Sum.elim_inr, contains_val (l := chainL js 11 a) (i : Int) (by omega), contains_val (l := chainL js 11 b) (i : Int) (by omega), hb]
      rfl
    | false =>
      rw [if_neg (by simp), ← List.append_assoc, ← btw_loop hn k (i + 1) (out ++ [(i : Int)]) (by omega) (by simp; omega)]
      refine loop_next ?_ rfl
      unfold robot_Between.p0.step robot_Between.p0.round
      simp only [List.length_cons, List.length_nil]
      simp (disch := omega) only [dif_dec, dif_ndec, bif_eq, bif_neq, bif_ne, bif_nne, w64, wu64, Int.toNat_natCast, Option.bind_some, cond_true, cond_false, Bool.not_true, Bool.not_false, Sum.elim_inl, Sum.elim_inr, contains_val (l := chainL js 11 a) (i : Int) (by omega), contains_val (l := chainL js 11 b) (i : Int) (by omega), hb]
      rfl
theorem between_val' {js : List JT} {ms : List MT} (h : chkRobot js ms = 0) {a b : Int} (ha : linkB js.length a = true) (hb : linkB js.length b = true) : robot_Between.F js ms a b = some (btwL js a b 0 js.length) := by
  obtain ⟨h1, h2, _, _⟩ := chkRobot_zero h
  rw [robot_Between.F_eq]
  unfold robot_Between.F0
  rw [isLinkR_val h, ha, Option.bind_some, Bool.not_true, cond_false, isLinkR_val h, hb, Option.bind_some, Bool.not_true, cond_false, chain_val h ha, Option.bind_some, chain_val h hb, Option.bind_some]
  have := btw_loop (js := js) (a := a) (b := b) h2 js.length 0 [] (by omega) (by simp)
  rw [show ((0 : Nat) : Int) = 0 from rfl] at this
  rw [this]
  rfl
theorem btwL_mem {js : List JT} {a b : Int} : ∀ {k i : Nat} {x : Int}, x ∈ btwL js a b i k → (i : Int) ≤ x ∧ x < (i + k : Nat)
  | 0, i, x, h => by simp [btwL] at h
  | k + 1, i, x, h => by
    rw [btwL, List.mem_append] at h
    rcases h with h | h
    · split at h
      · cases h
      · simp at h; omega
    · have := btwL_mem h; omega
theorem btwL_length {js : List JT} {a b : Int} : ∀ {k i : Nat}, (btwL js a b i k).length ≤ k
  | 0, i => by simp [btwL]
  | k + 1, i => by
    have := btwL_length (js := js) (a := a) (b := b) (k := k) (i := i + 1)
    rw [btwL, List.length_append]
    split
    · simp; omega
    · simp only [List.length_cons, List.length_nil]; omega
def movB (js : List JT) (l : List Int) : Bool := anyB (fun i => decide (lo__ js (l.getD i 0) < hi__ js (l.getD i 0))) 0 l.length
def rigidB (js : List JT) (a b : Int) : Bool := linkB js.length a && (linkB js.length b && !movB js (btwL js a b 0 js.length))
theorem mov_val {js : List JT} {ms : List MT} {l : List Int} (hl : l.length ≤ 2 ^ 60) (hm : ∀ x ∈ l, 0 ≤ x ∧ x < js.length) : slices_ContainsFunc_int__robot_Rigid_1.F l js ms = some (movB js l, js, ms) := by
  rw [slices_ContainsFunc_int__robot_Rigid_1.F_eq]
  unfold slices_ContainsFunc_int__robot_Rigid_1.F0
  rw [slices_IndexFunc_int__robot_Rigid_1.F_eq]
  unfold slices_IndexFunc_int__robot_Rigid_1.F0
  have h := loop_find (step := slices_IndexFunc_int__robot_Rigid_1.p0.step) (fun i : Nat => (l, (l.length : Int), (i : Int), js, ms)) l.length (fun i => bif decide (lo__ js (l.getD i 0) < hi__ js (l.getD i 0)) then some (.inl ((i : Int), js, ms)) else none) (.inr (js, ms)) (by
    intro i hi
    have hmem : l.getD i 0 ∈ l := by rw [List.getD_eq_getElem?_getD, List.getElem?_eq_getElem hi]; exact List.getElem_mem _
    obtain ⟨m1, m2⟩ := hm _ hmem
    unfold slices_IndexFunc_int__robot_Rigid_1.p0.step slices_IndexFunc_int__robot_Rigid_1.p0.round
    rw [robot_Rigid_1.F_eq]
    unfold robot_Rigid_1.F0 lo__ hi__
    simp only []
    simp (disch := omega) only [dif_dec, dif_ndec, bif_eq, bif_neq, bif_ne, bif_nne, w64, wu64, Int.toNat_natCast, Option.bind_some, cond_true, cond_false, Bool.not_true, Bool.not_false, Sum.elim_inl, Sum.elim_inr]
    generalize decide ((js.getD (l.getD i 0).toNat J0).2.2.2.2.1 < (js.getD (l.getD i 0).toNat J0).2.2.2.2.2.1) = c
    cases c <;> rfl) (by
    unfold slices_IndexFunc_int__robot_Rigid_1.p0.step slices_IndexFunc_int__robot_Rigid_1.p0.round
    simp only []
    simp (disch := omega) only [dif_dec, dif_ndec, bif_eq, bif_neq, bif_ne, bif_nne, w64, wu64, Int.toNat_natCast, Option.bind_some, cond_true, cond_false, Bool.not_true, Bool.not_false, Sum.elim_inl, Sum.elim_inr]) l.length 0 (by omega)
  rw [show ((0 : Nat) : Int) = 0 from rfl] at h
  rw [h]
  unfold movB
  generalize l.length = n
  have key : ∀ (k i : Nat), ∃ v : Int, Sum.elim (fun y4 => some (y4.1, y4.2.1, y4.2.2)) (fun z5 => some (-1, z5.1, z5.2)) (findE (fun i => bif decide (lo__ js (l.getD i 0) < hi__ js (l.getD i 0)) then some (.inl ((i : Int), js, ms)) else none) (.inr (js, ms) : (Int × List JT × List MT) ⊕ (List JT × List MT)) i k) = some (v, js, ms) ∧ decide (v ≥ 0) = anyB (fun i => decide (lo__ js (l.getD i 0) < hi__ js (l.getD i 0))) i k := by
    intro k
    induction k with
    | zero => intro i; exact ⟨-1, rfl, rfl⟩
    | succ k ih =>
      intro i
      simp only [findE, anyB]
      cases hb : decide (lo__ js (l.getD i 0) < hi__ js (l.getD i 0)) with
      | true => exact ⟨i, rfl, by simp⟩
      | false =>
        obtain ⟨v, h1, h2⟩ := ih (i + 1)
        exact ⟨v, h1, by rw [h2]; rfl⟩
  obtain ⟨v, h1, h2⟩ := key n 0
  rw [Option.bind_some, h1]
  simp only [Option.bind_some, h2]
theorem rigid_val {js : List JT} {ms : List MT} (h : chkRobot js ms = 0) (a b : Int) : robot_Rigid.F js ms a b = some (rigidB js a b) := by
  obtain ⟨h1, h2, _, _⟩ := chkRobot_zero h
  rw [robot_Rigid.F_eq]
  unfold robot_Rigid.F0 rigidB
  rw [isLinkR_val h, Option.bind_some]
  cases ha : linkB js.length a with
  | false => rfl
  | true =>
    rw [Bool.not_true, cond_false, isLinkR_val h, Option.bind_some]
    cases hb : linkB js.length b with
    | false => rfl
    | true =>
      have hl := btwL_length (js := js) (a := a) (b := b) (k := js.length) (i := 0)
      rw [Bool.not_true, cond_false, between_val' h ha hb, Option.bind_some, mov_val (by omega) (fun x hx => by have := btwL_mem hx; omega)]
      rfl
end Go.Abs
