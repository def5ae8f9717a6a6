/- A part of the proof that the text with the row names: printed readings of functions, or plain lemmas about them. -/
import Derived.Test.YtgligkmpgefbmaaDoorC6M2
set_option linter.unusedVariables false
set_option linter.unusedSimpArgs false
namespace Go.Abs
open Go

theorem perm_val {c : Int} : armplanref6_permitted.F c = some (decide (c = 32 ∨ c = 9 ∨ c = 10 ∨ (33 ≤ c ∧ c ≤ 126))) := by
  rw [armplanref6_permitted.F_eq]
  unfold armplanref6_permitted.F0
  by_cases h1 : c = 32
  · simp (disch := omega) only [dif_dec, dif_ndec, bif_eq, bif_neq, bif_ne, bif_nne, w64, wu64, Int.toNat_natCast, Option.bind_some, cond_true, cond_false, Bool.not_true, Bool.not_false, Sum.elim_inl, Sum.elim_inr, decide_eq_true (show c = 32 ∨ c = 9 ∨ c = 10 ∨ (33 ≤ c ∧ c ≤ 126) by omega)]
  · by_cases h2 : c = 9
    · simp (disch := omega) only [dif_dec, dif_ndec, bif_eq, bif_neq, bif_ne, bif_nne, w64, wu64, Int.toNat_natCast, Option.bind_some, cond_true, cond_false, Bool.not_true, Bool.not_false, Sum.elim_inl, Sum.elim_inr, decide_eq_true (show c = 32 ∨ c = 9 ∨ c = 10 ∨ (33 ≤ c ∧ c ≤ 126) by omega)]
    · by_cases h3 : c = 10
      · simp (disch := omega) only [dif_dec, dif_ndec, bif_eq, bif_neq, bif_ne, bif_nne, w64, wu64, Int.toNat_natCast, Option.bind_some, cond_true, cond_false, Bool.not_true, Bool.not_false, Sum.elim_inl, Sum.elim_inr, decide_eq_true (show c = 32 ∨ c = 9 ∨ c = 10 ∨ (33 ≤ c ∧ c ≤ 126) by omega)]
      · by_cases h4 : 33 ≤ c
        · by_cases h5 : c ≤ 126
          · simp (disch := omega) only [dif_dec, dif_ndec, bif_eq, bif_neq, bif_ne, bif_nne, w64, wu64, Int.toNat_natCast, Option.bind_some, cond_true, cond_false, Bool.not_true, Bool.not_false, Sum.elim_inl, Sum.elim_inr, decide_eq_true (show c = 32 ∨ c = 9 ∨ c = 10 ∨ (33 ≤ c ∧ c ≤ 126) by omega), decide_eq_true h5]
          · simp (disch := omega) only [dif_dec, dif_ndec, bif_eq, bif_neq, bif_ne, bif_nne, w64, wu64, Int.toNat_natCast, Option.bind_some, cond_true, cond_false, Bool.not_true, Bool.not_false, Sum.elim_inl, Sum.elim_inr, decide_eq_false (show ¬ (c = 32 ∨ c = 9 ∨ c = 10 ∨ (33 ≤ c ∧ c ≤ 126)) by omega), decide_eq_false h5]
        · simp (disch := omega) only [dif_dec, dif_ndec, bif_eq, bif_neq, bif_ne, bif_nne, w64, wu64, Int.toNat_natCast, Option.bind_some, cond_true, cond_false, Bool.not_true, Bool.not_false, Sum.elim_inl, Sum.elim_inr, decide_eq_false (show ¬ (c = 32 ∨ c = 9 ∨ c = 10 ∨ (33 ≤ c ∧ c ≤ 126)) by omega)]
theorem inw_val {c : Int} : armplanref6_inWord.F c = some (decide (33 ≤ c ∧ c ≤ 126 ∧ c ≠ 35)) := by
  rw [armplanref6_inWord.F_eq]
  unfold armplanref6_inWord.F0
  by_cases h1 : 33 ≤ c
  · by_cases h2 : c ≤ 126
    · by_cases h3 : c = 35
      · subst h3
        rfl
      · simp (disch := omega) only [dif_dec, dif_ndec, bif_eq, bif_neq, bif_ne, bif_nne, w64, wu64, Int.toNat_natCast, Option.bind_some, cond_true, cond_false, Bool.not_true, Bool.not_false, Sum.elim_inl, Sum.elim_inr, decide_eq_true (show 33 ≤ c ∧ c ≤ 126 ∧ c ≠ 35 by omega), bne_iff_ne.2 h3]
    · simp (disch := omega) only [dif_dec, dif_ndec, bif_eq, bif_neq, bif_ne, bif_nne, w64, wu64, Int.toNat_natCast, Option.bind_some, cond_true, cond_false, Bool.not_true, Bool.not_false, Sum.elim_inl, Sum.elim_inr, decide_eq_false (show ¬ (33 ≤ c ∧ c ≤ 126 ∧ c ≠ 35) by omega)]
  · simp (disch := omega) only [dif_dec, dif_ndec, bif_eq, bif_neq, bif_ne, bif_nne, w64, wu64, Int.toNat_natCast, Option.bind_some, cond_true, cond_false, Bool.not_true, Bool.not_false, Sum.elim_inl, Sum.elim_inr, decide_eq_false (show ¬ (33 ≤ c ∧ c ≤ 126 ∧ c ≠ 35) by omega)]

def wch (s : ByteArray) (i : Nat) : Bool := decide (33 ≤ btI s (i : Int) ∧ btI s (i : Int) ≤ 126 ∧ btI s (i : Int) ≠ 35)
/-- How many bytes of a word stand here. -/
def wlen (s : ByteArray) : Nat → Nat → Nat
  | 0, _ => 0
  | d + 1, i => bif wch s i then wlen s d (i + 1) + 1 else 0
theorem wlen_le {s : ByteArray} : ∀ (d i : Nat), wlen s d i ≤ d
  | 0, _ => Nat.le_refl _
  | d + 1, i => by
    simp only [wlen]
    cases wch s i with
    | true => simp only [cond_true]; have := wlen_le (s := s) d (i + 1); omega
    | false => simp only [cond_false]; omega

theorem ref_word {s : ByteArray} (hs : s.size ≤ 16384) {line begin i0 x y : Int} {com : Bool} {out : List WT} : ∀ (d k : Nat), k + d = s.size →
    loopF armplanref6_Split.p1.step (s, line, begin, com, i0, (k : Int), x, y, out) = some (s, line, begin, com, i0, ((k + wlen s d k : Nat) : Int), x, y, out)
  | 0, k, h => by
    refine loop_end ?_
    unfold armplanref6_Split.p1.step armplanref6_Split.p1.round
    simp only [wlen]
    simp (disch := omega) only [dif_dec, dif_ndec, bif_eq, bif_neq, bif_ne, bif_nne, w64, wu64, Int.toNat_natCast, Option.bind_some, cond_true, cond_false, Bool.not_true, Bool.not_false, Sum.elim_inl, Sum.elim_inr, Nat.add_zero]
  | d + 1, k, h => by
    simp only [wlen]
    cases hw : wch s k with
    | true =>
      have ih := ref_word hs (line := line) (begin := begin) (i0 := i0) (x := x) (y := y) (com := com) (out := out) d (k + 1) (by omega)
      rw [loopF_eq]
      have hstep : armplanref6_Split.p1.step (s, line, begin, com, i0, (k : Int), x, y, out) = some (.inl (s, line, begin, com, i0, ((k + 1 : Nat) : Int), x, y, out)) := by
        unfold armplanref6_Split.p1.step armplanref6_Split.p1.round
        simp only []
        have e1 : ((k : Int) + 1) = ((k + 1 : Nat) : Int) := by omega
        have hw2 : decide (33 ≤ btI s (k : Int) ∧ btI s (k : Int) ≤ 126 ∧ btI s (k : Int) ≠ 35) = true := hw
        simp (disch := omega) only [dif_dec, dif_ndec, bif_eq, bif_neq, bif_ne, bif_nne, w64, wu64, Int.toNat_natCast, Option.bind_some, cond_true, cond_false, Bool.not_true, Bool.not_false, Sum.elim_inl, Sum.elim_inr, inw_val, hw2, e1]
      rw [hstep]
      simp only [cond_true]
      rw [show k + (wlen s d (k + 1) + 1) = k + 1 + wlen s d (k + 1) by omega]
      exact ih
    | false =>
      refine loop_end ?_
      unfold armplanref6_Split.p1.step armplanref6_Split.p1.round
      simp only []
      have hw2 : decide (33 ≤ btI s (k : Int) ∧ btI s (k : Int) ≤ 126 ∧ btI s (k : Int) ≠ 35) = false := hw
      simp (disch := omega) only [dif_dec, dif_ndec, bif_eq, bif_neq, bif_ne, bif_nne, w64, wu64, Int.toNat_natCast, Option.bind_some, cond_true, cond_false, Bool.not_true, Bool.not_false, Sum.elim_inl, Sum.elim_inr, inw_val, hw2, Nat.add_zero]

/-- Within a word. -/
theorem scan_word {s : ByteArray} {line begin st : Int} {out : List WT} (hst : 0 ≤ st) : ∀ (d i : Nat), scan s d i line begin false st out = scan s (d - wlen s d i) (i + wlen s d i) line begin false (-1) (endW s (i + wlen s d i) line begin st out)
  | 0, i => by
    simp only [wlen, scan, Nat.sub_zero, Nat.add_zero]
    unfold endW
    rw [if_pos hst, if_neg (by omega)]
  | d + 1, i => by
    simp only [wlen]
    cases hw : wch s i with
    | true =>
      have h := of_decide_eq_true (hw : decide _ = true)
      have ih := scan_word (s := s) (line := line) (begin := begin) (out := out) hst d (i + 1)
      simp only [cond_true, scan]
      rw [if_neg (by omega), if_neg (by simp), if_neg (by omega), if_neg (by omega), if_pos (by omega), if_neg (by omega), ih]
      rw [show i + (wlen s d (i + 1) + 1) = i + 1 + wlen s d (i + 1) by omega, show d + 1 - (wlen s d (i + 1) + 1) = d - wlen s d (i + 1) by omega]
    | false =>
      have h := of_decide_eq_false (hw : decide _ = false)
      simp only [cond_false, Nat.sub_zero, Nat.add_zero, scan]
      have e2 : endW s i line begin (-1) (endW s i line begin st out) = endW s i line begin st out := by
        unfold endW
        rw [if_pos hst, if_neg (by omega)]
      by_cases h10 : btI s (i : Int) = 10
      · rw [if_pos h10, if_pos h10, e2]
      · rw [if_neg h10, if_neg h10]
        simp only [Bool.false_eq_true, if_false]
        by_cases h35 : btI s (i : Int) = 35
        · rw [if_pos h35, if_pos h35, e2]
        · rw [if_neg h35, if_neg h35]
          by_cases h32 : btI s (i : Int) = 32 ∨ btI s (i : Int) = 9
          · rw [if_pos h32, if_pos h32, e2]
          · rw [if_neg h32, if_neg h32, if_neg (by omega), if_neg (by omega)]

theorem ref_loop {s : ByteArray} (hs : s.size ≤ 16384) {x y : Int} : ∀ (n d i : Nat) (line begin : Int) (com : Bool) (out : List WT), d ≤ n → i + d = s.size → SInv i line begin (-1) out →
    (∃ l, scan s d i line begin com (-1) out = .inl l ∧ loopF armplanref6_Split.p0.step (s, line, begin, com, (i : Int), x, y, out) = some (.inl (601, l))) ∨
    (∃ out', scan s d i line begin com (-1) out = .inr out' ∧ (out'.length : Int) ≤ s.size ∧
      loopF armplanref6_Split.p0.step (s, line, begin, com, (i : Int), x, y, out) = some (.inr (x, y, out')))
  | _, 0, i, line, begin, com, out, _, hid, hI => by
    right
    have hi : i = s.size := by omega
    refine ⟨out, by simp only [scan, endW]; rfl, by have := hI.o0; omega, loop_end ?_⟩
    unfold armplanref6_Split.p0.step armplanref6_Split.p0.round
    simp only []
    simp (disch := omega) only [dif_dec, dif_ndec, bif_eq, bif_neq, bif_ne, bif_nne, w64, wu64, Int.toNat_natCast, Option.bind_some, cond_true, cond_false, Bool.not_true, Bool.not_false, Sum.elim_inl, Sum.elim_inr]
  | 0, d + 1, _, _, _, _, _, h, _, _ => by omega
  | n + 1, d + 1, i, line, begin, com, out, hn, hid, hI => by
    have hlt : i < s.size := by omega
    obtain ⟨l0, l1, b0, b1, s0, s1, o0, o1, sb⟩ := hI
    have e1 : ((i : Int) + 1) = ((i + 1 : Nat) : Int) := by omega
    have en : endW s i line begin (-1) out = out := by unfold endW; rw [if_neg (by omega)]
    simp only [scan, en]
    by_cases h10 : btI s (i : Int) = 10
    · rw [if_pos h10]
      have ih := ref_loop hs (x := x) (y := y) n d (i + 1) (line + 1) ((i : Int) + 1) false out (by omega) (by omega) ⟨by omega, by omega, by omega, by omega, by omega, by omega, by omega, fun h => by omega, fun h => by omega⟩
      have hstep : armplanref6_Split.p0.step (s, line, begin, com, (i : Int), x, y, out) = some (.inl (s, line + 1, (i : Int) + 1, false, ((i + 1 : Nat) : Int), x, y, out)) := by
        unfold armplanref6_Split.p0.step armplanref6_Split.p0.round
        simp only []
        simp (disch := omega) only [dif_dec, dif_ndec, bif_eq, bif_neq, bif_ne, bif_nne, w64, wu64, Int.toNat_natCast, Option.bind_some, cond_true, cond_false, Bool.not_true, Bool.not_false, Sum.elim_inl, Sum.elim_inr, e1]
      rw [loopF_eq, hstep]
      exact ih
    · rw [if_neg h10]
      cases com with
      | true =>
        simp only [if_true]
        have ih := ref_loop hs (x := x) (y := y) n d (i + 1) line begin true out (by omega) (by omega) ⟨by omega, by omega, by omega, by omega, by omega, by omega, by omega, fun h => by omega, fun h => by omega⟩
        have hstep : armplanref6_Split.p0.step (s, line, begin, true, (i : Int), x, y, out) = some (.inl (s, line, begin, true, ((i + 1 : Nat) : Int), x, y, out)) := by
          unfold armplanref6_Split.p0.step armplanref6_Split.p0.round
          simp only []
          simp (disch := omega) only [dif_dec, dif_ndec, bif_eq, bif_neq, bif_ne, bif_nne, w64, wu64, Int.toNat_natCast, Option.bind_some, cond_true, cond_false, Bool.not_true, Bool.not_false, Sum.elim_inl, Sum.elim_inr, e1]
        rw [loopF_eq, hstep]
        exact ih
      | false =>
        simp only [Bool.false_eq_true, if_false]
        by_cases h35 : btI s (i : Int) = 35
        · rw [if_pos h35]
          have ih := ref_loop hs (x := x) (y := y) n d (i + 1) line begin true out (by omega) (by omega) ⟨by omega, by omega, by omega, by omega, by omega, by omega, by omega, fun h => by omega, fun h => by omega⟩
          have hstep : armplanref6_Split.p0.step (s, line, begin, false, (i : Int), x, y, out) = some (.inl (s, line, begin, true, ((i + 1 : Nat) : Int), x, y, out)) := by
            unfold armplanref6_Split.p0.step armplanref6_Split.p0.round
            simp only []
            simp (disch := omega) only [dif_dec, dif_ndec, bif_eq, bif_neq, bif_ne, bif_nne, w64, wu64, Int.toNat_natCast, Option.bind_some, cond_true, cond_false, Bool.not_true, Bool.not_false, Sum.elim_inl, Sum.elim_inr, e1]
          rw [loopF_eq, hstep]
          exact ih
        · rw [if_neg h35]
          by_cases h32 : btI s (i : Int) = 32 ∨ btI s (i : Int) = 9
          · rw [if_pos h32]
            have ih := ref_loop hs (x := x) (y := y) n d (i + 1) line begin false out (by omega) (by omega) ⟨by omega, by omega, by omega, by omega, by omega, by omega, by omega, fun h => by omega, fun h => by omega⟩
            have hstep : armplanref6_Split.p0.step (s, line, begin, false, (i : Int), x, y, out) = some (.inl (s, line, begin, false, ((i + 1 : Nat) : Int), x, y, out)) := by
              unfold armplanref6_Split.p0.step armplanref6_Split.p0.round
              simp only []
              simp (disch := omega) only [dif_dec, dif_ndec, bif_eq, bif_neq, bif_ne, bif_nne, w64, wu64, Int.toNat_natCast, Option.bind_some, cond_true, cond_false, Bool.not_true, Bool.not_false, Sum.elim_inl, Sum.elim_inr, perm_val, inw_val, e1, decide_eq_true (show btI s (i : Int) = 32 ∨ btI s (i : Int) = 9 ∨ btI s (i : Int) = 10 ∨ (33 ≤ btI s (i : Int) ∧ btI s (i : Int) ≤ 126) by omega), decide_eq_false (show ¬ (33 ≤ btI s (i : Int) ∧ btI s (i : Int) ≤ 126 ∧ btI s (i : Int) ≠ 35) by omega)]
            rw [loopF_eq, hstep]
            exact ih
          · rw [if_neg h32]
            by_cases hw2 : 33 ≤ btI s (i : Int) ∧ btI s (i : Int) ≤ 126
            · rw [if_pos hw2, if_pos (by omega)]
              have hw : wch s i = true := decide_eq_true (by omega)
              have hle := wlen_le (s := s) d (i + 1)
              have hwd := ref_word hs (line := line) (begin := begin) (i0 := (i : Int)) (x := x) (y := y) (com := false) (out := out) (d + 1) i hid
              have hwl : wlen s (d + 1) i = wlen s d (i + 1) + 1 := by simp only [wlen, hw, cond_true]
              rw [hwl] at hwd
              rw [scan_word (by omega) d (i + 1), show i + 1 + wlen s d (i + 1) = i + (wlen s d (i + 1) + 1) by omega]
              generalize hk : wlen s d (i + 1) = k at *
              have ew : endW s (i + (k + 1)) line begin (i : Int) out = out ++ [(s.extract i (i + (k + 1)), (line, (i : Int) - begin + 1))] := by
                unfold endW
                rw [if_pos (by omega), Int.toNat_natCast]
              have ih := ref_loop hs (x := x) (y := y) n (d - k) (i + (k + 1)) line begin false (endW s (i + (k + 1)) line begin (i : Int) out) (by omega) (by omega) ⟨by omega, by omega, by omega, by omega, by omega, by omega, by rw [ew, List.length_append, List.length_cons, List.length_nil]; omega, fun h => by omega, fun h => by omega⟩
              have hstep : armplanref6_Split.p0.step (s, line, begin, false, (i : Int), x, y, out) = some (.inl (s, line, begin, false, ((i + (k + 1) : Nat) : Int), x, y, endW s (i + (k + 1)) line begin (i : Int) out)) := by
                unfold armplanref6_Split.p0.step armplanref6_Split.p0.round
                simp only [ew]
                simp (disch := omega) only [dif_dec, dif_ndec, bif_eq, bif_neq, bif_ne, bif_nne, w64, wu64, Int.toNat_natCast, Option.bind_some, cond_true, cond_false, Bool.not_true, Bool.not_false, Sum.elim_inl, Sum.elim_inr, perm_val, inw_val, decide_eq_true (show btI s (i : Int) = 32 ∨ btI s (i : Int) = 9 ∨ btI s (i : Int) = 10 ∨ (33 ≤ btI s (i : Int) ∧ btI s (i : Int) ≤ 126) by omega), decide_eq_true (show 33 ≤ btI s (i : Int) ∧ btI s (i : Int) ≤ 126 ∧ btI s (i : Int) ≠ 35 by omega), hwd, List.length_cons, List.length_nil]
              rw [loopF_eq, hstep]
              exact ih
            · rw [if_neg hw2]
              left
              refine ⟨line, rfl, loop_end ?_⟩
              unfold armplanref6_Split.p0.step armplanref6_Split.p0.round
              simp only []
              simp (disch := omega) only [dif_dec, dif_ndec, bif_eq, bif_neq, bif_ne, bif_nne, w64, wu64, Int.toNat_natCast, Option.bind_some, cond_true, cond_false, Bool.not_true, Bool.not_false, Sum.elim_inl, Sum.elim_inr, perm_val, decide_eq_false (show ¬ (btI s (i : Int) = 32 ∨ btI s (i : Int) = 9 ∨ btI s (i : Int) = 10 ∨ (33 ≤ btI s (i : Int) ∧ btI s (i : Int) ≤ 126)) by omega)]

theorem ref_split (s : ByteArray) : armplanref6_Split.F s = some (splitF s) ∧ (splitF s).2.2.length ≤ 16384 := by
  rw [armplanref6_Split.F_eq]
  unfold armplanref6_Split.F0 splitF
  by_cases hs : 16384 < s.size
  · rw [if_pos hs]
    refine ⟨?_, by simp⟩
    simp (disch := omega) only [dif_dec, dif_ndec, bif_eq, bif_neq, bif_ne, bif_nne, w64, wu64, Int.toNat_natCast, Option.bind_some, cond_true, cond_false, Bool.not_true, Bool.not_false, Sum.elim_inl, Sum.elim_inr]
  · rw [if_neg hs]
    have hI : SInv 0 1 0 (-1) ([] : List WT) := ⟨by omega, by omega, by omega, by omega, by omega, by omega, by simp, fun h => by omega, fun h => by omega⟩
    rcases ref_loop (s := s) (by omega) (x := 0) (y := 0) s.size s.size 0 1 0 false [] (Nat.le_refl _) (by omega) hI with ⟨l, h1, h2⟩ | ⟨out', h1, h3, h2⟩
    · rw [show ((0 : Nat) : Int) = 0 from rfl] at h2
      rw [h1]
      refine ⟨?_, by simp⟩
      simp (disch := omega) only [dif_dec, dif_ndec, bif_eq, bif_neq, bif_ne, bif_nne, w64, wu64, Int.toNat_natCast, Option.bind_some, cond_true, cond_false, Bool.not_true, Bool.not_false, Sum.elim_inl, Sum.elim_inr, h2]
    · rw [show ((0 : Nat) : Int) = 0 from rfl] at h2
      rw [h1]
      refine ⟨?_, by simp only []; omega⟩
      simp (disch := omega) only [dif_dec, dif_ndec, bif_eq, bif_neq, bif_ne, bif_nne, w64, wu64, Int.toNat_natCast, Option.bind_some, cond_true, cond_false, Bool.not_true, Bool.not_false, Sum.elim_inl, Sum.elim_inr, h2]

theorem sameW_val {l : List WT} (hl : l.length ≤ 2 ^ 40) : armplanmake_Same_Word.F l l = some true := by
  rw [armplanmake_Same_Word.F_eq]
  unfold armplanmake_Same_Word.F0
  have h := loop_find (step := armplanmake_Same_Word.p0.step) (fun i : Nat => (l, l, (i : Int))) l.length (fun i => none) (.inr ()) (by
    intro i hi
    unfold armplanmake_Same_Word.p0.step armplanmake_Same_Word.p0.round
    simp only []
    have e1 : ((i : Int) + 1) = ((i + 1 : Nat) : Int) := by omega
    simp (disch := omega) only [dif_dec, dif_ndec, bif_eq, bif_neq, bif_ne, bif_nne, w64, wu64, Int.toNat_natCast, Option.bind_some, cond_true, cond_false, Bool.not_true, Bool.not_false, Sum.elim_inl, Sum.elim_inr, eqS_refl, beq_self_eq_true, Bool.and_self, e1]) (by
    unfold armplanmake_Same_Word.p0.step armplanmake_Same_Word.p0.round
    simp only []
    simp (disch := omega) only [dif_dec, dif_ndec, bif_eq, bif_neq, bif_ne, bif_nne, w64, wu64, Int.toNat_natCast, Option.bind_some, cond_true, cond_false, Bool.not_true, Bool.not_false, Sum.elim_inl, Sum.elim_inr]) l.length 0 (by omega)
  rw [show ((0 : Nat) : Int) = 0 from rfl] at h
  have hn : ∀ k i, findE (fun _ : Nat => (none : Option (Bool ⊕ Unit))) (Sum.inr ()) i k = Sum.inr () := by
    intro k
    induction k with
    | zero => intro i; rfl
    | succ k ih => intro i; simp only [findE]; exact ih _
  rw [hn] at h
  simp (disch := omega) only [dif_dec, dif_ndec, bif_eq, bif_neq, bif_ne, bif_nne, w64, wu64, Int.toNat_natCast, Option.bind_some, cond_true, cond_false, Bool.not_true, Bool.not_false, Sum.elim_inl, Sum.elim_inr, h, bne_self_eq_false]
theorem splits_val (s : ByteArray) : armplanlaw6_splits.F s = some true := by
  rw [armplanlaw6_splits.F_eq]
  unfold armplanlaw6_splits.F0
  rw [tok_split, (ref_split s).1]
  simp only [Option.bind_some]
  rw [sameW_val (by have := (ref_split s).2; omega)]
  simp (disch := omega) only [dif_dec, dif_ndec, bif_eq, bif_neq, bif_ne, bif_nne, w64, wu64, Int.toNat_natCast, Option.bind_some, cond_true, cond_false, Bool.not_true, Bool.not_false, Sum.elim_inl, Sum.elim_inr, beq_self_eq_true, Bool.and_self]
end Go.Abs
