/- A part of the proof that the text with the row names: printed readings of functions, or plain lemmas about them. -/
import Derived.Test.YtgligkmpgefbmaaDoorC6M1
set_option linter.unusedVariables false
set_option linter.unusedSimpArgs false
namespace Go.Abs
open Go

abbrev WT := ByteArray × (Int × Int)
def endW (s : ByteArray) (i : Nat) (line begin start : Int) (out : List WT) : List WT :=
  if 0 ≤ start then out ++ [(s.extract start.toNat i, (line, start - begin + 1))] else out
/-- What both make of a description, byte by byte: d bytes are left. -/
def scan (s : ByteArray) : Nat → Nat → Int → Int → Bool → Int → List WT → Int ⊕ List WT
  | 0, i, line, begin, _, start, out => .inr (endW s i line begin start out)
  | d + 1, i, line, begin, com, start, out =>
    if btI s (i : Int) = 10 then scan s d (i + 1) (line + 1) ((i : Int) + 1) false (-1) (endW s i line begin start out)
    else if com = true then scan s d (i + 1) line begin true start out
    else if btI s (i : Int) = 35 then scan s d (i + 1) line begin true (-1) (endW s i line begin start out)
    else if btI s (i : Int) = 32 ∨ btI s (i : Int) = 9 then scan s d (i + 1) line begin false (-1) (endW s i line begin start out)
    else if 33 ≤ btI s (i : Int) ∧ btI s (i : Int) ≤ 126 then scan s d (i + 1) line begin false (if start < 0 then (i : Int) else start) out
    else .inl line

/-- How the numbers lie at place i. -/
structure SInv (i : Nat) (line begin start : Int) (out : List WT) : Prop where
  l0 : 1 ≤ line
  l1 : line ≤ (i : Int) + 1
  b0 : 0 ≤ begin
  b1 : begin ≤ (i : Int)
  s0 : -1 ≤ start
  s1 : start < (i : Int)
  o0 : (out.length : Int) ≤ (i : Int)
  o1 : 0 ≤ start → (out.length : Int) + 1 ≤ (i : Int)
  sb : 0 ≤ start → begin ≤ start

theorem endW_len {s : ByteArray} {i : Nat} {line begin start : Int} {out : List WT} (h : SInv i line begin start out) : ((endW s i line begin start out).length : Int) ≤ (i : Int) := by
  unfold endW
  split
  · rename_i hs
    have := h.o1 hs
    simp only [List.length_append, List.length_cons, List.length_nil]
    omega
  · exact h.o0

theorem end_val {s : ByteArray} {i : Nat} {line begin start : Int} {out : List WT} (h : SInv i line begin start out) (hs : s.size ≤ 16384) (hi : i ≤ s.size) :
    token_Split_1.F (i : Int) start s line begin out = some (-1, s, line, begin, endW s i line begin start out) := by
  obtain ⟨l0, l1, b0, b1, s0, s1, o0, o1, sb⟩ := h
  rw [token_Split_1.F_eq]
  unfold token_Split_1.F0 endW
  by_cases hst : start ≥ 0
  · have := o1 hst
    have hb := sb hst
    rw [if_pos hst]
    simp only [List.length_cons, List.length_nil]
    simp (disch := omega) only [dif_dec, dif_ndec, bif_eq, bif_neq, bif_ne, bif_nne, w64, wu64, Int.toNat_natCast, Option.bind_some, cond_true, cond_false, Bool.not_true, Bool.not_false, Sum.elim_inl, Sum.elim_inr]
  · rw [if_neg (by omega)]
    simp (disch := omega) only [dif_dec, dif_ndec, bif_eq, bif_neq, bif_ne, bif_nne, w64, wu64, Int.toNat_natCast, Option.bind_some, cond_true, cond_false, Bool.not_true, Bool.not_false, Sum.elim_inl, Sum.elim_inr]
    rw [show start = -1 by omega]

/-- Bytes of a comment. -/
theorem scan_skip {s : ByteArray} : ∀ (w d i : Nat) (line begin start : Int) (out : List WT), (∀ j : Nat, i ≤ j → j < i + w → btI s (j : Int) ≠ 10) → scan s (w + d) i line begin true start out = scan s d (i + w) line begin true start out
  | 0, d, i, line, begin, start, out, _ => by rw [Nat.zero_add, Nat.add_zero]
  | w + 1, d, i, line, begin, start, out, h => by
    rw [show w + 1 + d = (w + d) + 1 by omega]
    simp only [scan]
    rw [if_neg (h i (Nat.le_refl _) (by omega)), if_true, scan_skip w d (i + 1) line begin start out (fun j h1 h2 => h j (by omega) (by omega))]
    congr 1
    omega

theorem tok_loop {s : ByteArray} (hs : s.size ≤ 16384) : ∀ (n d i : Nat) (line begin start : Int) (com : Bool) (out : List WT), d ≤ n → i + d = s.size → SInv i line begin start out → (com = true → start = -1) →
    (∃ l, scan s d i line begin com start out = .inl l ∧ loopF token_Split.p0.step (com, s, 0, 0, line, begin, start, s, (i : Int), out) = some (.inl (601, l))) ∨
    (∃ line' begin' start' out', scan s d i line begin com start out = .inr (endW s s.size line' begin' start' out') ∧ SInv s.size line' begin' start' out' ∧
      loopF token_Split.p0.step (com, s, 0, 0, line, begin, start, s, (i : Int), out) = some (.inr (s, 0, 0, start', line', begin', out')))
  | _, 0, i, line, begin, start, com, out, _, hid, hI, _ => by
    right
    have hi : i = s.size := by omega
    refine ⟨line, begin, start, out, by rw [← hi]; rfl, by rw [← hi]; exact hI, loop_end ?_⟩
    unfold token_Split.p0.step token_Split.p0.round
    simp only []
    simp (disch := omega) only [dif_dec, dif_ndec, bif_eq, bif_neq, bif_ne, bif_nne, w64, wu64, Int.toNat_natCast, Option.bind_some, cond_true, cond_false, Bool.not_true, Bool.not_false, Sum.elim_inl, Sum.elim_inr]
  | 0, d + 1, _, _, _, _, _, _, h, _, _, _ => by omega
  | n + 1, d + 1, i, line, begin, start, com, out, hn, hid, hI, hcom => by
    have hlt : i < s.size := by omega
    have hend := end_val hI hs (by omega)
    have hlen := endW_len (s := s) hI
    obtain ⟨l0, l1, b0, b1, s0, s1, o0, o1, sb⟩ := hI
    have e1 : ((i : Int) + 1) = ((i + 1 : Nat) : Int) := by omega
    by_cases ha : btI s (i : Int) < 128
    · obtain ⟨hc, hw⟩ := rn_ascii ha
      simp only [scan]
      by_cases h10 : btI s (i : Int) = 10
      · rw [if_pos h10]
        have ih := tok_loop hs n d (i + 1) (line + 1) ((i : Int) + 1) (-1) false (endW s i line begin start out) (by omega) (by omega) ⟨by omega, by omega, by omega, by omega, by omega, by omega, by omega, fun h => by omega, fun h => by omega⟩ (fun h => by cases h)
        have hstep : token_Split.p0.step (com, s, 0, 0, line, begin, start, s, (i : Int), out) = some (.inl (false, s, 0, 0, line + 1, (i : Int) + 1, -1, s, ((i + 1 : Nat) : Int), endW s i line begin start out)) := by
          unfold token_Split.p0.step token_Split.p0.round
          simp only []
          rw [hc, hw]
          simp (disch := omega) only [dif_dec, dif_ndec, bif_eq, bif_neq, bif_ne, bif_nne, w64, wu64, Int.toNat_natCast, Option.bind_some, cond_true, cond_false, Bool.not_true, Bool.not_false, Sum.elim_inl, Sum.elim_inr, hend, e1]
        rw [loopF_eq, hstep]
        exact ih
      · rw [if_neg h10]
        cases com with
        | true =>
          simp only [if_true]
          have ih := tok_loop hs n d (i + 1) line begin start true out (by omega) (by omega) ⟨by omega, by omega, by omega, by omega, by omega, by omega, by omega, fun h => by have := o1 h; omega, sb⟩ hcom
          have hstep : token_Split.p0.step (true, s, 0, 0, line, begin, start, s, (i : Int), out) = some (.inl (true, s, 0, 0, line, begin, start, s, ((i + 1 : Nat) : Int), out)) := by
            unfold token_Split.p0.step token_Split.p0.round
            simp only []
            rw [hc, hw]
            simp (disch := omega) only [dif_dec, dif_ndec, bif_eq, bif_neq, bif_ne, bif_nne, w64, wu64, Int.toNat_natCast, Option.bind_some, cond_true, cond_false, Bool.not_true, Bool.not_false, Sum.elim_inl, Sum.elim_inr, e1]
          rw [loopF_eq, hstep]
          exact ih
        | false =>
          simp only [Bool.false_eq_true, if_false]
          by_cases h35 : btI s (i : Int) = 35
          · rw [if_pos h35]
            have ih := tok_loop hs n d (i + 1) line begin (-1) true (endW s i line begin start out) (by omega) (by omega) ⟨by omega, by omega, by omega, by omega, by omega, by omega, by omega, fun h => by omega, fun h => by omega⟩ (fun h => rfl)
            have hstep : token_Split.p0.step (false, s, 0, 0, line, begin, start, s, (i : Int), out) = some (.inl (true, s, 0, 0, line, begin, -1, s, ((i + 1 : Nat) : Int), endW s i line begin start out)) := by
              unfold token_Split.p0.step token_Split.p0.round
              simp only []
              rw [hc, hw]
              simp (disch := omega) only [dif_dec, dif_ndec, bif_eq, bif_neq, bif_ne, bif_nne, w64, wu64, Int.toNat_natCast, Option.bind_some, cond_true, cond_false, Bool.not_true, Bool.not_false, Sum.elim_inl, Sum.elim_inr, hend, e1]
            rw [loopF_eq, hstep]
            exact ih
          · rw [if_neg h35]
            by_cases h32 : btI s (i : Int) = 32 ∨ btI s (i : Int) = 9
            · rw [if_pos h32]
              have ih := tok_loop hs n d (i + 1) line begin (-1) false (endW s i line begin start out) (by omega) (by omega) ⟨by omega, by omega, by omega, by omega, by omega, by omega, by omega, fun h => by omega, fun h => by omega⟩ (fun h => by cases h)
              have hstep : token_Split.p0.step (false, s, 0, 0, line, begin, start, s, (i : Int), out) = some (.inl (false, s, 0, 0, line, begin, -1, s, ((i + 1 : Nat) : Int), endW s i line begin start out)) := by
                unfold token_Split.p0.step token_Split.p0.round
                simp only []
                rw [hc, hw]
                rcases h32 with h | h
                · simp (disch := omega) only [dif_dec, dif_ndec, bif_eq, bif_neq, bif_ne, bif_nne, w64, wu64, Int.toNat_natCast, Option.bind_some, cond_true, cond_false, Bool.not_true, Bool.not_false, Sum.elim_inl, Sum.elim_inr, hend, e1]
                · simp (disch := omega) only [dif_dec, dif_ndec, bif_eq, bif_neq, bif_ne, bif_nne, w64, wu64, Int.toNat_natCast, Option.bind_some, cond_true, cond_false, Bool.not_true, Bool.not_false, Sum.elim_inl, Sum.elim_inr, hend, e1]
              rw [loopF_eq, hstep]
              exact ih
            · rw [if_neg h32]
              by_cases hw2 : 33 ≤ btI s (i : Int) ∧ btI s (i : Int) ≤ 126
              · rw [if_pos hw2]
                by_cases hst : start < 0
                · rw [if_pos hst]
                  have ih := tok_loop hs n d (i + 1) line begin (i : Int) false out (by omega) (by omega) ⟨by omega, by omega, by omega, by omega, by omega, by omega, by omega, fun h => by omega, fun h => by omega⟩ (fun h => by cases h)
                  have hstep : token_Split.p0.step (false, s, 0, 0, line, begin, start, s, (i : Int), out) = some (.inl (false, s, 0, 0, line, begin, (i : Int), s, ((i + 1 : Nat) : Int), out)) := by
                    unfold token_Split.p0.step token_Split.p0.round
                    simp only []
                    rw [hc, hw]
                    simp (disch := omega) only [dif_dec, dif_ndec, bif_eq, bif_neq, bif_ne, bif_nne, w64, wu64, Int.toNat_natCast, Option.bind_some, cond_true, cond_false, Bool.not_true, Bool.not_false, Sum.elim_inl, Sum.elim_inr, e1]
                  rw [loopF_eq, hstep]
                  exact ih
                · rw [if_neg hst]
                  have ih := tok_loop hs n d (i + 1) line begin start false out (by omega) (by omega) ⟨by omega, by omega, by omega, by omega, by omega, by omega, by omega, fun h => by have := o1 h; omega, sb⟩ (fun h => by cases h)
                  have hstep : token_Split.p0.step (false, s, 0, 0, line, begin, start, s, (i : Int), out) = some (.inl (false, s, 0, 0, line, begin, start, s, ((i + 1 : Nat) : Int), out)) := by
                    unfold token_Split.p0.step token_Split.p0.round
                    simp only []
                    rw [hc, hw]
                    simp (disch := omega) only [dif_dec, dif_ndec, bif_eq, bif_neq, bif_ne, bif_nne, w64, wu64, Int.toNat_natCast, Option.bind_some, cond_true, cond_false, Bool.not_true, Bool.not_false, Sum.elim_inl, Sum.elim_inr, e1]
                  rw [loopF_eq, hstep]
                  exact ih
              · rw [if_neg hw2]
                left
                refine ⟨line, rfl, loop_end ?_⟩
                unfold token_Split.p0.step token_Split.p0.round
                simp only []
                rw [hc, hw]
                by_cases hg : btI s (i : Int) > 32
                · simp (disch := omega) only [dif_dec, dif_ndec, bif_eq, bif_neq, bif_ne, bif_nne, w64, wu64, Int.toNat_natCast, Option.bind_some, cond_true, cond_false, Bool.not_true, Bool.not_false, Sum.elim_inl, Sum.elim_inr]
                · simp (disch := omega) only [dif_dec, dif_ndec, bif_eq, bif_neq, bif_ne, bif_nne, w64, wu64, Int.toNat_natCast, Option.bind_some, cond_true, cond_false, Bool.not_true, Bool.not_false, Sum.elim_inl, Sum.elim_inr]
    · obtain ⟨w, hw, hw1, hwn, hbytes⟩ := rn_wide hlt ha
      have hc := rn_high ha
      cases com with
      | true =>
        have hsk := scan_skip w (d + 1 - w) i line begin start out (fun j h1 h2 he => by have h3 := hbytes j h1 h2; rw [he] at h3; exact absurd h3 (by decide))
        rw [show w + (d + 1 - w) = d + 1 by omega] at hsk
        rw [hsk]
        have ih := tok_loop hs n (d + 1 - w) (i + w) line begin start true out (by omega) (by omega) ⟨by omega, by omega, by omega, by omega, by omega, by omega, by omega, fun h => by have := o1 h; omega, sb⟩ hcom
        have hstep : token_Split.p0.step (true, s, 0, 0, line, begin, start, s, (i : Int), out) = some (.inl (true, s, 0, 0, line, begin, start, s, ((i + w : Nat) : Int), out)) := by
          unfold token_Split.p0.step token_Split.p0.round
          simp only []
          rw [hw]
          have e2 : (i : Int) + (w : Int) = ((i + w : Nat) : Int) := by omega
          generalize rnC s (i : Int) = c at *
          simp (disch := omega) only [dif_dec, dif_ndec, bif_eq, bif_neq, bif_ne, bif_nne, w64, wu64, Int.toNat_natCast, Option.bind_some, cond_true, cond_false, Bool.not_true, Bool.not_false, Sum.elim_inl, Sum.elim_inr, e2]
        rw [loopF_eq, hstep]
        exact ih
      | false =>
        left
        refine ⟨line, ?_, loop_end ?_⟩
        · simp only [scan]
          rw [if_neg (by omega), if_neg (by simp), if_neg (by omega), if_neg (by omega), if_neg (by omega)]
        · unfold token_Split.p0.step token_Split.p0.round
          simp only []
          rw [hw]
          generalize rnC s (i : Int) = c at *
          by_cases hg : c ≤ 126
          · omega
          · simp (disch := omega) only [dif_dec, dif_ndec, bif_eq, bif_neq, bif_ne, bif_nne, w64, wu64, Int.toNat_natCast, Option.bind_some, cond_true, cond_false, Bool.not_true, Bool.not_false, Sum.elim_inl, Sum.elim_inr]

/-- What a split is. -/
def splitF (s : ByteArray) : Int × Int × List WT :=
  if 16384 < s.size then (601, 0, []) else
  match scan s s.size 0 1 0 false (-1) [] with
  | .inl l => (601, l, [])
  | .inr out => (0, 0, out)

theorem tok_split (s : ByteArray) : token_Split.F s = some (splitF s) := by
  rw [token_Split.F_eq]
  unfold token_Split.F0 splitF
  by_cases hs : 16384 < s.size
  · rw [if_pos hs]
    simp (disch := omega) only [dif_dec, dif_ndec, bif_eq, bif_neq, bif_ne, bif_nne, w64, wu64, Int.toNat_natCast, Option.bind_some, cond_true, cond_false, Bool.not_true, Bool.not_false, Sum.elim_inl, Sum.elim_inr]
  · rw [if_neg hs]
    simp (disch := omega) only [dif_dec, dif_ndec, bif_eq, bif_neq, bif_ne, bif_nne, w64, wu64, Int.toNat_natCast, Option.bind_some, cond_true, cond_false, Bool.not_true, Bool.not_false, Sum.elim_inl, Sum.elim_inr]
    have hI : SInv 0 1 0 (-1) ([] : List WT) := ⟨by omega, by omega, by omega, by omega, by omega, by omega, by simp, fun h => by omega, fun h => by omega⟩
    rcases tok_loop (s := s) (by omega) s.size s.size 0 1 0 (-1) false [] (Nat.le_refl _) (by omega) hI (fun h => by cases h) with ⟨l, h1, h2⟩ | ⟨line', begin', start', out', h1, h3, h2⟩
    · rw [show ((0 : Nat) : Int) = 0 from rfl] at h2
      rw [h2, h1]
      rfl
    · rw [show ((0 : Nat) : Int) = 0 from rfl] at h2
      rw [h2, h1]
      simp only [Option.bind_some, Sum.elim_inr]
      rw [end_val h3 (by omega) (Nat.le_refl _)]
      rfl
end Go.Abs
