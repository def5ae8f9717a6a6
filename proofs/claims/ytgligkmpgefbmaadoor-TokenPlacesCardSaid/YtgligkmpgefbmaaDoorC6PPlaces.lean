/- A part of the proof that the text with the row names: printed readings of functions, or plain lemmas about them. -/
import Derived.Test.YtgligkmpgefbmaaDoorC6GLTokenPlaces
import Derived.Test.YtgligkmpgefbmaaDoorC6M5
import Derived.Test.YtgligkmpgefbmaaDoorAbsD
set_option linter.unusedVariables false
set_option linter.unusedSimpArgs false
namespace Go.Abs
open Go Go.Proofs
/-- Line and its beginning at a place. -/
def lnB (s : ByteArray) : Nat → Nat × Nat
  | 0 => (1, 0)
  | i + 1 => if btI s (i : Int) = 10 then ((lnB s i).1 + 1, i + 1) else lnB s i
theorem lnB_le (s : ByteArray) : ∀ i, (lnB s i).1 ≤ i + 1 ∧ (lnB s i).2 ≤ i
  | 0 => ⟨Nat.le_refl _, Nat.le_refl _⟩
  | i + 1 => by
    have h := lnB_le s i
    simp only [lnB]
    split
    · exact ⟨by simp only []; omega, by simp only []; omega⟩
    · omega
theorem lnB_mono (s : ByteArray) (i : Nat) : ∀ d, (lnB s i).1 < (lnB s (i + d)).1 ∨ lnB s (i + d) = lnB s i
  | 0 => Or.inr rfl
  | d + 1 => by
    have ih := lnB_mono s i d
    rw [← Nat.add_assoc]
    simp only [lnB]
    split
    · left
      simp only []
      rcases ih with h | h
      · omega
      · rw [h]; omega
    · exact ih
def wdAt (s : ByteArray) (p q : Nat) : WT := (s.extract p q, (((lnB s p).1 : Int), (p : Int) - ((lnB s p).2 : Int) + 1))
/-- The words from a place on. -/
def Wds (s : ByteArray) : Nat → List WT → Prop
  | _, [] => True
  | i, w :: r => ∃ p q, i ≤ p ∧ p < q ∧ q ≤ s.size ∧ w = wdAt s p q ∧ Wds s (p + 1) r
theorem Wds.mono {s : ByteArray} {i j : Nat} (h : i ≤ j) : ∀ {l : List WT}, Wds s j l → Wds s i l
  | [], _ => trivial
  | _ :: _, ⟨p, q, h1, h2⟩ => ⟨p, q, by omega, h2⟩

theorem scan_wds {s : ByteArray} : ∀ (d i : Nat) (line begin start : Int) (com : Bool) (out r : List WT), i + d = s.size → line = ((lnB s i).1 : Int) → begin = ((lnB s i).2 : Int) → (com = true → start < 0) →
    ∀ p0 : Nat, (0 ≤ start → start = (p0 : Int) ∧ p0 < i ∧ lnB s p0 = lnB s i) → (start < 0 → p0 = i) → scan s d i line begin com start out = .inr r → ∃ r', r = out ++ r' ∧ Wds s p0 r' := by
  intro d
  induction d with
  | zero =>
    intro i line begin start com out r hid hl hb hc p0 h0 h1 h
    simp only [scan, endW] at h
    by_cases hs : 0 ≤ start
    · obtain ⟨e, hlt, hln⟩ := h0 hs
      rw [if_pos hs] at h
      cases h
      refine ⟨_, rfl, p0, i, Nat.le_refl _, hlt, by omega, ?_, trivial⟩
      unfold wdAt
      rw [hln, e, hl, hb, Int.toNat_natCast]
    · rw [if_neg hs] at h
      cases h
      exact ⟨[], by simp, trivial⟩
  | succ d ih =>
    intro i line begin start com out r hid hl hb hc p0 h0 h1 h
    have fin : ∀ (l' b' : Int) (c' : Bool), l' = ((lnB s (i + 1)).1 : Int) → b' = ((lnB s (i + 1)).2 : Int) → scan s d (i + 1) l' b' c' (-1) (endW s i line begin start out) = .inr r → ∃ r', r = out ++ r' ∧ Wds s p0 r' := by
      intro l' b' c' e1 e2 h
      obtain ⟨r', hr, hw⟩ := ih (i + 1) l' b' (-1) c' _ r (by omega) e1 e2 (fun _ => by omega) (i + 1) (fun h => by omega) (fun _ => rfl) h
      unfold endW at hr
      by_cases hs : 0 ≤ start
      · obtain ⟨e, hlt, hln⟩ := h0 hs
        rw [if_pos hs, List.append_assoc] at hr
        refine ⟨_, hr, p0, i, Nat.le_refl _, hlt, by omega, ?_, hw.mono (by omega)⟩
        unfold wdAt
        rw [hln, e, hl, hb, Int.toNat_natCast]
      · rw [if_neg hs] at hr
        exact ⟨r', hr, hw.mono (by have := h1 (by omega); omega)⟩
    have same : btI s (i : Int) ≠ 10 → lnB s (i + 1) = lnB s i := fun h => by simp only [lnB]; rw [if_neg h]
    simp only [scan] at h
    by_cases h10 : btI s (i : Int) = 10
    · rw [if_pos h10] at h
      refine fin _ _ _ ?_ ?_ h
      · simp only [lnB]; rw [if_pos h10, hl]; simp only []; omega
      · simp only [lnB]; rw [if_pos h10]; simp only []; omega
    · rw [if_neg h10] at h
      have hs1 := same h10
      by_cases hcom : com = true
      · rw [if_pos hcom] at h
        have hneg := hc hcom
        obtain ⟨r', hr, hw⟩ := ih (i + 1) line begin start true out r (by omega) (by rw [hs1]; exact hl) (by rw [hs1]; exact hb) (fun _ => hneg) (i + 1) (fun h => by omega) (fun _ => rfl) h
        exact ⟨r', hr, hw.mono (by have := h1 hneg; omega)⟩
      · rw [if_neg hcom] at h
        by_cases h35 : btI s (i : Int) = 35
        · rw [if_pos h35] at h
          exact fin _ _ _ (by rw [hs1]; exact hl) (by rw [hs1]; exact hb) h
        · rw [if_neg h35] at h
          by_cases h32 : btI s (i : Int) = 32 ∨ btI s (i : Int) = 9
          · rw [if_pos h32] at h
            exact fin _ _ _ (by rw [hs1]; exact hl) (by rw [hs1]; exact hb) h
          · rw [if_neg h32] at h
            by_cases hw2 : 33 ≤ btI s (i : Int) ∧ btI s (i : Int) ≤ 126
            · rw [if_pos hw2] at h
              by_cases hneg : start < 0
              · rw [if_pos hneg] at h
                have e := h1 hneg
                exact ih (i + 1) line begin (i : Int) false out r (by omega) (by rw [hs1]; exact hl) (by rw [hs1]; exact hb) (fun h => by cases h) p0 (fun _ => ⟨by omega, by omega, by rw [hs1, e]⟩) (fun h => by omega) h
              · rw [if_neg hneg] at h
                have e := h0 (by omega)
                exact ih (i + 1) line begin start false out r (by omega) (by rw [hs1]; exact hl) (by rw [hs1]; exact hb) (fun h => by cases h) p0 (fun _ => ⟨e.1, by omega, by rw [hs1]; exact e.2.2⟩) (fun h => by omega) h
            · rw [if_neg hw2] at h
              cases h

theorem split_wds {s : ByteArray} (h : (splitF s).1 = 0) : Wds s 0 (splitF s).2.2 ∧ s.size ≤ 16384 := by
  unfold splitF at h ⊢
  by_cases hs : 16384 < s.size
  · rw [if_pos hs] at h; exact absurd h (by decide)
  · rw [if_neg hs] at h ⊢
    split at h
    · exact absurd (show (601 : Int) = 0 from h) (by decide)
    · rename_i out hout
      obtain ⟨r', hr, hw⟩ := scan_wds s.size 0 1 0 (-1) false [] out (by omega) rfl rfl (fun h => by cases h) 0 (fun h => by omega) (fun _ => rfl) hout
      rw [List.nil_append] at hr
      subst hr
      exact ⟨hw, by omega⟩

theorem ext_size {s : ByteArray} {p q : Nat} (h1 : p ≤ q) (h2 : q ≤ s.size) : (s.extract p q).size = q - p := by
  rw [ByteArray.size_extract, Nat.min_eq_left h2]

theorem drop_cons' {l : List WT} {k : Nat} (h : k < l.length) : l.drop k = l.getD k (⟨#[]⟩, (0, 0)) :: l.drop (k + 1) := by
  rw [List.drop_eq_getElem_cons h, List.getD_eq_getElem?_getD, List.getElem?_eq_getElem h]
  rfl

/-- No word begins here. -/
theorem pl_stop {s : ByteArray} {w : List WT} (hs : s.size ≤ 16384) (hw : w.length ≤ 16384) {i k : Nat} (hi : i ≤ s.size) (hk : k ≤ w.length) (h : Wds s (i + 1) (w.drop k)) :
    loopF armplanlaw6_TokenPlaces.p1.step (s, ((lnB s i).1 : Int), ((lnB s i).2 : Int), (k : Int), (i : Int), w) = some (.inr (s, ((lnB s i).1 : Int), ((lnB s i).2 : Int), (k : Int), (i : Int), w)) := by
  have hb := lnB_le s i
  refine loop_end ?_
  unfold armplanlaw6_TokenPlaces.p1.step armplanlaw6_TokenPlaces.p1.round
  simp only []
  by_cases hlt : k < w.length
  · rw [drop_cons' hlt] at h
    obtain ⟨p, q, h1, h2, h3, h4, _⟩ := h
    have hp := lnB_le s p
    have hm := lnB_mono s i (p - i)
    rw [show i + (p - i) = p by omega] at hm
    simp (disch := omega) only [dif_dec, dif_ndec, bif_eq, bif_neq, bif_ne, bif_nne, w64, wu64, Int.toNat_natCast, Option.bind_some, cond_true, cond_false, Bool.not_true, Bool.not_false, Sum.elim_inl, Sum.elim_inr, h4]
    unfold wdAt
    simp only []
    rcases hm with hm | hm
    · simp (disch := omega) only [dif_dec, dif_ndec, bif_eq, bif_neq, bif_ne, bif_nne, w64, wu64, Int.toNat_natCast, Option.bind_some, cond_true, cond_false, Bool.not_true, Bool.not_false, Sum.elim_inl, Sum.elim_inr]
    · rw [hm]
      simp (disch := omega) only [dif_dec, dif_ndec, bif_eq, bif_neq, bif_ne, bif_nne, w64, wu64, Int.toNat_natCast, Option.bind_some, cond_true, cond_false, Bool.not_true, Bool.not_false, Sum.elim_inl, Sum.elim_inr]
  · simp (disch := omega) only [dif_dec, dif_ndec, bif_eq, bif_neq, bif_ne, bif_nne, w64, wu64, Int.toNat_natCast, Option.bind_some, cond_true, cond_false, Bool.not_true, Bool.not_false, Sum.elim_inl, Sum.elim_inr]
theorem pl_inner {s : ByteArray} {w : List WT} (hs : s.size ≤ 16384) (hw : w.length ≤ 16384) {i k : Nat} (hi : i ≤ s.size) (hk : k ≤ w.length) (h : Wds s i (w.drop k)) :
    ∃ k', k' ≤ w.length ∧ Wds s (i + 1) (w.drop k') ∧ loopF armplanlaw6_TokenPlaces.p1.step (s, ((lnB s i).1 : Int), ((lnB s i).2 : Int), (k : Int), (i : Int), w) = some (.inr (s, ((lnB s i).1 : Int), ((lnB s i).2 : Int), (k' : Int), (i : Int), w)) := by
  by_cases hlt : k < w.length
  · have h' := h
    rw [drop_cons' hlt] at h
    obtain ⟨p, q, h1, h2, h3, h4, h5⟩ := h
    by_cases hp : p = i
    · subst hp
      refine ⟨k + 1, hlt, h5, ?_⟩
      rw [loopF_eq]
      have hb := lnB_le s p
      have hsz := ext_size (s := s) (Nat.le_of_lt h2) h3
      have hstep : armplanlaw6_TokenPlaces.p1.step (s, ((lnB s p).1 : Int), ((lnB s p).2 : Int), (k : Int), (p : Int), w) = some (.inl (s, ((lnB s p).1 : Int), ((lnB s p).2 : Int), ((k + 1 : Nat) : Int), (p : Int), w)) := by
        unfold armplanlaw6_TokenPlaces.p1.step armplanlaw6_TokenPlaces.p1.round
        simp only []
        have e1 : ((k : Int) + 1) = ((k + 1 : Nat) : Int) := by omega
        have e2 : ((p : Int) + ((q - p : Nat) : Int)) = (q : Int) := by omega
        simp (disch := omega) only [dif_dec, dif_ndec, bif_eq, bif_neq, bif_ne, bif_nne, w64, wu64, Int.toNat_natCast, Option.bind_some, cond_true, cond_false, Bool.not_true, Bool.not_false, Sum.elim_inl, Sum.elim_inr, h4, e1]
        unfold wdAt
        simp only []
        simp (disch := omega) only [dif_dec, dif_ndec, bif_eq, bif_neq, bif_ne, bif_nne, w64, wu64, Int.toNat_natCast, Option.bind_some, cond_true, cond_false, Bool.not_true, Bool.not_false, Sum.elim_inl, Sum.elim_inr, hsz, e2, eqS_refl]
      rw [hstep]
      exact pl_stop hs hw hi hlt h5
    · refine ⟨k, hk, ?_, ?_⟩
      · rw [drop_cons' hlt]
        exact ⟨p, q, by omega, h2, h3, h4, h5⟩
      · refine pl_stop hs hw hi hk ?_
        rw [drop_cons' hlt]
        exact ⟨p, q, by omega, h2, h3, h4, h5⟩
  · refine ⟨k, hk, ?_, pl_stop hs hw hi hk ?_⟩
    · rw [List.drop_eq_nil_of_le (by omega)]
      trivial
    · rw [List.drop_eq_nil_of_le (by omega)]
      trivial
theorem pl_outer {s : ByteArray} {w : List WT} (hs : s.size ≤ 16384) (hw : w.length ≤ 16384) : ∀ (d i k : Nat), i + d = s.size + 1 → k ≤ w.length → Wds s i (w.drop k) →
    loopF armplanlaw6_TokenPlaces.p0.step (s, ((lnB s i).1 : Int), ((lnB s i).2 : Int), (k : Int), (i : Int), w) = some (.inr ((w.length : Int), w))
  | 0, i, k, hid, hk, h => by
    have hkl : k = w.length := by
      by_cases hlt : k < w.length
      · rw [drop_cons' hlt] at h
        obtain ⟨p, q, h1, h2, h3, _⟩ := h
        omega
      · omega
    subst hkl
    refine loop_end ?_
    unfold armplanlaw6_TokenPlaces.p0.step armplanlaw6_TokenPlaces.p0.round
    simp only []
    simp (disch := omega) only [dif_dec, dif_ndec, bif_eq, bif_neq, bif_ne, bif_nne, w64, wu64, Int.toNat_natCast, Option.bind_some, cond_true, cond_false, Bool.not_true, Bool.not_false, Sum.elim_inl, Sum.elim_inr]
  | d + 1, i, k, hid, hk, h => by
    obtain ⟨k', hk', h', hin⟩ := pl_inner hs hw (by omega) hk h
    have ih := pl_outer hs hw d (i + 1) k' (by omega) hk' h'
    have hb := lnB_le s i
    rw [loopF_eq]
    have hstep : armplanlaw6_TokenPlaces.p0.step (s, ((lnB s i).1 : Int), ((lnB s i).2 : Int), (k : Int), (i : Int), w) = some (.inl (s, ((lnB s (i + 1)).1 : Int), ((lnB s (i + 1)).2 : Int), (k' : Int), ((i + 1 : Nat) : Int), w)) := by
      unfold armplanlaw6_TokenPlaces.p0.step armplanlaw6_TokenPlaces.p0.round
      simp only []
      have e1 : ((i : Int) + 1) = ((i + 1 : Nat) : Int) := by omega
      have e2 : (((lnB s i).1 : Int) + 1) = (((lnB s i).1 + 1 : Nat) : Int) := by omega
      rw [hin]
      simp only [lnB]
      by_cases hlt : i < s.size
      · by_cases h10 : btI s (i : Int) = 10
        · rw [if_pos h10]
          simp (disch := omega) only [dif_dec, dif_ndec, bif_eq, bif_neq, bif_ne, bif_nne, w64, wu64, Int.toNat_natCast, Option.bind_some, cond_true, cond_false, Bool.not_true, Bool.not_false, Sum.elim_inl, Sum.elim_inr, e1, e2]
        · rw [if_neg h10]
          simp (disch := omega) only [dif_dec, dif_ndec, bif_eq, bif_neq, bif_ne, bif_nne, w64, wu64, Int.toNat_natCast, Option.bind_some, cond_true, cond_false, Bool.not_true, Bool.not_false, Sum.elim_inl, Sum.elim_inr, e1]
      · have h10 : ¬ btI s (i : Int) = 10 := by
          unfold btI
          rw [Int.toNat_natCast, Array.getD_eq_getD_getElem?, Array.getElem?_eq_none (by show s.size ≤ i; omega)]
          decide
        rw [if_neg h10]
        simp (disch := omega) only [dif_dec, dif_ndec, bif_eq, bif_neq, bif_ne, bif_nne, w64, wu64, Int.toNat_natCast, Option.bind_some, cond_true, cond_false, Bool.not_true, Bool.not_false, Sum.elim_inl, Sum.elim_inr, e1]
    rw [hstep]
    exact ih
theorem places_law {s : ByteArray} {l : List Int} (hs : s.size ≤ 2 ^ 60) (hl : ∀ x ∈ l, 0 ≤ x) : armplanlaw6_TokenPlaces.F s l = some true := by
  rw [armplanlaw6_TokenPlaces.F_eq]
  unfold armplanlaw6_TokenPlaces.F0
  obtain ⟨t, ht, h⟩ := typical_val hl
  rw [h]
  simp (disch := omega) only [dif_dec, dif_ndec, bif_eq, bif_neq, bif_ne, bif_nne, w64, wu64, Int.toNat_natCast, Option.bind_some, cond_true, cond_false, Bool.not_true, Bool.not_false, Sum.elim_inl, Sum.elim_inr]
  rw [cat_ok (by omega), cond_true, tok_split]
  generalize t ++ s = u
  simp only [Option.bind_some]
  by_cases he : (splitF u).1 = 0
  · obtain ⟨hw, hu⟩ := split_wds he
    have hlen := (ref_split u).2
    have := pl_outer hu hlen (u.size + 1) 0 0 (by omega) (by omega) hw
    rw [show ((lnB u 0).1 : Int) = 1 from rfl, show ((lnB u 0).2 : Int) = 0 from rfl, show ((0 : Nat) : Int) = 0 from rfl] at this
    rw [this, awake_val]
    simp (disch := omega) only [dif_dec, dif_ndec, bif_eq, bif_neq, bif_ne, bif_nne, w64, wu64, Int.toNat_natCast, Option.bind_some, cond_true, cond_false, Bool.not_true, Bool.not_false, Sum.elim_inl, Sum.elim_inr, he, beq_self_eq_true]
  · rw [awake_val]
    simp (disch := omega) only [dif_dec, dif_ndec, bif_eq, bif_neq, bif_ne, bif_nne, w64, wu64, Int.toNat_natCast, Option.bind_some, cond_true, cond_false, Bool.not_true, Bool.not_false, Sum.elim_inl, Sum.elim_inr, he]
    unfold splitF at he ⊢
    split
    · rfl
    · split
      · rfl
      · rename_i h1 _ out h2
        rw [if_neg h1, h2] at he
        exact absurd rfl he
theorem places_good (x : ArgT [.lf .str, .lf (.slc (.int .u8))]) (g : GoodAll [.lf .str, .lf (.slc (.int .u8))] x) : armplanlaw6_TokenPlaces.F x.1 x.2.1 = some true := by
  obtain ⟨g1, ⟨_, g2⟩, _⟩ := g
  simp only [Good, reachBytes] at g1
  refine places_law (by omega) fun y hy => ?_
  have := (g2 y hy).1
  simp only [IntKind.min] at this
  exact this
end Go.Abs
