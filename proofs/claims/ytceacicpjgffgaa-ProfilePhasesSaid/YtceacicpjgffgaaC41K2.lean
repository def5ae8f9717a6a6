/- A part of the proof that the text with the row names: printed readings of functions, or plain lemmas about them. -/
import Derived.Test.YtceacicpjgffgaaC41K1
set_option linter.unusedVariables false
set_option linter.unusedSimpArgs false
namespace Go.Abs
open Go

/-! ### Greatest: the plain sweeps, and those that look at woken rows only -/
abbrev GR := List Int × (List Int × Bool)
def rsweep (rows : List RT) : Nat → Nat → List Int → List Int → Bool → GR ⊕ (List Int × (List Int × Bool))
  | 0, _, x, s, a => .inr (x, (s, a))
  | m + 1, k, x, s, a =>
    bif impB (rows.getD k R0) x then
      bif decide (s.length = 16384) then .inl ([], ([], false)) else
      bif decide (bnd (rows.getD k R0) x < 0) then .inl ([], (s ++ [(k : Int)], false)) else
      rsweep rows m (k + 1) (x.set (tgt (rows.getD k R0)) (bnd (rows.getD k R0) x)) (s ++ [(k : Int)]) true
    else rsweep rows m (k + 1) x s a
def rrun (rows : List RT) : Nat → List Int → List Int → GR ⊕ (List Int × List Int)
  | 0, x, s => .inr (x, s)
  | f + 1, x, s => match rsweep rows rows.length 0 x s false with
    | .inl e => .inl e
    | .inr (x', (s', a)) => bif a then rrun rows f x' s' else .inr (x', s')
def gfin (rows : List RT) : GR ⊕ (List Int × List Int) → GR
  | .inl e => e
  | .inr (x, s) => bif satsB rows x then (x, (s, true)) else ([], (s, false))
def greatV (top : List Int) (rows : List RT) : GR := bif validB top rows then gfin rows (rrun rows 20000 top []) else ([], ([], false))

def depB (r : RT) (i : Nat) : Bool := (decide (0 < r.2.1) && decide (r.1.toNat + 1 = i)) || (decide (0 < r.2.2.1) && decide (r.1.toNat = i))
def wakeL (rows : List RT) (look : List Bool) (i : Nat) : List Bool := (List.range look.length).map fun k => look.getD k false || (decide (k < rows.length) && depB (rows.getD k R0) i)
def psweep (rows : List RT) : Nat → Nat → List Int → List Int → List Bool → GR ⊕ (List Int × (List Int × List Bool))
  | 0, _, x, s, lk => .inr (x, (s, lk))
  | m + 1, k, x, s, lk =>
    bif lk.getD k false then
      bif impB (rows.getD k R0) x then
        bif decide (s.length = 16384) then .inl ([], ([], false)) else
        bif decide (bnd (rows.getD k R0) x < 0) then .inl ([], (s ++ [(k : Int)], false)) else
        psweep rows m (k + 1) (x.set (tgt (rows.getD k R0)) (bnd (rows.getD k R0) x)) (s ++ [(k : Int)]) (wakeL rows (lk.set k false) (tgt (rows.getD k R0)))
      else psweep rows m (k + 1) x s (lk.set k false)
    else psweep rows m (k + 1) x s lk

/-- Levels as they are while the greatest are sought. -/
def Lev (n : Nat) (x : List Int) : Prop := x.length = n ∧ ∀ i, i < n → 0 ≤ x.getD i 0 ∧ x.getD i 0 ≤ 4096
def RowsP (n : Nat) (rows : List RT) : Prop := ∀ k, k < rows.length → VRow n (rows.getD k R0)
/-- A row that is not looked at would not act. -/
def Calm (rows : List RT) (lk : List Bool) (x : List Int) : Prop := lk.length = rows.length ∧ ∀ k, k < rows.length → lk.getD k false = false → impB (rows.getD k R0) x = false
theorem getD_set {α : Type} {l : List α} {i j : Nat} {v d : α} (h : i < l.length) : (l.set i v).getD j d = if i = j then v else l.getD j d := by
  rw [List.getD_eq_getElem?_getD, List.getElem?_set, List.getD_eq_getElem?_getD]
  by_cases e : i = j
  · rw [if_pos e, if_pos e]
    subst e
    rw [if_pos h]
    rfl
  · rw [if_neg e, if_neg e]
theorem lev_set {n : Nat} {x : List Int} {i : Nat} {b : Int} (h : Lev n x) (hi : i < n) (h0 : 0 ≤ b) (h1 : b < x.getD i 0) : Lev n (x.set i b) := by
  refine ⟨by rw [List.length_set]; exact h.1, fun j hj => ?_⟩
  rw [getD_set (by rw [h.1]; exact hi)]
  have := h.2 i hi
  split
  · omega
  · exact h.2 j hj
theorem bnd_same {r : RT} {x : List Int} {i : Nat} {b : Int} (ha : actB r = true) (hi : i < x.length) (hd : depB r i = false) : bnd r (x.set i b) = bnd r x := by
  unfold depB at hd
  rw [Bool.or_eq_false_iff, Bool.and_eq_false_iff, Bool.and_eq_false_iff] at hd
  unfold bnd
  unfold actB at ha
  by_cases hA : 0 < r.2.1
  · rw [if_pos hA, if_pos hA, getD_set hi, if_neg]
    intro e
    rcases hd.1 with h | h
    · rw [decide_eq_true hA] at h; cases h
    · exact of_decide_eq_false h e.symm
  · have hB : 0 < r.2.2.1 := by
      rw [decide_eq_false hA] at ha
      cases hb : decide (0 < r.2.2.1) with
      | false => rw [hb] at ha; cases ha
      | true => exact of_decide_eq_true hb
    rw [if_neg hA, if_neg hA, getD_set hi, if_neg]
    intro e
    rcases hd.2 with h | h
    · rw [decide_eq_true hB] at h; cases h
    · exact of_decide_eq_false h e.symm
theorem wakeL_length {rows : List RT} {lk : List Bool} {i : Nat} : (wakeL rows lk i).length = lk.length := by
  unfold wakeL; simp
theorem wakeL_get {rows : List RT} {lk : List Bool} {i k : Nat} (h : k < lk.length) (h' : k < rows.length) : (wakeL rows lk i).getD k false = (lk.getD k false || depB (rows.getD k R0) i) := by
  unfold wakeL
  rw [List.getD_eq_getElem?_getD, List.getElem?_map, List.getElem?_range h, Option.map_some, decide_eq_true h', Bool.true_and]
  rfl
theorem imp_act {r : RT} {x : List Int} (h : impB r x = true) : actB r = true ∧ bnd r x < x.getD (tgt r) 0 := by
  unfold impB at h
  rw [Bool.and_eq_true, decide_eq_true_eq] at h
  exact h
theorem imp_not {r : RT} {x : List Int} (h : actB r = true) (h' : ¬ bnd r x < x.getD (tgt r) 0) : impB r x = false := by
  unfold impB
  rw [decide_eq_false h', Bool.and_false]
theorem calm_act {n : Nat} {rows : List RT} {lk : List Bool} {x : List Int} {k : Nat} (hr : RowsP n rows) (hx : Lev n x) (hc : Calm rows lk x) (hk : k < rows.length) (hi : impB (rows.getD k R0) x = true) :
    Calm rows (wakeL rows (lk.set k false) (tgt (rows.getD k R0))) (x.set (tgt (rows.getD k R0)) (bnd (rows.getD k R0) x)) := by
  obtain ⟨ha, hb⟩ := imp_act hi
  have ht : tgt (rows.getD k R0) < x.length := by rw [hx.1]; exact tgt_lt (hr k hk)
  have hl : (lk.set k false).length = rows.length := by rw [List.length_set]; exact hc.1
  refine ⟨by rw [wakeL_length]; exact hl, fun j hj hlk => ?_⟩
  rw [wakeL_get (by rw [hl]; exact hj) hj, Bool.or_eq_false_iff] at hlk
  obtain ⟨h1, h2⟩ := hlk
  cases haj : actB (rows.getD j R0) with
  | false => unfold impB; rw [haj]; rfl
  | true =>
    refine imp_not haj ?_
    rw [bnd_same haj ht h2, getD_set ht]
    by_cases e : k = j
    · subst e
      rw [if_pos rfl]
      exact Int.lt_irrefl _
    · have hlj : lk.getD j false = false := by
        rw [getD_set (by rw [hc.1]; exact hk), if_neg e] at h1
        exact h1
      have hn := hc.2 j hj hlj
      have hn' : ¬ bnd (rows.getD j R0) x < x.getD (tgt (rows.getD j R0)) 0 := by
        intro hh
        unfold impB at hn
        rw [haj, decide_eq_true hh] at hn
        cases hn
      split
      · rename_i e2
        rw [← e2] at hn'
        omega
      · exact hn'
theorem calm_off {rows : List RT} {lk : List Bool} {x : List Int} {k : Nat} (hc : Calm rows lk x) (hk : k < rows.length) (hi : impB (rows.getD k R0) x = false) : Calm rows (lk.set k false) x := by
  refine ⟨by rw [List.length_set]; exact hc.1, fun j hj h => ?_⟩
  rw [getD_set (by rw [hc.1]; exact hk)] at h
  by_cases e : k = j
  · subst e; exact hi
  · rw [if_neg e] at h; exact hc.2 j hj h

theorem again_true {rows : List RT} : ∀ (m k : Nat) (x s : List Int) {x' s' : List Int} {a' : Bool}, rsweep rows m k x s true = .inr (x', (s', a')) → a' = true := by
  intro m
  induction m with
  | zero => intro k x s x' s' a' h; simp only [rsweep, Sum.inr.injEq, Prod.mk.injEq] at h; exact h.2.2.symm
  | succ m ih =>
    intro k x s x' s' a' h
    rw [rsweep] at h
    cases e1 : impB (rows.getD k R0) x with
    | false => rw [e1, cond_false] at h; exact ih _ _ _ h
    | true =>
      rw [e1, cond_true] at h
      cases e2 : decide (s.length = 16384) with
      | true => rw [e2, cond_true] at h; cases h
      | false =>
        rw [e2, cond_false] at h
        cases e3 : decide (bnd (rows.getD k R0) x < 0) with
        | true => rw [e3, cond_true] at h; cases h
        | false => rw [e3, cond_false] at h; exact ih _ _ _ h
/-- Steps grow, and the levels stay in their range. -/
theorem rsweep_lev {n : Nat} {rows : List RT} (hr : RowsP n rows) : ∀ (m k : Nat) (x s : List Int) (a : Bool), k + m = rows.length → Lev n x → s.length ≤ 16384 → ∀ {x' s' : List Int} {a' : Bool}, rsweep rows m k x s a = .inr (x', (s', a')) →
    Lev n x' ∧ s'.length ≤ 16384 ∧ s.length ≤ s'.length ∧ (a' = true → a = false → s.length < s'.length) ∧ (a' = false → x' = x ∧ s' = s ∧ ∀ j, k ≤ j → j < rows.length → impB (rows.getD j R0) x = false)
  | 0, k, x, s, a, hm, hx, hs, x', s', a', h => by
    simp only [rsweep, Sum.inr.injEq, Prod.mk.injEq] at h
    obtain ⟨rfl, rfl, rfl⟩ := h
    exact ⟨hx, hs, Nat.le_refl _, (fun h1 h2 => absurd (h1.symm.trans h2) (by decide)), fun _ => ⟨rfl, rfl, fun j h1 h2 => by omega⟩⟩
  | m + 1, k, x, s, a, hm, hx, hs, x', s', a', h => by
    rw [rsweep] at h
    cases hi : impB (rows.getD k R0) x with
    | false =>
      rw [hi, cond_false] at h
      obtain ⟨h1, h2, h3, h4, h5⟩ := rsweep_lev hr m (k + 1) x s a (by omega) hx hs h
      refine ⟨h1, h2, h3, h4, fun ha => ?_⟩
      obtain ⟨g1, g2, g3⟩ := h5 ha
      refine ⟨g1, g2, fun j hj hj' => ?_⟩
      by_cases e : j = k
      · rw [e]; exact hi
      · exact g3 j (by omega) hj'
    | true =>
      obtain ⟨ha, hb⟩ := imp_act hi
      rw [hi, cond_true] at h
      by_cases c1 : s.length = 16384
      · rw [decide_eq_true c1, cond_true] at h; cases h
      · rw [decide_eq_false c1, cond_false] at h
        by_cases c2 : bnd (rows.getD k R0) x < 0
        · rw [decide_eq_true c2, cond_true] at h; cases h
        · rw [decide_eq_false c2, cond_false] at h
          have hl : (s ++ [(k : Int)]).length = s.length + 1 := by simp
          obtain ⟨h1, h2, h3, h4, h5⟩ := rsweep_lev hr m (k + 1) _ _ true (by omega) (lev_set hx (tgt_lt (hr k (by omega))) (by omega) hb) (by omega) h
          refine ⟨h1, h2, by omega, fun _ _ => by omega, fun hf => ?_⟩
          exfalso
          rw [again_true _ _ _ _ h] at hf
          cases hf

/-- Both sweeps do alike. -/
theorem psweep_eq {n : Nat} {rows : List RT} (hr : RowsP n rows) : ∀ (m k : Nat) (x s : List Int) (lk : List Bool) (a : Bool), k + m = rows.length → Lev n x → Calm rows lk x →
    (∀ e, rsweep rows m k x s a = .inl e → psweep rows m k x s lk = .inl e) ∧
    (∀ x' s' a', rsweep rows m k x s a = .inr (x', (s', a')) → ∃ lk', psweep rows m k x s lk = .inr (x', (s', lk')) ∧ Calm rows lk' x' ∧ (a' = false → ∀ j, j < rows.length → lk'.getD j false = true → j < k ∧ lk.getD j false = true))
  | 0, k, x, s, lk, a, hm, hx, hc => by
    refine ⟨fun e h => by simp [rsweep] at h, fun x' s' a' h => ?_⟩
    simp only [rsweep, Sum.inr.injEq, Prod.mk.injEq] at h
    obtain ⟨rfl, rfl, rfl⟩ := h
    exact ⟨lk, rfl, hc, fun _ j hj hl => ⟨by omega, hl⟩⟩
  | m + 1, k, x, s, lk, a, hm, hx, hc => by
    have hk : k < rows.length := by omega
    have hkl : k < lk.length := by rw [hc.1]; exact hk
    rw [rsweep, psweep]
    cases hi : impB (rows.getD k R0) x with
    | false =>
      rw [cond_false, cond_false]
      cases hl : lk.getD k false with
      | false =>
        rw [cond_false]
        obtain ⟨h1, h2⟩ := psweep_eq hr m (k + 1) x s lk a (by omega) hx hc
        refine ⟨h1, fun x' s' a' h => ?_⟩
        obtain ⟨lk', g1, g2, g3⟩ := h2 x' s' a' h
        refine ⟨lk', g1, g2, fun ha j hj hlj => ?_⟩
        obtain ⟨q1, q2⟩ := g3 ha j hj hlj
        refine ⟨?_, q2⟩
        by_cases e : j = k
        · rw [e, hl] at q2; cases q2
        · omega
      | true =>
        rw [cond_true]
        obtain ⟨h1, h2⟩ := psweep_eq hr m (k + 1) x s (lk.set k false) a (by omega) hx (calm_off hc hk hi)
        refine ⟨h1, fun x' s' a' h => ?_⟩
        obtain ⟨lk', g1, g2, g3⟩ := h2 x' s' a' h
        refine ⟨lk', g1, g2, fun ha j hj hlj => ?_⟩
        obtain ⟨q1, q2⟩ := g3 ha j hj hlj
        rw [getD_set hkl] at q2
        by_cases e : k = j
        · rw [if_pos e] at q2; cases q2
        · rw [if_neg e] at q2; exact ⟨by omega, q2⟩
    | true =>
      have hl : lk.getD k false = true := by
        cases h : lk.getD k false with
        | true => rfl
        | false => rw [hc.2 k hk h] at hi; cases hi
      obtain ⟨ha, hb⟩ := imp_act hi
      rw [hl, cond_true, cond_true, cond_true]
      by_cases c1 : s.length = 16384
      · rw [decide_eq_true c1, cond_true, cond_true]
        exact ⟨fun e h => by cases h; rfl, fun x' s' a' h => by cases h⟩
      · rw [decide_eq_false c1, cond_false, cond_false]
        by_cases c2 : bnd (rows.getD k R0) x < 0
        · rw [decide_eq_true c2, cond_true, cond_true]
          exact ⟨fun e h => by cases h; rfl, fun x' s' a' h => by cases h⟩
        · rw [decide_eq_false c2, cond_false, cond_false]
          obtain ⟨h1, h2⟩ := psweep_eq hr m (k + 1) _ (s ++ [(k : Int)]) _ true (by omega) (lev_set hx (tgt_lt (hr k hk)) (by omega) hb) (calm_act hr hx hc hk hi)
          refine ⟨h1, fun x' s' a' h => ?_⟩
          obtain ⟨lk', g1, g2, g3⟩ := h2 x' s' a' h
          refine ⟨lk', g1, g2, fun hf => ?_⟩
          exfalso
          rw [again_true _ _ _ _ h] at hf
          cases hf
end Go.Abs
