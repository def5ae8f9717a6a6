/- A part of the proof that the text with the row names: printed readings of functions, or plain lemmas about them. -/
import Derived.Test.YtceacicpjgffgaaC41K3
set_option linter.unusedVariables false
set_option linter.unusedSimpArgs false
namespace Go.Abs
open Go
theorem rstep_le {n : Nat} {rows : List RT} (hr : RowsP n rows) {x x' : List Int} {k : Int} (hx : Lev1 n x) (h : rstep rows x k = some x') : Under n x' x := by
  unfold rstep at h
  by_cases c : 0 ≤ k ∧ k < rows.length
  · rw [decide_eq_true c, cond_true] at h
    have hk : k.toNat < rows.length := by omega
    cases c2 : bndOk (rows.getD k.toNat R0) x with
    | false => rw [c2, cond_false] at h; cases h
    | true =>
      rw [c2, cond_true, Option.some.injEq] at h
      by_cases c3 : bnd (rows.getD k.toNat R0) x < x.getD (tgt (rows.getD k.toNat R0)) 0
      · rw [decide_eq_true c3, cond_true] at h
        rw [← h]
        intro i hi
        have ht := tgt_lt (hr _ hk)
        rw [getD_set (by rw [hx.1]; exact ht)]
        have := hx.2 _ ht
        split
        · rename_i e
          rw [← e]
          omega
        · exact Int.le_refl _
      · rw [decide_eq_false c3, cond_false] at h
        rw [← h]; exact fun i _ => Int.le_refl _
  · rw [decide_eq_false c, cond_false] at h; cases h
theorem rall_le {n : Nat} {rows : List RT} (hr : RowsP n rows) : ∀ (t : List Int) {x x' : List Int}, Lev1 n x → rall rows x t = some x' → Under n x' x
  | [], x, x', hx, h => by
    simp only [rall, Option.some.injEq] at h
    rw [← h]; exact fun i _ => Int.le_refl _
  | k :: t, x, x', hx, h => by
    rw [rall] at h
    cases h1 : rstep rows x k with
    | none => rw [h1] at h; cases h
    | some z =>
      rw [h1, Option.bind_some] at h
      exact fun i hi => Int.le_trans (rall_le hr t (rstep_lev1 hr hx h1) h i hi) (rstep_le hr hx h1 i hi)
theorem rrun_all {n : Nat} {rows : List RT} (hr : RowsP n rows) : ∀ (f : Nat) (x s : List Int), Lev n x → (s.length : Int) + x.sum < 16384 → x.sum < f →
    (∀ e, rrun rows f x s = .inl e → ∃ t x', e = ([], (s ++ t, false)) ∧ rall rows x t = some x' ∧ negB x' = true ∧ ((s ++ t).length : Int) ≤ 16384) ∧
    (∀ x' s', rrun rows f x s = .inr (x', s') → ∃ t, s' = s ++ t ∧ rall rows x t = some x' ∧ Lev n x' ∧ (s'.length : Int) ≤ 16384 ∧ ∀ j, j < rows.length → impB (rows.getD j R0) x' = false)
  | 0, x, s, hx, hs, hf => by have := lev_sum hx; omega
  | f + 1, x, s, hx, hs, hf => by
    have hsum := lev_sum hx
    have hsl : s.length ≤ 16384 := by omega
    obtain ⟨h1, h2⟩ := rsweep_all hr rows.length 0 x s false (by omega) hx hs
    have h3 := @rsweep_lev n rows hr rows.length 0 x s false (by omega) hx hsl
    rw [rrun]
    cases hw : rsweep rows rows.length 0 x s false with
    | inl e =>
      refine ⟨fun e' h => ?_, fun x' s' h => by cases h⟩
      injection h with h
      subst h
      exact h1 e hw
    | inr q =>
      obtain ⟨x', s', a⟩ := q
      obtain ⟨t, g1, g2, g3, g4⟩ := h2 _ _ _ hw
      obtain ⟨k1, k2, k3, k4, k5⟩ := h3 hw
      cases a with
      | false =>
        simp only [cond_false]
        refine ⟨(fun e' h => by cases h), fun x1 s1 h => ?_⟩
        simp only [Sum.inr.injEq, Prod.mk.injEq] at h
        obtain ⟨rfl, rfl⟩ := h
        obtain ⟨q1, q2, q3⟩ := k5 rfl
        refine ⟨t, g1, g2, g3, by omega, fun j hj => ?_⟩
        rw [q1]
        exact q3 j (Nat.zero_le _) hj
      | true =>
        simp only [cond_true]
        have hlt := k4 rfl rfl
        obtain ⟨p1, p2⟩ := rrun_all hr f x' s' k1 (by omega) (by omega)
        refine ⟨fun e' h => ?_, fun x1 s1 h => ?_⟩
        · obtain ⟨t', x1, r1, r2, r3, r4⟩ := p1 e' h
          rw [g1, List.append_assoc] at r1 r4
          exact ⟨t ++ t', x1, r1, by rw [rall_append, g2, Option.bind_some, r2], r3, r4⟩
        · obtain ⟨t', r1, r2, r3, r4⟩ := p2 x1 s1 h
          rw [g1, List.append_assoc] at r1
          exact ⟨t ++ t', r1, by rw [rall_append, g2, Option.bind_some, r2], r3, r4⟩
theorem valid_lev {top : List Int} {rows : List RT} (h : ValidP top rows) : Lev top.length top ∧ RowsP top.length rows := ⟨⟨rfl, h.t⟩, h.r⟩
/-- Greatest, where the levels are few and small. -/
theorem great_cases {top : List Int} {rows : List RT} (h : ValidP top rows) (hs : top.sum < 16384) :
    (∃ t z, greatV top rows = ([], (t, false)) ∧ t.length ≤ 16384 ∧ rall rows top t = some z ∧ (negB z = true ∨ lowB rows z = true)) ∨
    (∃ t x, greatV top rows = (x, (t, true)) ∧ t.length ≤ 16384 ∧ rall rows top t = some x ∧ FeasP top rows x) := by
  obtain ⟨hl, hr⟩ := valid_lev h
  obtain ⟨h1, h2⟩ := rrun_all hr 20000 top [] hl (by simpa using hs) (by omega)
  unfold greatV
  rw [validB_iff.2 h, cond_true]
  cases hw : rrun rows 20000 top [] with
  | inl e =>
    obtain ⟨t, z, g1, g2, g3, g4⟩ := h1 e hw
    rw [List.nil_append] at g1 g4
    subst g1
    exact .inl ⟨t, z, rfl, by omega, g2, .inl g3⟩
  | inr q =>
    obtain ⟨x, s⟩ := q
    obtain ⟨t, g1, g2, g3, g4, g5⟩ := h2 x s hw
    rw [List.nil_append] at g1
    subst g1
    unfold gfin
    simp only []
    cases hb : satsB rows x with
    | true =>
      refine .inr ⟨s, x, rfl, by omega, g2, h, g3.1, fun i hi => ?_, satsB_iff.1 hb⟩
      have hi' : i < top.length := by rw [← g3.1]; exact hi
      exact ⟨(g3.2 i hi').1, rall_le hr s (lev_lev1 hl) g2 i hi'⟩
    | false =>
      refine .inl ⟨s, x, rfl, by omega, g2, .inr ?_⟩
      cases hlow : lowB rows x with
      | true => rfl
      | false =>
        exfalso
        have : satsB rows x = true := by
          rw [satsB_iff]
          intro k hk
          cases ha : actB (rows.getD k R0) with
          | true =>
            refine sat_of_fix ha fun hh => ?_
            have := g5 k hk
            unfold impB at this
            rw [ha, decide_eq_true hh] at this
            cases this
          | false =>
            have hv := hr k hk
            have hnp := hv.np
            have hAB : (rows.getD k R0).2.1 ≤ 0 ∧ (rows.getD k R0).2.2.1 ≤ 0 := by
              unfold actB at ha
              by_cases c1 : 0 < (rows.getD k R0).2.1
              · by_cases c2 : 0 < (rows.getD k R0).2.2.1
                · exact absurd ⟨c1, c2⟩ hnp
                · rw [decide_eq_true c1, decide_eq_false c2] at ha; cases ha
              · by_cases c2 : 0 < (rows.getD k R0).2.2.1
                · rw [decide_eq_false c1, decide_eq_true c2] at ha; cases ha
                · omega
            cases hsat : satB (rows.getD k R0) x with
            | true => unfold satB at hsat; exact of_decide_eq_true hsat
            | false =>
              have : lowB rows x = true := by
                unfold lowB
                rw [anyB_iff]
                exact ⟨k, Nat.zero_le _, by omega, by rw [decide_eq_true hAB, hsat]; rfl⟩
              rw [hlow] at this; cases this
        rw [hb] at this; cases this
theorem feas_under {top : List Int} {rows : List RT} {y : List Int} (h : FeasP top rows y) : Feas top.length rows y ∧ Under top.length y top := ⟨⟨fun i hi => (h.u i (by rw [h.l]; exact hi)).1, h.s⟩, fun i hi => (h.u i (by rw [h.l]; exact hi)).2⟩
/-- SAFE: what is replayed lies above what is feasible. -/
theorem safe {top : List Int} {rows : List RT} (h : ValidP top rows) {y : List Int} (hy : FeasP top rows y) {t x : List Int} (hx : rall rows top t = some x) : Under top.length y x ∧ negB x = false ∧ lowB rows x = false := by
  obtain ⟨hl, hr⟩ := valid_lev h
  obtain ⟨h1, h2⟩ := feas_under hy
  have hu := rall_under hr h1 t (lev_lev1 hl) h2 hx
  have hxl := (rall_lev1 hr t (lev_lev1 hl) hx).1
  refine ⟨hu, ?_, ?_⟩
  · cases hb : negB x with
    | false => rfl
    | true =>
      unfold negB at hb
      obtain ⟨j, _, h3, h4⟩ := anyB_iff.1 hb
      have h5 := of_decide_eq_true h4
      have h6 := hu j (by omega)
      have h7 := h1.1 j (by omega)
      omega
  · cases hb : lowB rows x with
    | false => rfl
    | true =>
      unfold lowB at hb
      obtain ⟨j, _, h3, h4⟩ := anyB_iff.1 hb
      rw [Bool.and_eq_true, Bool.not_eq_true'] at h4
      obtain ⟨h5, h6⟩ := h4
      have h5 := of_decide_eq_true h5
      unfold satB at h6
      have h6 := of_decide_eq_false h6
      have ha : actB (rows.getD j R0) = false := by
        unfold actB
        rw [decide_eq_false (by omega), decide_eq_false (by omega)]
        rfl
      exact absurd (h1.2 j (by omega)) (broken_below (hr j (by omega)) ha hu h6)
/-- TOP. -/
theorem great_top {top : List Int} {rows : List RT} (h : ValidP top rows) (hs : top.sum < 16384) {y : List Int} (hy : FeasP top rows y) : ∃ t x, greatV top rows = (x, (t, true)) ∧ t.length ≤ 16384 ∧ rall rows top t = some x ∧ FeasP top rows x ∧ Under top.length y x := by
  rcases great_cases h hs with ⟨t, z, h1, h2, h3, h4⟩ | ⟨t, x, h1, h2, h3, h4⟩
  · obtain ⟨g1, g2, g3⟩ := safe h hy h3
    rw [g2, g3] at h4
    rcases h4 with h4 | h4 <;> cases h4
  · exact ⟨t, x, h1, h2, h3, h4, (safe h hy h3).1⟩
theorem replay_some {top : List Int} {rows : List RT} (h : ValidP top rows) {t x : List Int} (ht : t.length ≤ 16384) (hx : rall rows top t = some x) : replayV top rows t = (x, true) := by
  unfold replayV
  rw [validB_iff.2 h, decide_eq_true ht, hx]
  rfl
theorem replay_true {top : List Int} {rows : List RT} {t : List Int} (h : (replayV top rows t).2 = true) : ValidP top rows ∧ t.length ≤ 16384 ∧ rall rows top t = some (replayV top rows t).1 := by
  unfold replayV at h ⊢
  cases c : (validB top rows && decide (t.length ≤ 16384)) with
  | false => rw [c] at h; cases h
  | true =>
    rw [c, cond_true] at h
    rw [cond_true]
    rw [Bool.and_eq_true, validB_iff] at c
    cases hr : rall rows top t with
    | none => rw [hr] at h; cases h
    | some x => exact ⟨c.1, of_decide_eq_true c.2, rfl⟩
theorem under_eq {n : Nat} {x y : List Int} (hx : x.length = n) (hy : y.length = n) (h1 : Under n x y) (h2 : Under n y x) : x = y := by
  refine List.ext_getElem (by omega) fun i h h' => ?_
  have e1 := h1 i (by omega)
  have e2 := h2 i (by omega)
  rw [List.getD_eq_getElem?_getD, List.getD_eq_getElem?_getD, List.getElem?_eq_getElem h, List.getElem?_eq_getElem h'] at e1 e2
  exact Int.le_antisymm e1 e2
theorem proves_iff {top : List Int} {rows : List RT} {x t : List Int} (h : provesB top rows x t = true) : FeasP top rows x ∧ rall rows top t = some x := by
  unfold provesB at h
  rw [Bool.and_eq_true, Bool.and_eq_true, feasB_iff] at h
  obtain ⟨h1, h2, h3⟩ := h
  obtain ⟨g1, g2, g3⟩ := replay_true h1
  rw [← of_decide_eq_true h2] at g3
  exact ⟨h3, g3⟩
/-- CERTIFIED, where there are greatest levels. -/
theorem cert_true {top : List Int} {rows : List RT} (h : ValidP top rows) {t x : List Int} (ht : t.length ≤ 16384) (hx : rall rows top t = some x) (hf : FeasP top rows x) :
    provesB top rows x t = true ∧ (∀ u, refutesB top rows u = false) ∧ ∀ y u, provesB top rows y u = true → y = x := by
  refine ⟨?_, fun u => ?_, fun y u hp => ?_⟩
  · unfold provesB
    rw [replay_some h ht hx, feasB_iff.2 hf]
    simp
  · cases hb : refutesB top rows u with
    | false => rfl
    | true =>
      unfold refutesB at hb
      rw [Bool.and_eq_true] at hb
      obtain ⟨h1, h2⟩ := hb
      obtain ⟨_, _, g3⟩ := replay_true h1
      obtain ⟨_, q1, q2⟩ := safe h hf g3
      rw [q1, q2] at h2
      cases h2
  · obtain ⟨h1, h2⟩ := proves_iff hp
    exact under_eq (n := top.length) h1.l hf.l (safe h h1 hx).1 (safe h hf h2).1
/-- CERTIFIED, where there are none. -/
theorem cert_false {top : List Int} {rows : List RT} (h : ValidP top rows) {t z : List Int} (ht : t.length ≤ 16384) (hz : rall rows top t = some z) (hn : negB z = true ∨ lowB rows z = true) :
    refutesB top rows t = true ∧ ∀ y u, provesB top rows y u = false := by
  constructor
  · unfold refutesB
    rw [replay_some h ht hz]
    rcases hn with hn | hn <;> simp [hn]
  · intro y u
    cases hb : provesB top rows y u with
    | false => rfl
    | true =>
      obtain ⟨h1, h2⟩ := proves_iff hb
      obtain ⟨_, q1, q2⟩ := safe h h1 hz
      rw [q1, q2] at hn
      rcases hn with hn | hn <;> cases hn
/-- LATTICE. -/
theorem lattice {top : List Int} {rows : List RT} {a b c : List Int} (ha : FeasP top rows a) (hb : FeasP top rows b) (hl : c.length = a.length) (hc : ∀ i, i < a.length → c.getD i 0 = max (a.getD i 0) (b.getD i 0)) : FeasP top rows c := by
  have hla := ha.l
  have hlb := hb.l
  refine ⟨ha.v, by omega, fun i hi => ?_, fun k hk => ?_⟩
  · have h1 := ha.u i (by omega)
    have h2 := hb.u i (by omega)
    rw [hc i (by omega)]
    omega
  · have hv := ha.v.r k hk
    have h1 := hv.lo
    have h2 := hv.hi
    have h3 := hv.np
    have s1 := ha.s k hk
    have s2 := hb.s k hk
    have n2 := ha.v.n2
    rw [hc _ (by omega), hc _ (by omega)]
    generalize rows.getD k R0 = r at *
    generalize a.getD r.1.toNat 0 = a0 at *
    generalize a.getD (r.1.toNat + 1) 0 = a1 at *
    generalize b.getD r.1.toNat 0 = b0 at *
    generalize b.getD (r.1.toNat + 1) 0 = b1 at *
    have key : ∀ {A B C p q u v : Int}, B ≤ 0 → A * p + B * q ≤ C → p = u → q ≤ v → A * u + B * v ≤ C := by
      intro A B C p q u v hB h e hq
      subst e
      have := mulnp hq hB
      omega
    have key' : ∀ {A B C p q u v : Int}, A ≤ 0 → A * p + B * q ≤ C → p ≤ u → q = v → A * u + B * v ≤ C := by
      intro A B C p q u v hA h hp e
      subst e
      have := mulnp hp hA
      omega
    by_cases hB : r.2.2.1 ≤ 0
    · by_cases c0 : a0 ≤ b0
      · exact key hB s2 (by omega) (by omega)
      · exact key hB s1 (by omega) (by omega)
    · have hA : r.2.1 ≤ 0 := by omega
      by_cases c1 : a1 ≤ b1
      · exact key' hA s2 (by omega) (by omega)
      · exact key' hA s1 (by omega) (by omega)
end Go.Abs
