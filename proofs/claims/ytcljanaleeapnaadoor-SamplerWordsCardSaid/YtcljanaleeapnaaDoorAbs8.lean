/- Rows that stay as they are; stores. -/
import Derived.Test.YtcljanaleeapnaaDoorAbs7
set_option linter.unusedVariables false
set_option linter.unusedSimpArgs false
namespace Go.Abs
open Go

section
variable {C : Ctx} {I : Interp} {objs : Nat → Option Obj} {w : World}

theorem dom_upd {objs : Nat → Option Obj} {i : Nat} {o : Obj} {id : Nat} (h : Dom objs id) : Dom (upd objs i (some o)) id := by
  by_cases e : id = i
  · subst e; simp [Dom, upd_same]
  · simp only [Dom, upd_other _ _ _ _ e]; exact h

/-- A row from now on stays as it is. -/
theorem freeze1 (R : WRel C I objs w) {r : Nat} {e : TypeId} {t : Ty} {xs : List (El t)} (h : objs r = some (.row e t xs)) :
    WRel C I (upd objs r (some (.frow t xs))) w ∧ Keep I (Dom objs) w (badOf C I objs) I (Dom (upd objs r (some (.frow t xs)))) w (badOf C I (upd objs r (some (.frow t xs)))) := by
  refine R.upd (fun _ _ => False) (fun id => id = r) (Fr.refl _ _) (fun _ _ h => h.elim) (fun _ _ => ⟨rfl, rfl⟩) (fun id hd => dom_upd hd) (fun id h => upd_other _ _ _ _ h) ?_ (fun id id' _ _ _ _ h h' _ _ _ _ => h.trans h'.symm) ?_
  · intro id ob' hc ho g o hcell
    subst hc
    rw [upd_same] at ho
    obtain rfl := Option.some.inj ho
    exact hcell.elim
  · intro K id ob' hc ho
    subst hc
    rw [upd_same] at ho
    obtain rfl := Option.some.inj ho
    obtain ⟨hs, cells, hr, hown⟩ := R.ok id _ h
    refine ⟨hs, ?_⟩
    have hr' := hr.imp (fun x c => CellsOk.mono K.ha t x c)
    rcases hown.2 with ⟨hv, h0⟩ | ⟨g, cap, cur, hv, hb, hh, hc1, hc2, hsz, htk⟩
    · have hx : xs = [] := List.eq_nil_of_length_eq_zero h0
      subst hx
      exact ⟨none, 0, [], by rw [hv]; rfl, by simp, rfl, .inl rfl⟩
    · refine ⟨some ⟨g, 0, none⟩, cap, cells, by rw [hv], hc1, hr', .inr ⟨_, rfl, fun i v hi => ⟨?_, ?_⟩⟩⟩
      · rw [addr_add]
        refine cell_of hh ?_
        rw [← htk, List.getElem?_take] at hi
        split at hi
        · simpa using hi
        · cases hi
      · rw [addr_add]
        intro hbad
        have hcell : cellsOf I id (.row e t xs) g (0 + i) := ⟨_, _, hv⟩
        rcases hbad with hb1 | ⟨id2, ob2, h2, h3⟩
        · exact R.noban g (0 + i) ⟨id, _, h, hcell⟩ hb1
        · by_cases e2 : id2 = id
          · subst e2
            rw [upd_same] at h2
            obtain rfl := Option.some.inj h2
            exact h3
          · rw [upd_other _ _ _ _ e2] at h2
            exact e2 (R.disj id2 id ob2 _ g _ h2 h h3 hcell)

/-- Some rows are frozen, all else is as it was. -/
def Froz (objs objs1 : Nat → Option Obj) : Prop := ∀ r, objs1 r = objs r ∨ ∃ e t xs, objs r = some (.row e t xs) ∧ objs1 r = some (.frow t xs)

theorem freezes_of : ∀ (rs : List Nat) (objs objs1 : Nat → Option Obj), Froz objs objs1 → WRel C I objs1 w →
    Froz objs (putWr objs1 (freezes objs rs)) ∧ WRel C I (putWr objs1 (freezes objs rs)) w ∧ Keep I (Dom objs1) w (badOf C I objs1) I (Dom (putWr objs1 (freezes objs rs))) w (badOf C I (putWr objs1 (freezes objs rs))) ∧
      (∀ r e t xs, r ∈ rs → objs r = some (.row e t xs) → putWr objs1 (freezes objs rs) r = some (.frow t xs)) ∧ (∀ r, r ∉ rs → putWr objs1 (freezes objs rs) r = objs1 r)
  | [], objs, objs1, hF, R => ⟨hF, R, Keep.refl _ _ _ _, fun r e t xs h => by simp at h, fun r _ => rfl⟩
  | r :: rs, objs, objs1, hF, R => by
    unfold freezes
    split
    · rename_i e t xs hr
      rw [show putWr objs1 ((r, Obj.frow t xs) :: freezes objs rs) = putWr (upd objs1 r (some (.frow t xs))) (freezes objs rs) from rfl]
      have hF' : Froz objs (upd objs1 r (some (.frow t xs))) := by
        intro q
        by_cases hq : q = r
        · subst hq
          exact .inr ⟨e, t, xs, hr, upd_same _ _ _⟩
        · rw [upd_other _ _ _ _ hq]
          exact hF q
      have step : WRel C I (upd objs1 r (some (.frow t xs))) w ∧ Keep I (Dom objs1) w (badOf C I objs1) I (Dom (upd objs1 r (some (.frow t xs)))) w (badOf C I (upd objs1 r (some (.frow t xs)))) := by
        rcases hF r with h1 | ⟨e', t', xs', h1, h2⟩
        · exact freeze1 R (h1.trans hr)
        · rw [hr] at h1
          injection h1 with h1
          injection h1 with ha hb hc
          subst ha; subst hb
          have hc' := eq_of_heq hc
          subst hc'
          have : upd objs1 r (some (Obj.frow t xs)) = objs1 := by
            funext q
            by_cases hq : q = r
            · subst hq; rw [upd_same, h2]
            · rw [upd_other _ _ _ _ hq]
          rw [this]
          exact ⟨R, Keep.refl _ _ _ _⟩
      obtain ⟨g1, g2, g3, g4, g5⟩ := freezes_of rs objs _ hF' step.1
      refine ⟨g1, g2, step.2.trans g3, fun q e2 t2 xs2 hq h2 => ?_, fun q hq => ?_⟩
      · by_cases hqr : q ∈ rs
        · exact g4 q e2 t2 xs2 hqr h2
        · have : q = r := by simpa [hqr] using hq
          subst this
          rw [hr] at h2
          rw [g5 q hqr, upd_same]
          injection h2 with h2
          injection h2 with ha hb hc
          subst hb
          have hc' := eq_of_heq hc
          subst hc'
          rfl
      · rw [g5 q (fun hh => hq (by simp [hh])), upd_other _ _ _ _ (fun hh => hq (by simp [hh]))]
    · rename_i hn
      obtain ⟨g1, g2, g3, g4, g5⟩ := freezes_of rs objs objs1 hF R
      refine ⟨g1, g2, g3, fun q e2 t2 xs2 hq h2 => ?_, fun q hq => g5 q (fun hh => hq (by simp [hh]))⟩
      by_cases hqr : q ∈ rs
      · exact g4 q e2 t2 xs2 hqr h2
      · have : q = r := by simpa [hqr] using hq
        subst this
        exact absurd h2 (hn e2 t2 xs2)

theorem freezes_self (R : WRel C I objs w) (rs : List Nat) :
    Froz objs (putWr objs (freezes objs rs)) ∧ WRel C I (putWr objs (freezes objs rs)) w ∧ Keep I (Dom objs) w (badOf C I objs) I (Dom (putWr objs (freezes objs rs))) w (badOf C I (putWr objs (freezes objs rs))) ∧
      (∀ r e t xs, r ∈ rs → objs r = some (.row e t xs) → putWr objs (freezes objs rs) r = some (.frow t xs)) ∧ (∀ r, r ∉ rs → putWr objs (freezes objs rs) r = objs r) :=
  freezes_of rs objs objs (fun _ => .inl rfl) R

theorem putWr_append (objs : Nat → Option Obj) : ∀ (l m : List (Nat × Obj)), putWr objs (List.append l m) = putWr (putWr objs l) m
  | [], m => rfl
  | (i, o) :: l, m => putWr_append (upd objs i (some o)) l m

/-- What a leaf is, told as data, once the rows that it leads to are frozen. -/
theorem dOf_of {objs1 : Nat → Option Obj} (R1 : WRel C I objs1 w) (K : Keep I (Dom objs) w (badOf C I objs) I (Dom objs1) w (badOf C I objs1)) (hF : Froz objs objs1) {l : Leaf} {d : DLeaf} {rs : List Nat} {v : Value} (h : dOf objs l = some (d, rs))
    (hz : ∀ r e t xs, r ∈ rs → objs r = some (.row e t xs) → objs1 r = some (.frow t xs)) (hl : LRep I (Dom objs) w (badOf C I objs) l v) : DRep w (badOf C I objs1) d v := by
  unfold dOf at h
  split at h
  · simp at h
    obtain ⟨rfl, rfl⟩ := h
    exact DRep.mono K.ha _ _ hl
  · rename_i r
    split at h
    · rename_i e t xs hr
      simp at h
      obtain ⟨rfl, rfl⟩ := h
      have := R1.ok r _ (hz r e t xs (by simp) hr)
      rw [hl.2.1]
      exact this.2
    · rename_i t xs hr
      simp at h
      obtain ⟨rfl, rfl⟩ := h
      have h1 : objs1 r = some (.frow t xs) := by
        rcases hF r with h1 | ⟨e, t', xs', h1, h2⟩
        · exact h1.trans hr
        · rw [hr] at h1; cases h1
      have := R1.ok r _ h1
      rw [hl.2.1]
      exact this.2
    · cases h
  · cases h

theorem dOfs_of {objs1 : Nat → Option Obj} (R1 : WRel C I objs1 w) (K : Keep I (Dom objs) w (badOf C I objs) I (Dom objs1) w (badOf C I objs1)) (hF : Froz objs objs1) : ∀ {ls : List Leaf} {ds : List DLeaf} {rs : List Nat} {vs : List Value}, dOfs objs ls = some (ds, rs) →
    (∀ r e t xs, r ∈ rs → objs r = some (.row e t xs) → objs1 r = some (.frow t xs)) → F2 (LRep I (Dom objs) w (badOf C I objs)) ls vs → F2 (DRep w (badOf C I objs1)) ds vs
  | [], ds, rs, [], h, _, _ => by simp [dOfs] at h; obtain ⟨rfl, rfl⟩ := h; trivial
  | [], ds, rs, _ :: _, h, _, hf => hf.elim
  | l :: ls, ds, rs, [], h, _, hf => hf.elim
  | l :: ls, ds, rs, v :: vs, h, hz, hf => by
    simp only [dOfs] at h
    split at h
    · rename_i x a y b h1 h2
      simp only [Option.some.injEq, Prod.mk.injEq] at h
      obtain ⟨rfl, rfl⟩ := h
      exact ⟨dOf_of R1 K hF h1 (fun r e t xs hr => hz r e t xs (List.mem_append.2 (.inl hr))) hf.1, dOfs_of R1 K hF h2 (fun r e t xs hr => hz r e t xs (List.mem_append.2 (.inr hr))) hf.2⟩
    · cases h

theorem putN_eq {α : Type} (l : List α) (off : Nat) (vs : List α) : putN l off vs = l.take off ++ (vs ++ l.drop (off + vs.length)) := rfl

theorem putN_get {α : Type} {l vs : List α} {off : Nat} (h : off + vs.length ≤ l.length) (i : Nat) : (putN l off vs)[i]? = if off ≤ i ∧ i < off + vs.length then vs[i - off]? else l[i]? := by
  rw [putN_eq]
  have ht : (l.take off).length = off := by rw [List.length_take]; omega
  by_cases h1 : i < off
  · rw [List.getElem?_append_left (by omega), List.getElem?_take, if_pos h1, if_neg (by omega)]
  · rw [List.getElem?_append_right (by omega), ht]
    by_cases h2 : i < off + vs.length
    · rw [List.getElem?_append_left (by omega), if_pos (by omega)]
    · rw [List.getElem?_append_right (by omega), if_neg (by omega), List.getElem?_drop]
      congr 1
      omega
theorem putN_length {α : Type} {l vs : List α} {off : Nat} (h : off + vs.length ≤ l.length) : (putN l off vs).length = l.length := by
  rw [putN_eq]
  simp only [List.length_append, List.length_take, List.length_drop]
  omega
theorem F2.put {α β : Type} {R : α → β → Prop} {l l' : List α} {m m' : List β} (off : Nat) (h : F2 R l m) (h' : F2 R l' m') : F2 R (putN l off l') (putN m off m') := by
  rw [putN_eq, putN_eq, h'.length]
  exact (h.take off).append (h'.append (h.drop _))

/-- A store into a box of one's own. -/
theorem storeBox (R : WRel C I objs w) {t : TypeId} {b off : Nat} {ls : List Leaf} {av : AV} {x y : Value} (hb : objs b = some (.box ls)) (hx : VRep I (Dom objs) w (badOf C I objs) (lf1 (.bp b off)) x) (hy : AVRep I (Dom objs) w (badOf C I objs) av y)
    (hn : (avLeaves av).length = C.E.P.cellsOf t) (h0 : C.E.P.cellsOf t ≠ 0) (hl : off + (avLeaves av).length ≤ ls.length) :
    ∃ w', (Instr.storeAt t x y).run C.E.P w = .ok () w' ∧ StepOk C I objs w .undef [(b, .box (putN ls off (avLeaves av)))] undef w' := by
  obtain ⟨hd, g, o, hv, rfl⟩ := hx
  obtain ⟨hpos, g', o', c, e, vs, hv', hh, hf, hc⟩ := R.ok b _ hb
  rw [hv] at hv'
  injection hv' with hv'; injection hv' with hv'; injection hv' with hg ho
  subst hg; subst ho
  have hfy := avLeaves_of hy
  have hly := hfy.length
  have hlv := hf.length
  have hcsz : o + ls.length ≤ c.size := by
    have hlast : vs[ls.length - 1]? = some (vs.getD (ls.length - 1) undef) := getD_of undef (by omega)
    have := (Array.getElem?_eq_some_iff.1 (hc _ _ hlast)).1
    omega
  have hysz : y.cells.toList.length = y.cells.size := by simp
  obtain ⟨c', w', hr, h2, h3, h4, h5, h6, h7, h8, h9⟩ := storeVar_run C.E.P w t g (o + off) y c e (by omega) h0 hh (by omega) (F2.ones hfy)
  refine ⟨w', by simpa [Instr.storeAt, Instr.sureAddr] using hr, I, ?_⟩
  rw [putWr_one]
  have hU := R.upd (I' := I) (objs' := upd objs b (some (.box (putN ls off (avLeaves av))))) (w' := w') (fun g1 o1 => g1 = g ∧ o + off ≤ o1 ∧ o1 < o + off + (avLeaves av).length) (fun id => id = b)
    ⟨h5, h6, h7, by omega, fun k hk => by
      by_cases hkg : k = g
      · subst hkg
        refine .inr (.inr ⟨c, c', e, _, hh, h2, h3, fun j hj => ?_⟩)
        rw [h4 j, if_neg (fun hh => hj ⟨rfl, hh.1, by omega⟩)]
      · exact .inr (.inl (h9 k hkg))⟩
    (fun g1 o1 ⟨e1, e2, e3⟩ => ⟨b, _, rfl, hb, o, by rw [e1]; exact hv, by omega, by omega⟩)
    (fun _ _ => ⟨rfl, rfl⟩) (fun id hd => dom_upd hd) (fun id h => upd_other _ _ _ _ h)
    (fun id ob' h ho g1 o1 hcell => by
      subst h
      rw [upd_same] at ho
      obtain rfl := Option.some.inj ho
      obtain ⟨o2, hv2, hlo, hhi⟩ := hcell
      rw [putN_length hl] at hhi
      have hmut : cellsOf I id (.box ls) g1 o1 := ⟨o2, hv2, hlo, hhi⟩
      exact ⟨.inl ⟨id, _, rfl, hb, hmut⟩, by rw [h8]; exact R.lt g1 o1 ⟨id, _, hb, hmut⟩⟩)
    (fun id id' _ _ _ _ h h' _ _ _ _ => h.trans h'.symm)
    (fun K id ob' h ho => by
      subst h
      rw [upd_same] at ho
      obtain rfl := Option.some.inj ho
      refine ⟨by rw [putN_length hl]; exact hpos, g, o, c', e, putN vs off y.cells.toList, hv, h2, (hf.imp K.lrep).put off (hfy.imp K.lrep), fun i v hi => ?_⟩
      rw [putN_get (by omega)] at hi
      rw [h4 (o + i)]
      by_cases hin : off ≤ i ∧ i < off + y.cells.toList.length
      · rw [if_pos hin] at hi
        rw [if_pos (by omega), show o + i - (o + off) = i - off by omega]
        exact hi
      · rw [if_neg hin] at hi
        rw [if_neg (by omega)]
        exact hc i v hi)
  exact ⟨hU.1, hU.2, trivial⟩

end
end Go.Abs
