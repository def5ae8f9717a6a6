/- A state that has a shape, and the world: the relation of the state that is made anew out of the shape's data. -/
import Derived.Test.YtcljanaleeapnaaDoorAbs18
set_option linter.unusedVariables false
set_option linter.unusedSimpArgs false
namespace Go.Abs
open Go

def osSz : List OS → Nat → Nat
  | [], _ => 0
  | .row _ t :: _, 0 => nleaf t
  | _ :: _, 0 => 0
  | _ :: r, i + 1 => osSz r i

/-- The interpretation of the shape's own numbers. -/
def newI (I : Interp) (S : Shape) (m : Met) : Interp :=
  ⟨fun o => match findId o m.ids with | some (some n) => I.v n | _ => .slice none 0 0,
   fun o => match findId o m.ids with | some (some n) => I.sz n | _ => osSz S.objs o⟩

def Tied (m : Met) (n : Nat) : Prop := ∃ o, (o, some n) ∈ m.ids

structure TakeCtx (C : Ctx) (I : Interp) (objs : Nat → Option Obj) (w : World) (S : Shape) (m : Met) (objs' : Nat → Option Obj) (bad' : Bad) : Prop where
  R : WRel C I objs w
  sub : ∀ g o, bad' g o → badOf C I objs g o
  seen : ∀ n e t xs, n ∈ m.seen → objs n = some (.row e t xs) → ∀ g o, bad' g o → ¬ cellsOf I n (.row e t xs) g o
  dom : ∀ o b, findId o m.ids = some b → Dom objs' o

section
variable {C : Ctx} {I : Interp} {objs : Nat → Option Obj} {w : World} {S : Shape} {mf : Met} {objs' : Nat → Option Obj} {bad' : Bad}

theorem TakeCtx.at_ (T : TakeCtx C I objs w S mf objs' bad') : ∀ a v, At w (badOf C I objs) a v → At w bad' a v := fun a v h => ⟨h.1, fun hb => h.2 (T.sub _ _ hb)⟩

theorem elOfD_of {bad : Bad} {t : Ty} {l : DLeaf} {x : El t} {v : Value} (h : elOfD t l = some x) (hl : DRep w bad l v) : CellsOk w bad t x [v] := by
  unfold elOfD at h
  split at h
  · rename_i y hy
    obtain rfl := Option.some.inj h
    obtain ⟨c1, c2, e, hc, hr⟩ := ofLeaves_of (w := w) (bad := bad) t [l] _ [] [v] hy ⟨hl, trivial⟩
    match c2, hr with
    | [], _ => rw [List.append_nil] at e; rw [e]; exact hc
  · cases h

theorem scLeaf_rep {bad : Bad} : ∀ {t : Ty} {x : El t} {v : Value}, (∀ a b, t ≠ .pair a b) → CellsOk w bad t x [v] → DRep w bad (scLeaf t x) v
  | .int k, x, v, _, h => by
    simp only [CellsOk, List.cons.injEq, and_true] at h
    exact ⟨h, by rfl⟩
  | .bool, x, v, _, h => by
    simp only [CellsOk, List.cons.injEq, and_true] at h
    exact ⟨h, by rfl⟩
  | .str, x, v, _, h => by
    simp only [CellsOk, List.cons.injEq, and_true] at h
    exact ⟨h, by rfl⟩
  | .slc t, x, v, _, h => h
  | .pair a b, x, v, h, _ => absurd rfl (h a b)

theorem single_of {t : Ty} (h : single t = true) : ∀ a b, t ≠ .pair a b := by
  intro a b e
  subst e
  cases h

theorem rowData_of {n : Nat} {t : Ty} {xs : List (El t)} (h : rowData objs n t = some xs) : (∃ e, objs n = some (.row e t xs)) ∨ objs n = some (.frow t xs) := by
  unfold rowData at h
  split at h
  · rename_i e t' xs' hn
    obtain ⟨et, hx⟩ := castL_eq h
    subst et
    subst hx
    exact .inl ⟨e, hn⟩
  · rename_i t' xs' hn
    obtain ⟨et, hx⟩ := castL_eq h
    subst et
    subst hx
    exact .inr hn
  · cases h

theorem isNil_val {x : Value} (h : isNilSlice x = true) : x = .slice none 0 0 := isNil_of h

theorem sameNil_of {a b : Value} (h : sameNil a b = true) : a = b := by
  unfold sameNil at h
  split at h
  · rename_i i j hi hj
    have e := Nat.eq_of_beq_eq_true h
    subst e
    unfold nilKind at hi hj
    split at hi <;> split at hj <;> first | rfl | (simp at hi hj; done) | (simp at hi hj; omega)
  · cases h

theorem ownAsDat {e : TypeId} {t : Ty} {xs : List (El t)} {v : Value} {bad : Bad} {cells : List Value} (hr : Rows (CellsOk w bad t) xs cells) (ho : w.ownsRow 0 e (nleaf t) v xs.length cells) (hnb : ∀ g o, bad g o → ∀ n c, v ≠ .slice (some ⟨g, 0, none⟩) n c) :
    CellsOk w bad (.slc t) xs [v] := by
  rcases ho.2 with ⟨hv, h0⟩ | ⟨g, cap, cur, hv, hb, hh, hc1, hc2, hsz, htk⟩
  · have hx : xs = [] := List.eq_nil_of_length_eq_zero h0
    subst hx
    exact ⟨none, 0, [], by rw [hv]; rfl, by simp, rfl, .inl rfl⟩
  · refine ⟨some ⟨g, 0, none⟩, cap, cells, by rw [hv], hc1, hr, .inr ⟨_, rfl, fun i v' hi => ⟨?_, ?_⟩⟩⟩
    · rw [addr_add]
      refine cell_of hh ?_
      rw [← htk, List.getElem?_take] at hi
      split at hi
      · simpa using hi
      · cases hi
    · rw [addr_add]
      exact fun hbad => hnb g _ hbad _ _ hv

theorem caps_rep (T : TakeCtx C I objs w S mf objs' bad') : ∀ {caps ns : List Nat} {as : List Value}, F2 (fun o n => findId o mf.ids = some (some n)) caps ns →
    F2 (fun b x => Dom objs b ∧ ∃ g o, I.v b = .pointer (some ⟨g, o, none⟩) ∧ x = .pointer (some ⟨g, o, none⟩)) ns as → F2 (fun b x => Dom objs' b ∧ ∃ g o, (newI I S mf).v b = .pointer (some ⟨g, o, none⟩) ∧ x = .pointer (some ⟨g, o, none⟩)) caps as
  | [], [], [], _, _ => trivial
  | [], [], _ :: _, _, h => h.elim
  | [], _ :: _, _, h, _ => h.elim
  | _ :: _, [], _, h, _ => h.elim
  | _ :: _, _ :: _, [], _, h => h.elim
  | c :: caps, n :: ns, a :: as, hall, hf => by
    obtain ⟨hd, g, o', hv, hx⟩ := hf.1
    exact ⟨⟨T.dom _ _ hall.1, g, o', by simp [newI, hall.1, hv], hx⟩, caps_rep T hall.2 hf.2⟩

theorem LS.take_rep (T : TakeCtx C I objs w S mf objs' bad') {l : LS} {a : Leaf} {m m' : Met} {y : l.T} {v : Value} (h : l.take objs a m = some (y, m')) (hs : Sub m' mf) (hr : LRep I (Dom objs) w (badOf C I objs) a v) : LRep (newI I S mf) (Dom objs') w bad' (l.make id y) v := by
  have hgrow := LS.take_grow h
  unfold LS.take at h
  split at h
  · rename_i t x
    cases hb : single t with
    | false => rw [hb] at h; cases h
    | true =>
      rw [hb] at h
      simp only [cond_true] at h
      split at h
      · rename_i z hz
        simp at h
        rw [← h.1]
        exact scLeaf_rep (single_of hb) (elOfD_of hz (DRep.mono T.at_ _ _ hr))
      · cases h
  · rename_i t x
    split at h
    · rename_i z hz
      simp at h
      rw [← h.1]
      exact elOfD_of hz (DRep.mono T.at_ _ _ hr)
    · cases h
  · rename_i t n
    split at h
    · rename_i z hz
      simp at h
      obtain ⟨rfl, rfl⟩ := h
      show CellsOk w bad' (.slc t) z [v]
      rw [hr.2.1]
      rcases rowData_of hz with ⟨e, hn⟩ | hn
      · obtain ⟨_, cells, hrow, ho⟩ := T.R.ok n _ hn
        refine ownAsDat (hrow.imp fun x c hc => CellsOk.mono T.at_ t x c hc) ho fun g o hb k c hv => ?_
        exact T.seen n e t z (hs.2 n (by simp)) hn g o hb ⟨k, c, hv⟩
      · exact CellsOk.mono T.at_ (.slc t) z _ (T.R.ok n _ hn).2
    · cases h
  · rename_i o n
    split at h
    · rename_i m1 h1
      simp at h
      subst h
      have hf := hs.1 _ _ (tie_of h1).2.1
      exact ⟨T.dom _ _ hf, by rw [hr.2.1]; simp [newI, hf], hr.2.2⟩
    · cases h
  · rename_i o x
    cases hb : isNilSlice x with
    | false => rw [hb] at h; cases h
    | true =>
      rw [hb] at h
      simp only [cond_true] at h
      split at h
      · rename_i m1 h1
        simp at h
        subst h
        have hf := hs.1 _ _ (tieNil_of h1).2.1
        refine ⟨T.dom _ _ hf, ?_, LRep.one _ _ hr⟩
        rw [hr.1, isNil_val hb]
        simp [newI, hf]
      · cases h
  · rename_i o off n off'
    cases hb : Nat.beq off off' with
    | false => rw [hb] at h; cases h
    | true =>
      rw [hb] at h
      simp only [cond_true] at h
      split at h
      · rename_i m1 h1
        simp at h
        subst h
        have hf := hs.1 _ _ (tie_of h1).2.1
        have he := Nat.eq_of_beq_eq_true hb
        subst he
        obtain ⟨hd, g, o', hv, hx⟩ := hr
        exact ⟨T.dom _ _ hf, g, o', by simp [newI, hf, hv], hx⟩
      · cases h
  · rename_i u x
    cases hb : sameNil u x with
    | false => rw [hb] at h; cases h
    | true =>
      have he := sameNil_of hb
      subst he
      exact hr
  · rename_i f caps g ns
    cases hb : Nat.beq f g with
    | false => rw [hb] at h; cases h
    | true =>
      rw [hb] at h
      simp only [cond_true] at h
      split at h
      · rename_i m1 h1
        simp at h
        subst h
        have he := Nat.eq_of_beq_eq_true hb
        subst he
        obtain ⟨as, hv, hf⟩ := hr
        refine ⟨as, hv, ?_⟩
        rw [List.map_id]
        exact caps_rep T ((tieAll_of h1).2.1.imp fun o n hh => hs.1 _ _ hh) hf
      · cases h
  · cases h

theorem takeLs_rep (T : TakeCtx C I objs w S mf objs' bad') : ∀ {ls : List LS} {as : List Leaf} {m m' : Met} {y : TLs ls} {vs : List Value}, takeLs objs ls as m = some (y, m') → Sub m' mf → F2 (LRep I (Dom objs) w (badOf C I objs)) as vs → F2 (LRep (newI I S mf) (Dom objs') w bad') (makeLs id ls y) vs
  | [], [], m, m', y, [], h, _, _ => trivial
  | [], [], m, m', y, _ :: _, h, _, hf => hf.elim
  | [], _ :: _, _, _, _, _, h, _, _ => by simp [takeLs] at h
  | _ :: _, [], _, _, _, _, h, _, _ => by simp [takeLs] at h
  | l :: ls, a :: as, m, m', y, [], h, _, hf => hf.elim
  | l :: ls, a :: as, m, m', y, v :: vs, h, hs, hf => by
    simp only [takeLs] at h
    split at h
    · rename_i x m1 h1
      split at h
      · rename_i z m2 h2
        simp at h
        obtain ⟨rfl, rfl⟩ := h
        exact ⟨LS.take_rep T h1 ((takeLs_grow h2).1.trans hs) hf.1, takeLs_rep T h2 hs hf.2⟩
      · cases h
    · cases h

theorem AS.take_rep (T : TakeCtx C I objs w S mf objs' bad') {s : AS} {a : AV} {m m' : Met} {y : s.T} {v : Value} (h : s.take objs a m = some (y, m')) (hs : Sub m' mf) (hr : AVRep I (Dom objs) w (badOf C I objs) a v) : AVRep (newI I S mf) (Dom objs') w bad' (s.make id y) v := by
  unfold AS.take at h
  split at h
  · exact LS.take_rep T h hs hr
  · obtain ⟨cs, e, hf⟩ := hr
    exact ⟨cs, e, takeLs_rep T h hs hf⟩
  · cases h

theorem takeSlots_rep (T : TakeCtx C I objs w S mf objs' bad') {sl : Nat → Val} {u : Nat → Value} (hu : ∀ i, VRep I (Dom objs) w (badOf C I objs) (sl i) (u i)) : ∀ {l : List (Nat × AS)} {m m' : Met} {y : TSlots l}, takeSlots objs sl l m = some (y, m') → Sub m' mf →
    ∀ i, VRep (newI I S mf) (Dom objs') w bad' (lookupSlot (makeSlots id l y) i) (u i)
  | [], m, m', y, h, _, i => trivial
  | s :: ss, m, m', y, h, hs, i => by
    simp only [takeSlots] at h
    split at h
    · rename_i a ha
      split at h
      · rename_i x m1 h1
        split at h
        · rename_i z m2 h2
          simp at h
          obtain ⟨rfl, rfl⟩ := h
          simp only [makeSlots, lookupSlot]
          cases hb : Nat.beq i s.1 with
          | true =>
            have he := Nat.eq_of_beq_eq_true hb
            subst he
            have := hu s.1
            rw [ha] at this
            exact AS.take_rep T h1 ((takeSlots_grow h2).1.trans hs) this
          | false => exact takeSlots_rep T hu h2 hs i
        · cases h
      · cases h
    · cases h

/-- Where an object of the shape comes from. -/
def From (I : Interp) (objs : Nat → Option Obj) (S : Shape) (mf : Met) (o : Nat) (ob : Obj) : Prop :=
  (∃ n ob0, findId o mf.ids = some (some n) ∧ objs n = some ob0 ∧ ∀ g p, cellsOf (newI I S mf) o ob g p → cellsOf I n ob0 g p) ∨ ∀ g p, ¬ cellsOf (newI I S mf) o ob g p

theorem OS.take_rep (T : TakeCtx C I objs w S mf objs' bad') {s : OS} {o : Nat} {m m' : Met} {y : s.T} {ob : Obj} (h : s.take objs (findId o m.ids) m = some (y, m')) (hs : Sub m' mf) (hsz : ∀ e t, s = .row e t → osSz S.objs o = nleaf t) (hob : s.make id y = some ob) :
    ObjOk (newI I S mf) (Dom objs') w bad' o ob ∧ From I objs S mf o ob := by
  have hgrow := (OS.take_grow h).1
  generalize hi : findId o m.ids = i at h
  unfold OS.take at h
  split at h
  · rename_i e t
    have hf := hs.1 _ _ (hgrow.1 _ _ hi)
    simp at h
    rw [h.1] at hob
    obtain rfl := Option.some.inj hob
    have hv : (newI I S mf).v o = .slice none 0 0 := by simp [newI, hf]
    refine ⟨⟨by simp [newI, hf, hsz e t rfl], [], rfl, ?_⟩, .inr ?_⟩
    · rw [hv]
      exact World.ownsRow_nil w 0 e (nleaf t)
    · rintro g p ⟨n, c, hh⟩
      rw [hv] at hh
      cases hh
  · rename_i e t n
    split at h
    · rename_i e' t' xs hn
      cases hb : Nat.beq e e' with
      | false => rw [hb] at h; cases h
      | true =>
        rw [hb] at h
        simp only [cond_true] at h
        split at h
        · rename_i z hz
          obtain ⟨et, hz'⟩ := castL_eq hz
          subst et
          subst hz'
          have ee := Nat.eq_of_beq_eq_true hb
          subst ee
          simp at h
          rw [← h.1] at hob
          obtain rfl := Option.some.inj hob
          have hf := hs.1 _ _ (hgrow.1 _ _ hi)
          have hv : (newI I S mf).v o = I.v n := by simp [newI, hf]
          have hz2 : (newI I S mf).sz o = I.sz n := by simp [newI, hf]
          obtain ⟨hsn, cells, hrow, ho⟩ := T.R.ok n _ hn
          refine ⟨⟨by rw [hz2]; exact hsn, cells, hrow.imp fun x c hc => CellsOk.mono T.at_ t' x c hc, by rw [hv]; exact ho⟩, .inl ⟨n, _, hf, hn, ?_⟩⟩
          rintro g p ⟨k, c, hh⟩
          exact ⟨k, c, by rw [← hv]; exact hh⟩
        · cases h
    · cases h
  · rename_i ls n
    split at h
    · rename_i as hn
      have hf := hs.1 _ _ (hgrow.1 _ _ hi)
      have hv : (newI I S mf).v o = I.v n := by simp [newI, hf]
      obtain rfl := Option.some.inj hob
      obtain ⟨hpos, g, o', c, e, vs, hv', hh, hfv, hc⟩ := T.R.ok n _ hn
      have hrep := takeLs_rep T h hs hfv
      have hl : (makeLs id ls y).length = as.length := by rw [hrep.length, hfv.length]
      refine ⟨⟨by rw [hl]; exact hpos, g, o', c, e, vs, by rw [hv]; exact hv', hh, hrep, hc⟩, .inl ⟨n, _, hf, hn, ?_⟩⟩
      rintro g p ⟨o2, h1, h2, h3⟩
      exact ⟨o2, by rw [← hv]; exact h1, h2, by rw [← hl]; exact h3⟩
    · cases h
  · cases hob
  · cases h

theorem takeObjs_rep (T : TakeCtx C I objs w S mf objs' bad') : ∀ {l : List OS} {o : Nat} {m m' : Met} {y : TObjs l}, takeObjs objs l o m = some (y, m') → Sub m' mf → (∀ k e t, l[k]? = some (.row e t) → osSz S.objs (o + k) = nleaf t) →
    ∀ k ob, getO (makeObjs id l y) k = some ob → ObjOk (newI I S mf) (Dom objs') w bad' (o + k) ob ∧ From I objs S mf (o + k) ob
  | [], o, m, m', y, _, _, _, k, ob, h => by simp [makeObjs, getO] at h
  | s :: ss, o, m, m', y, h, hs, hsz, k, ob, hk => by
    simp only [takeObjs] at h
    split at h
    · rename_i x m1 h1
      split at h
      · rename_i z m2 h2
        simp at h
        obtain ⟨rfl, rfl⟩ := h
        match k with
        | 0 =>
          simp only [makeObjs, getO] at hk
          exact OS.take_rep T h1 ((takeObjs_grow h2).1.trans hs) (fun e t he => hsz 0 e t (by simp [he])) hk
        | k + 1 =>
          simp only [makeObjs, getO] at hk
          have := takeObjs_rep T h2 hs (fun k e t he => by
            have := hsz (k + 1) e t (by simpa using he)
            rwa [show o + (k + 1) = o + 1 + k by omega] at this) k ob hk
          rwa [show o + (k + 1) = o + 1 + k by omega]
      · cases h
    · cases h

theorem osSz_get : ∀ (l : List OS) (k : Nat) (e : TypeId) (t : Ty), l[k]? = some (.row e t) → osSz l k = nleaf t
  | [], k, e, t, h => by simp at h
  | .row e' t' :: r, 0, e, t, h => by simp at h; rw [← h.2]; rfl
  | .box ls :: r, 0, e, t, h => by simp at h
  | .dead :: r, 0, e, t, h => by simp at h
  | .row e' t' :: r, k + 1, e, t, h => osSz_get r k e t (by simpa using h)
  | .box ls :: r, k + 1, e, t, h => osSz_get r k e t (by simpa using h)
  | .dead :: r, k + 1, e, t, h => osSz_get r k e t (by simpa using h)

theorem live_some : ∀ (l : List OS) (y : TObjs l) (k : Nat), liveO l k = true → (getO (makeObjs id l y) k).isSome = true
  | [], _, _, h => by cases h
  | .row _ _ :: _, _, 0, _ => rfl
  | .box _ :: _, _, 0, _ => rfl
  | .dead :: _, _, 0, h => by cases h
  | .row _ _ :: r, y, k + 1, h => live_some r y.2 k (by simpa [liveO] using h)
  | .box _ :: r, y, k + 1, h => live_some r y.2 k (by simpa [liveO] using h)
  | .dead :: r, y, k + 1, h => live_some r y.2 k (by simpa [liveO] using h)
end

theorem metBase_inj : ∀ n0, Inj (metBase n0) := by
  have hm : ∀ n0 o x, (o, x) ∈ metBase n0 → x = some o ∧ o < n0 := by
    intro n0
    induction n0 with
    | zero => intro o x h; simp [metBase] at h
    | succ n ih =>
      intro o x h
      simp only [metBase, List.mem_cons, Prod.mk.injEq] at h
      rcases h with ⟨rfl, rfl⟩ | h
      · exact ⟨rfl, by omega⟩
      · obtain ⟨a, b⟩ := ih o x h
        exact ⟨a, by omega⟩
  intro n0 o o' n h h'
  have h1 := (hm n0 o _ h).1
  have h2 := (hm n0 o' _ h').1
  rw [Option.some.injEq] at h1 h2
  omega
theorem metBase_find : ∀ {n0 k : Nat}, k < n0 → findId k (metBase n0) = some (some k)
  | 0, k, h => by omega
  | n + 1, k, h => by
    simp only [metBase, findId]
    cases hb : Nat.beq n k with
    | true =>
      have := Nat.eq_of_beq_eq_true hb
      subst this
      rfl
    | false =>
      have hne : n ≠ k := fun e => by subst e; rw [Nat.beq_refl] at hb; cases hb
      exact metBase_find (by omega)

theorem takeS_apart {S : Shape} {n0 : Nat} {get : Nat → Option Obj} {sl : Nat → Val} {x : Tup S} {m : Met} (h : takeS S n0 get sl = some (x, m)) : ∀ n o, n ∈ m.seen → (o, some n) ∈ m.ids → False := by
  unfold takeS at h
  split at h
  · rename_i xs m1 h1
    split at h
    · rename_i ys m2 h2
      cases hb : m2.apart && m2.live S.objs with
      | false => rw [hb] at h; cases h
      | true =>
        rw [hb] at h
        simp only [cond_true, Option.some.injEq, Prod.mk.injEq] at h
        obtain ⟨rfl, rfl⟩ := h
        simp only [Bool.and_eq_true] at hb
        intro n o hn ho
        have := List.all_eq_true.1 hb.1 n hn
        have h2 : (m2.ids.any fun p => isId n p.2) = true := List.any_eq_true.2 ⟨_, ho, isId_iff.2 rfl⟩
        rw [h2] at this
        cases this
    · cases h
  · cases h

/-- What 'takeS' gives, whoever takes: 'ban' is what the taker must keep its hands off. -/
theorem takeS_rep {C : Ctx} {I : Interp} {objs : Nat → Option Obj} {w : World} (R : WRel C I objs w) {S : Shape} {n0 : Nat} {sl : Nat → Val} {x : Tup S} {m : Met} (h : takeS S n0 objs sl = some (x, m)) {u : Nat → Value} (hu : ∀ i, VRep I (Dom objs) w (badOf C I objs) (sl i) (u i))
    (ban : Bad) (hban : ∀ g o, ban g o → C.ban g o ∨ ∃ id ob, objs id = some ob ∧ cellsOf I id ob g o ∧ ¬ Tied m id ∧ (id ∈ m.seen → ∀ e t xs, ob ≠ .row e t xs)) (D : Ctx) (hD : D.ban = ban) :
    let I' := newI I S m
    let objs' := (ofC S x).objs
    (∀ id ob, objs' id = some ob → ObjOk I' (Dom objs') w (badOf D I' objs') id ob) ∧
    (∀ id ob g o, objs' id = some ob → cellsOf I' id ob g o → ∃ n ob0, (id, some n) ∈ m.ids ∧ objs n = some ob0 ∧ cellsOf I n ob0 g o) ∧
    (∀ id id' ob ob' g o, objs' id = some ob → objs' id' = some ob' → cellsOf I' id ob g o → cellsOf I' id' ob' g o → id = id') ∧
    (∀ g o, MutOf I' objs' g o → ¬ ban g o) ∧
    (∀ i, VRep I' (Dom objs') w (badOf D I' objs') ((ofC S x).slots i) (u i)) ∧
    (∀ a v, At w (badOf C I objs) a v → At w (badOf D I' objs') a v) ∧
    (∀ o b, findId o m.ids = some b → Dom objs' o) ∧ Inj m.ids ∧ (∀ k, k < n0 → findId k m.ids = some (some k)) := by
  unfold takeS at h
  split at h
  · rename_i xs m1 h1
    split at h
    · rename_i ys m2 h2
      cases hb : m2.apart && m2.live S.objs with
      | false => rw [hb] at h; cases h
      | true =>
        rw [hb] at h
        simp only [cond_true, Option.some.injEq, Prod.mk.injEq] at h
        obtain ⟨rfl, rfl⟩ := h
        simp only [Bool.and_eq_true] at hb
        have hg1 := takeSlots_grow h1
        have hg2 := takeObjs_grow h2
        have hinj : Inj m2.ids := hg2.2 (hg1.2 (metBase_inj n0))
        have hdom : ∀ o b, findId o m2.ids = some b → Dom (ofC S (xs, ys)).objs o := by
          intro o b ho
          have := List.all_eq_true.1 hb.2 _ (findId_mem ho)
          exact live_some S.objs ys o this
        have hap : ∀ n o, n ∈ m2.seen → (o, some n) ∈ m2.ids → False := by
          intro n o hn ho
          have := List.all_eq_true.1 hb.1 n hn
          have h2 : (m2.ids.any fun p => isId n p.2) = true := List.any_eq_true.2 ⟨_, ho, isId_iff.2 rfl⟩
          rw [h2] at this
          cases this
        -- first: the cells of the new objects are old objects' cells; this needs only 'From', which we get with any 'bad''
        have key : ∀ bad' : Bad, (∀ g o, bad' g o → badOf C I objs g o) → (∀ n e t zs, n ∈ m2.seen → objs n = some (.row e t zs) → ∀ g o, bad' g o → ¬ cellsOf I n (.row e t zs) g o) →
            TakeCtx C I objs w S m2 (ofC S (xs, ys)).objs bad' := fun bad' hs hse => ⟨R, hs, hse, hdom⟩
        have hosz : ∀ k e t, S.objs[k]? = some (.row e t) → osSz S.objs (0 + k) = nleaf t := fun k e t hk => by rw [Nat.zero_add]; exact osSz_get S.objs k e t hk
        have from0 : ∀ k ob, (ofC S (xs, ys)).objs k = some ob → From I objs S m2 k ob := by
          intro k ob hk
          have T0 := key (fun _ _ => False) (fun _ _ h => h.elim) (fun _ _ _ _ _ _ _ _ h => h.elim)
          have := (takeObjs_rep T0 h2 (Sub.refl _) hosz k ob hk).2
          rwa [Nat.zero_add] at this
        have hcells : ∀ id ob g o, (ofC S (xs, ys)).objs id = some ob → cellsOf (newI I S m2) id ob g o → ∃ n ob0, (id, some n) ∈ m2.ids ∧ objs n = some ob0 ∧ cellsOf I n ob0 g o := by
          intro id ob g o hid hc
          rcases from0 id ob hid with ⟨n, ob0, hf, hn, hh⟩ | hh
          · exact ⟨n, ob0, findId_mem hf, hn, hh g o hc⟩
          · exact absurd hc (hh g o)
        have hsub : ∀ g o, badOf D (newI I S m2) (ofC S (xs, ys)).objs g o → badOf C I objs g o := by
          intro g o hb
          rcases hb with hb | ⟨id, ob, hid, hc⟩
          · rw [hD] at hb
            rcases hban g o hb with h3 | ⟨id, ob, h3, h4, _⟩
            · exact .inl h3
            · exact .inr ⟨id, ob, h3, h4⟩
          · obtain ⟨n, ob0, _, hn, hh⟩ := hcells id ob g o hid hc
            exact .inr ⟨n, ob0, hn, hh⟩
        have hseen : ∀ n e t zs, n ∈ m2.seen → objs n = some (.row e t zs) → ∀ g o, badOf D (newI I S m2) (ofC S (xs, ys)).objs g o → ¬ cellsOf I n (.row e t zs) g o := by
          intro n e t zs hn hrow g o hb hc
          rcases hb with hb | ⟨id, ob, hid, hc2⟩
          · rw [hD] at hb
            rcases hban g o hb with h3 | ⟨id, ob, h3, h4, _, h5⟩
            · exact R.noban g o ⟨n, _, hrow, hc⟩ h3
            · have := R.disj id n ob _ g o h3 hrow h4 hc
              subst this
              rw [h3] at hrow
              exact h5 hn _ _ _ (Option.some.inj hrow)
          · obtain ⟨n', ob0, hmem, hn', hh⟩ := hcells id ob g o hid hc2
            have := R.disj n' n ob0 _ g o hn' hrow hh hc
            subst this
            exact hap n' id hn hmem
        have T := key _ hsub hseen
        refine ⟨fun id ob hid => ?_, hcells, ?_, ?_, fun i => takeSlots_rep T hu h1 hg2.1 i, T.at_, hdom, hinj, fun k hk => hg2.1.1 _ _ (hg1.1.1 _ _ (metBase_find hk))⟩
        · have := (takeObjs_rep T h2 (Sub.refl _) hosz id ob hid).1
          rwa [Nat.zero_add] at this
        · intro id id' ob ob' g o h3 h4 h5 h6
          obtain ⟨n, ob0, hm1, hn1, hh1⟩ := hcells id ob g o h3 h5
          obtain ⟨n', ob0', hm2, hn2, hh2⟩ := hcells id' ob' g o h4 h6
          have := R.disj n n' ob0 ob0' g o hn1 hn2 hh1 hh2
          subst this
          exact hinj _ _ _ hm1 hm2
        · intro g o ⟨id, ob, h3, h4⟩ hb
          obtain ⟨n, ob0, hm1, hn1, hh1⟩ := hcells id ob g o h3 h4
          rcases hban g o hb with h5 | ⟨id2, ob2, h5, h6, h7, _⟩
          · exact R.noban g o ⟨n, ob0, hn1, hh1⟩ h5
          · have := R.disj id2 n ob2 ob0 g o h5 hn1 h6 hh1
            subst this
            exact h7 ⟨id, hm1⟩
    · cases h
  · cases h

end Go.Abs
