/- A reading of loaded code as plain functions, and its proof: part C. -/
import Derived.Test.YtanopckddijfcaaGreatDoorAbsB
set_option linter.unusedVariables false
set_option linter.unusedSimpArgs false
/- Other numbers for the objects: what is handed back. -/
namespace Go.Abs
open Go

section
variable {I J : Interp} {dom dom' : Nat → Prop} {w : World} {bad bad' : Bad} {ρ : Nat → Nat}

/-- The objects' numbers turned by ρ; data are kept only where there are any. -/
structure Ren (I : Interp) (dom : Nat → Prop) (J : Interp) (dom' : Nat → Prop) (ρ : Nat → Nat) : Prop where
  hd : ∀ o, dom o → dom' (ρ o)
  hv : ∀ o, dom o → J.v (ρ o) = I.v o
  hs : ∀ o, dom o → J.sz (ρ o) = I.sz o

theorem scLeaf_any {t : Ty} {x : El t} {v : Value} (hs : ∀ t', t ≠ .slc t') (h : DRep w bad (scLeaf t x) v) : DRep w bad' (scLeaf t x) v := by
  cases t with
  | slc t' => exact absurd rfl (hs t')
  | int k => exact h
  | bool => exact h
  | str => exact h
  | pair a b => exact h

theorem LS.ren (N : Ren I dom J dom' ρ) (l : LS) (y : l.T) (v : Value) (hA : hasDat [l] = true → ∀ a v, At w bad a v → At w bad' a v) (h : LRep I dom w bad (l.make id y) v) : LRep J dom' w bad' (l.make ρ y) v := by
  cases l with
  | sc t =>
    cases t with
    | slc t' => exact DRep.mono (hA rfl) (.dat t' y) v h
    | int k => exact h
    | bool => exact h
    | str => exact h
    | pair a b => exact h
  | dat t => exact CellsOk.mono (hA rfl) (.slc t) y [v] h
  | own o => exact ⟨N.hd o h.1, by rw [N.hv o h.1]; exact h.2.1, h.2.2⟩
  | bp o off =>
    obtain ⟨hd, g, o', hv, hx⟩ := h
    exact ⟨N.hd o hd, g, o', by rw [N.hv o hd]; exact hv, hx⟩
  | cst x => exact h
  | fn f caps =>
    obtain ⟨as, hv, hf⟩ := h
    refine ⟨as, hv, ?_⟩
    rw [List.map_id] at hf
    exact hf.map ρ (fun b x ⟨hd, g, o, h1, h2⟩ => ⟨N.hd b hd, g, o, by rw [N.hv b hd]; exact h1, h2⟩)
  | mv f o =>
    obtain ⟨x, e, hd, g, o', hv, hx⟩ := h
    exact ⟨x, e, N.hd o hd, g, o', by rw [N.hv o hd]; exact hv, hx⟩

theorem hasDat_cons (l : LS) (ls : List LS) : hasDat (l :: ls) = (hasDat [l] || hasDat ls) := by
  cases l with
  | sc t => cases t <;> simp [hasDat]
  | _ => simp [hasDat]

theorem makeLs_ren (N : Ren I dom J dom' ρ) : ∀ (ls : List LS) (y : TLs ls) (vs : List Value), (hasDat ls = true → ∀ a v, At w bad a v → At w bad' a v) → F2 (LRep I dom w bad) (makeLs id ls y) vs → F2 (LRep J dom' w bad') (makeLs ρ ls y) vs
  | [], _, [], _, _ => trivial
  | [], _, _ :: _, _, h => h.elim
  | l :: ls, y, [], _, h => h.elim
  | l :: ls, y, v :: vs, hA, h => by
    rw [hasDat_cons] at hA
    exact ⟨LS.ren N l y.1 v (fun h => hA (by rw [h]; rfl)) h.1, makeLs_ren N ls y.2 vs (fun h => hA (by rw [h]; simp)) h.2⟩

theorem makeLs_length (ρ ρ' : Nat → Nat) : ∀ (ls : List LS) (y : TLs ls), (makeLs ρ ls y).length = (makeLs ρ' ls y).length
  | [], _ => rfl
  | l :: ls, y => by simp [makeLs, makeLs_length ρ ρ' ls y.2]

theorem AS.ren (N : Ren I dom J dom' ρ) (s : AS) (y : s.T) (v : Value) (hA : slotsDat [(0, s)] = true → ∀ a v, At w bad a v → At w bad' a v) (h : AVRep I dom w bad (s.make id y) v) : AVRep J dom' w bad' (s.make ρ y) v := by
  cases s with
  | lf l => exact LS.ren N l y v (fun h => hA (by simp [slotsDat, h])) h
  | ag ls =>
    obtain ⟨cs, e, hf⟩ := h
    exact ⟨cs, e, makeLs_ren N ls y cs (fun h => hA (by simp [slotsDat, h])) hf⟩

theorem slotsDat_cons (s : Nat × AS) (ss : List (Nat × AS)) : slotsDat (s :: ss) = (slotsDat [(0, s.2)] || slotsDat ss) := by
  obtain ⟨i, s⟩ := s
  cases s <;> simp [slotsDat]

theorem makeSlots_ren (N : Ren I dom J dom' ρ) : ∀ (l : List (Nat × AS)) (y : TSlots l) (vs : List Value), (slotsDat l = true → ∀ a v, At w bad a v → At w bad' a v) → F2 (AVRep I dom w bad) ((makeSlots id l y).map (·.2)) vs → F2 (AVRep J dom' w bad') ((makeSlots ρ l y).map (·.2)) vs
  | [], _, [], _, _ => trivial
  | [], _, _ :: _, _, h => h.elim
  | s :: ss, y, [], _, h => h.elim
  | s :: ss, y, v :: vs, hA, h => by
    rw [slotsDat_cons] at hA
    exact ⟨AS.ren N s.2 y.1 v (fun h => hA (by rw [h]; rfl)) h.1, makeSlots_ren N ss y.2 vs (fun h => hA (by rw [h]; simp)) h.2⟩

theorem results_ren (N : Ren I dom J dom' ρ) (l : List (Nat × AS)) (y : TSlots l) (v : Value) (hA : slotsDat l = true → ∀ a v, At w bad a v → At w bad' a v) (h : VRep I dom w bad (results (makeSlots id l y)) v) : VRep J dom' w bad' (results (makeSlots ρ l y)) v := by
  match l, y, h with
  | [], y, h =>
    obtain ⟨vs, e, hf⟩ := h
    match vs, hf with
    | [], _ => exact ⟨[], e, trivial⟩
  | [s], y, h =>
    have h1 : F2 (AVRep I dom w bad) ((makeSlots id [s] y).map (·.2)) [v] := ⟨h, trivial⟩
    exact (makeSlots_ren N [s] y [v] hA h1).1
  | s :: s' :: ss, y, h =>
    obtain ⟨vs, e, hf⟩ := h
    exact ⟨vs, e, makeSlots_ren N (s :: s' :: ss) y vs hA hf⟩

theorem objsDat_cons (o : OS) (os : List OS) : objsDat (o :: os) = (objsDat [o] || objsDat os) := by
  cases o <;> simp [objsDat, Bool.or_assoc]

theorem CellsOk_scalar : ∀ {t : Ty} {x : El t} {cs : List Value}, isDatT t = false → CellsOk w bad t x cs → CellsOk w bad' t x cs
  | .int _, _, _, _, h => h
  | .bool, _, _, _, h => h
  | .str, _, _, _, h => h
  | .slc _, _, _, h, _ => by cases h
  | .pair _ _, _, _, h, _ => by cases h

theorem OS.ren (N : Ren I dom J dom' ρ) (s : OS) (y : s.T) (o : Nat) (hd : dom o) (ob ob' : Obj) (hA : objsDat [s] = true → ∀ a v, At w bad a v → At w bad' a v) (h1 : s.make id y = some ob) (h2 : s.make ρ y = some ob') (h : ObjOk I dom w bad o ob) :
    ObjOk J dom' w bad' (ρ o) ob' ∧ ∀ g p, cellsOf J (ρ o) ob' g p ↔ cellsOf I o ob g p := by
  cases s with
  | row e t =>
    obtain rfl := Option.some.inj h1
    obtain rfl := Option.some.inj h2
    obtain ⟨hs, cells, hr, ho⟩ := h
    refine ⟨⟨by rw [N.hs o hd]; exact hs, cells, ?_, by rw [N.hv o hd]; exact ho⟩, fun g p => by simp only [cellsOf, N.hv o hd]⟩
    by_cases hsc : isDatT t = false
    · exact hr.imp fun x c hc => CellsOk_scalar hsc hc
    · have : objsDat [.row e t] = true := by
        simp only [objsDat, Bool.or_false]
        simpa using hsc
      exact hr.imp fun x c hc => CellsOk.mono (hA this) t x c hc
  | box ls =>
    obtain rfl := Option.some.inj h1
    obtain rfl := Option.some.inj h2
    obtain ⟨hpos, g, o', c, e, vs, hv, hh, hf, hc⟩ := h
    have hl := makeLs_length id ρ ls y
    refine ⟨⟨by rw [← hl]; exact hpos, g, o', c, e, vs, by rw [N.hv o hd]; exact hv, hh, makeLs_ren N ls y vs (fun h => hA (by simp [objsDat, h])) hf, hc⟩, fun g p => by simp only [cellsOf, N.hv o hd, hl]⟩
  | iter =>
    obtain rfl := Option.some.inj h1
    obtain rfl := Option.some.inj h2
    obtain ⟨g, k, hv, hp, hh⟩ := h
    exact ⟨⟨g, k, by rw [N.hv o hd]; exact hv, hp, hh⟩, fun g p => by simp only [cellsOf, N.hv o hd]⟩
  | smap t =>
    obtain rfl := Option.some.inj h1
    obtain rfl := Option.some.inj h2
    obtain ⟨g, es, clock, hv, hh, hf⟩ := h
    refine ⟨⟨g, es, clock, by rw [N.hv o hd]; exact hv, hh, ?_⟩, fun g p => by simp only [cellsOf, N.hv o hd]⟩
    by_cases hsc : isDatT t = false
    · exact hf.imp fun p e he => ⟨he.1, CellsOk_scalar hsc he.2⟩
    · have : objsDat [.smap t] = true := by
        simp only [objsDat, Bool.or_false]
        simpa using hsc
      exact hf.imp fun p e he => ⟨he.1, CellsOk.mono (hA this) t _ _ he.2⟩
  | dead => cases h1

end
end Go.Abs

/- A call: what comes back is a step of the caller's. -/
namespace Go.Abs
open Go

/-- What a procedure says of its function. -/
def ProcSound (P : Program) (glob : Nat → Option (List DLeaf)) (f : FuncId) (p : Proc) : Prop :=
  (∃ fn, P.funcs[f]? = some fn ∧ fn.name ≠ "runtime.NumGoroutine" ∧ fn.body.isSome = true) ∧
  ∀ (C : Ctx), C.E.P = P → C.E.glob = glob → C.E.n0 = p.n0 → ∀ (x : Tup p.inS) (r : p.R), p.F x = some r →
    ∀ (I : Interp) (args : Array Value), WRel C I (ofC p.inS x).objs C.w0 → (∀ i, VRep I (Dom (ofC p.inS x).objs) C.w0 (badOf C I (ofC p.inS x).objs) ((ofC p.inS x).slots i) (args.getD i undef)) → args.size = p.nargs →
      Calls P f args C.w0 fun
        | .returned v, w' => ∃ I', WRel C I' (ofC p.outS (p.post r)).objs w' ∧ VRep I' (Dom (ofC p.outS (p.post r)).objs) w' (badOf C I' (ofC p.outS (p.post r)).objs) (results (makeSlots id p.outS.slots (p.post r).1)) v
        | _, _ => False

section
variable {C : Ctx} {I : Interp} {objs : Nat → Option Obj} {w : World}

theorem putWr_other : ∀ (l : List (Nat × Obj)) (objs : Nat → Option Obj) (i : Nat), i ∉ l.map (·.1) → putWr objs l i = objs i
  | [], _, _, _ => rfl
  | (j, o) :: l, objs, i, h => by
    rw [show putWr objs ((j, o) :: l) = putWr (upd objs j (some o)) l from rfl, putWr_other l _ i (fun hh => h (by simp only [List.map_cons, List.mem_cons]; exact .inr hh)), upd_other _ _ _ _ (fun e => h (by simp [e]))]
theorem putWr_mem : ∀ (l : List (Nat × Obj)) (objs : Nat → Option Obj) (i : Nat), i ∈ l.map (·.1) → ∃ o, putWr objs l i = some o ∧ (i, o) ∈ l
  | [], _, _, h => by simp at h
  | (j, o) :: l, objs, i, h => by
    rw [show putWr objs ((j, o) :: l) = putWr (upd objs j (some o)) l from rfl]
    by_cases hl : i ∈ l.map (·.1)
    · obtain ⟨o', h1, h2⟩ := putWr_mem l (upd objs j (some o)) i hl
      exact ⟨o', h1, List.mem_cons_of_mem _ h2⟩
    · have : i = j := by
        simp only [List.map_cons, List.mem_cons] at h
        exact h.resolve_right hl
      subst this
      exact ⟨o, by rw [putWr_other l _ i hl, upd_same], by simp⟩
theorem putWr_dom (l : List (Nat × Obj)) (objs : Nat → Option Obj) (i : Nat) (h : Dom objs i) : Dom (putWr objs l) i := by
  by_cases hl : i ∈ l.map (·.1)
  · obtain ⟨o, h1, _⟩ := putWr_mem l objs i hl
    simp [Dom, h1]
  · unfold Dom
    rw [putWr_other l objs i hl]
    exact h

theorem gone_mem {n0 : Nat} : ∀ {ids : List (Nat × Option Nat)} {i : Nat} {ob : Obj}, (i, ob) ∈ gone n0 ids → ob = .gone ∧ ∃ o, (o, some i) ∈ ids ∧ n0 ≤ o
  | [], i, ob, h => by simp [gone] at h
  | (o, none) :: r, i, ob, h => by
    obtain ⟨h1, o', h2, h3⟩ := gone_mem (ids := r) h
    exact ⟨h1, o', List.mem_cons_of_mem _ h2, h3⟩
  | (o, some n) :: r, i, ob, h => by
    simp only [gone] at h
    cases hb : Nat.blt o n0 with
    | true =>
      rw [hb] at h
      obtain ⟨h1, o', h2, h3⟩ := gone_mem (ids := r) h
      exact ⟨h1, o', List.mem_cons_of_mem _ h2, h3⟩
    | false =>
      rw [hb] at h
      simp only [cond_false, List.mem_cons, Prod.mk.injEq] at h
      rcases h with ⟨rfl, rfl⟩ | h
      · refine ⟨rfl, o, by simp, ?_⟩
        have : ¬ o < n0 := fun hh => by rw [show Nat.blt o n0 = true from Nat.ble_eq_true_of_le hh] at hb; cases hb
        omega
      · obtain ⟨h1, o', h2, h3⟩ := gone_mem (ids := r) h
        exact ⟨h1, o', List.mem_cons_of_mem _ h2, h3⟩
theorem gone_has {n0 : Nat} : ∀ {ids : List (Nat × Option Nat)} {o i : Nat}, (o, some i) ∈ ids → n0 ≤ o → i ∈ (gone n0 ids).map (·.1)
  | [], o, i, h, _ => by simp at h
  | (o', none) :: r, o, i, h, hn => by
    simp only [List.mem_cons, Prod.mk.injEq, reduceCtorEq, and_false, false_or] at h
    exact gone_has (ids := r) h hn
  | (o', some n) :: r, o, i, h, hn => by
    simp only [gone]
    simp only [List.mem_cons, Prod.mk.injEq, Option.some.injEq] at h
    cases hb : Nat.blt o' n0 with
    | true =>
      rcases h with ⟨rfl, rfl⟩ | h
      · have : o + 1 ≤ n0 := Nat.le_of_ble_eq_true hb
        omega
      · exact gone_has (ids := r) h hn
    | false =>
      simp only [cond_false, List.map_cons, List.mem_cons]
      rcases h with ⟨rfl, rfl⟩ | h
      · exact .inl rfl
      · exact .inr (gone_has (ids := r) h hn)

theorem back_mem (f : Nat → Nat) : ∀ {k : Nat} {l : List (Option Obj)} {i : Nat} {ob : Obj}, (i, ob) ∈ backObjs f k l → ∃ o, o < l.length ∧ i = f (k + o) ∧ (ob = .gone ∨ getO l o = some ob)
  | _, [], i, ob, h => by simp [backObjs] at h
  | k, some x :: r, i, ob, h => by
    simp only [backObjs, List.mem_cons, Prod.mk.injEq] at h
    rcases h with ⟨rfl, rfl⟩ | h
    · exact ⟨0, by simp, rfl, .inr rfl⟩
    · obtain ⟨o, h1, h2, h3⟩ := back_mem f h
      exact ⟨o + 1, by simp only [List.length_cons]; omega, by rw [h2]; congr 1; omega, h3⟩
  | k, none :: r, i, ob, h => by
    simp only [backObjs, List.mem_cons, Prod.mk.injEq] at h
    rcases h with ⟨rfl, rfl⟩ | h
    · exact ⟨0, by simp, rfl, .inl rfl⟩
    · obtain ⟨o, h1, h2, h3⟩ := back_mem f h
      exact ⟨o + 1, by simp only [List.length_cons]; omega, by rw [h2]; congr 1; omega, h3⟩
theorem back_has (f : Nat → Nat) : ∀ {k : Nat} {l : List (Option Obj)} {o : Nat}, o < l.length → f (k + o) ∈ (backObjs f k l).map (·.1)
  | _, [], o, h => by simp at h
  | k, some x :: r, 0, h => by simp [backObjs]
  | k, none :: r, 0, h => by simp [backObjs]
  | k, some x :: r, o + 1, h => by
    simp only [backObjs, List.map_cons, List.mem_cons]
    have := back_has f (k := k + 1) (l := r) (o := o) (by simpa using h)
    rw [show k + 1 + o = k + (o + 1) by omega] at this
    exact .inr this
  | k, none :: r, o + 1, h => by
    simp only [backObjs, List.map_cons, List.mem_cons]
    have := back_has f (k := k + 1) (l := r) (o := o) (by simpa using h)
    rw [show k + 1 + o = k + (o + 1) by omega] at this
    exact .inr this

theorem makeObjs_length (ρ : Nat → Nat) : ∀ (l : List OS) (y : TObjs l), (makeObjs ρ l y).length = l.length
  | [], _ => rfl
  | _ :: l, y => by simp [makeObjs, makeObjs_length ρ l y.2]
theorem getO_lt {α : Type} : ∀ {l : List (Option α)} {i : Nat} {x : α}, getO l i = some x → i < l.length
  | [], _, _, h => by simp [getO] at h
  | _ :: _, 0, _, _ => by simp
  | _ :: r, i + 1, x, h => by
    have := getO_lt (l := r) (i := i) h
    simp only [List.length_cons]
    omega

/-- The two makings of an object side by side. -/
theorem makeObjs_two (ρ ρ' : Nat → Nat) : ∀ (l : List OS) (y : TObjs l) (o : Nat) (ob : Obj), getO (makeObjs ρ l y) o = some ob → ∃ (s : OS) (z : s.T) (ob' : Obj), s.make ρ z = some ob ∧ s.make ρ' z = some ob' ∧ getO (makeObjs ρ' l y) o = some ob' ∧ (objsDat [s] = true → objsDat l = true)
  | [], _, _, _, h => by simp [makeObjs, getO] at h
  | s :: l, y, 0, ob, h => by
    simp only [makeObjs, getO] at h ⊢
    cases s with
    | row e t => exact ⟨.row e t, y.1, _, h, rfl, rfl, fun hh => by rw [objsDat_cons, hh]; rfl⟩
    | box ls => exact ⟨.box ls, y.1, _, h, rfl, rfl, fun hh => by rw [objsDat_cons, hh]; rfl⟩
    | iter => exact ⟨.iter, y.1, _, h, rfl, rfl, fun hh => by rw [objsDat_cons, hh]; rfl⟩
    | smap t => exact ⟨.smap t, y.1, _, h, rfl, rfl, fun hh => by rw [objsDat_cons, hh]; rfl⟩
    | dead => cases h
  | s :: l, y, o + 1, ob, h => by
    simp only [makeObjs, getO] at h ⊢
    obtain ⟨s', z, ob', h1, h2, h3, h4⟩ := makeObjs_two ρ ρ' l y.2 o ob h
    exact ⟨s', z, ob', h1, h2, h3, fun hh => by rw [objsDat_cons, h4 hh]; simp⟩

theorem freeAll_of {fr : Nat} : ∀ {k o : Nat}, freeAll objs fr k = true → o < k → objs (fr + o) = none
  | 0, o, _, h => by omega
  | k + 1, o, h, ho => by
    simp only [freeAll, newIds, List.all_cons, Bool.and_eq_true] at h
    by_cases e : o = k
    · subst e; exact isFree_of h.1
    · exact freeAll_of (k := k) (by simp only [freeAll]; exact h.2) (by omega)

theorem tiesOk_of {all : List (Nat × Option Nat)} : ∀ {l : List (Nat × Option Nat)}, tiesOk objs all l = true → ∀ o n, (o, some n) ∈ l → Dom objs n ∧ findId o all = some (some n)
  | [], _, o, n, h => by simp at h
  | (o', none) :: r, h, o, n, hm => by
    simp only [List.mem_cons, Prod.mk.injEq, reduceCtorEq, and_false, false_or] at hm
    exact tiesOk_of (l := r) h o n hm
  | (o', some n') :: r, h, o, n, hm => by
    simp only [tiesOk, Bool.and_eq_true] at h
    simp only [List.mem_cons, Prod.mk.injEq, Option.some.injEq] at hm
    rcases hm with ⟨rfl, rfl⟩ | hm
    · constructor
      · have := h.1.1
        unfold isFree at this
        cases hg : objs n with
        | none => rw [hg] at this; cases this
        | some x => simp [Dom, hg]
      · have := h.1.2
        split at this
        · rename_i x hx
          rw [hx, isId_iff.1 this]
        · cases this
    · exact tiesOk_of (l := r) h.2 o n hm

theorem allLive_of {l : List OS} : ∀ {n k : Nat}, allLive l n = true → k < n → liveO l k = true
  | 0, k, _, h => by omega
  | n + 1, k, h, hk => by
    simp only [allLive, Bool.and_eq_true] at h
    by_cases e : k = n
    · subst e; exact h.1
    · exact allLive_of h.2 (by omega)

theorem numbered_of {dom : Nat → Prop} {bad : Bad} : ∀ {args : List Val} {vs : List Value} (k : Nat), F2 (VRep I dom w bad) args vs → ∀ i, VRep I dom w bad (numbered k args (k + i)) (vs.getD i undef)
  | [], _, k, _, i => trivial
  | _ :: _, [], _, h, _ => h.elim
  | a :: args, v :: vs, k, h, i => by
    simp only [numbered]
    cases i with
    | zero => simpa using h.1
    | succ i =>
      have hb : Nat.beq k (k + (i + 1)) = false := by
        cases hb : Nat.beq k (k + (i + 1))
        · rfl
        · have := Nat.eq_of_beq_eq_true hb; omega
      rw [hb]
      have := numbered_of (k + 1) h.2 i
      rw [show k + 1 + i = k + (i + 1) by omega] at this
      simpa using this

end
end Go.Abs

/- A call: what comes back is a step of the caller's (the theorem). -/
namespace Go.Abs
open Go

section
variable {C : Ctx} {I : Interp} {objs : Nat → Option Obj} {w : World}

/-- The called function's own view. -/
def calleeBan (C : Ctx) (I : Interp) (objs : Nat → Option Obj) (m : Met) : Bad := fun g o => C.ban g o ∨ ∃ id ob, objs id = some ob ∧ cellsOf I id ob g o ∧ ¬ Tied m id ∧ (id ∈ m.seen → ∀ e t xs, ob ≠ .row e t xs)
def calleeCtx (C : Ctx) (I : Interp) (objs : Nat → Option Obj) (w : World) (n0 : Nat) (S : Shape) (x : Tup S) (m : Met) : Ctx :=
  { E := { C.E with n0 := n0 }, w0 := w, mut0 := MutOf (newI I S m) (ofC S x).objs, ban := calleeBan C I objs m, v0 := (newI I S m).v, sz0 := (newI I S m).sz }

theorem callee_rel (R : WRel C I objs w) {p : Proc} {args : List Val} {vs : List Value} (hv : F2 (VRep I (Dom objs) w (badOf C I objs)) args vs) {x : Tup p.inS} {m : Met} (h : takeS p.inS 0 objs (numbered 0 args) = some (x, m))
    (hlive : allLive p.inS.objs p.n0 = true) :
    let D := calleeCtx C I objs w p.n0 p.inS x m
    WRel D (newI I p.inS m) (ofC p.inS x).objs w ∧
    (∀ i, VRep (newI I p.inS m) (Dom (ofC p.inS x).objs) w (badOf D (newI I p.inS m) (ofC p.inS x).objs) ((ofC p.inS x).slots i) (vs.getD i undef)) ∧
    (∀ g o, MutOf (newI I p.inS m) (ofC p.inS x).objs g o → ∃ o' n ob0, (o', some n) ∈ m.ids ∧ objs n = some ob0 ∧ cellsOf I n ob0 g o) ∧ Inj m.ids := by
  intro D
  have hu : ∀ i, VRep I (Dom objs) w (badOf C I objs) (numbered 0 args i) (vs.getD i undef) := fun i => by
    have := numbered_of 0 hv i
    rwa [Nat.zero_add] at this
  obtain ⟨h1, h2, h3, h4, h5, h6, h7, h8, h9⟩ := takeS_rep R h hu (calleeBan C I objs m) (fun g o hb => hb) D rfl
  have hmut : ∀ g o, MutOf (newI I p.inS m) (ofC p.inS x).objs g o → ∃ o' n ob0, (o', some n) ∈ m.ids ∧ objs n = some ob0 ∧ cellsOf I n ob0 g o := by
    rintro g o ⟨id, ob, ho, hc⟩
    obtain ⟨n, ob0, a, b, c⟩ := h2 id ob g o ho hc
    exact ⟨id, n, ob0, a, b, c⟩
  refine ⟨⟨h1, ?_, h3, ?_, Fr.refl _ _, fun g o hm => .inl hm, h4, ?_, ?_, fun g cs hg hne => R.full g cs hg hne⟩, h5, hmut, h8⟩
  · intro g o hm
    obtain ⟨o', n, ob0, _, a, b⟩ := hmut g o hm
    exact R.lt g o ⟨n, ob0, a, b⟩
  · intro g cs hg
    obtain ⟨a, ws, e, hf, hr⟩ := R.globs g cs hg
    exact ⟨a, ws, e, hf.imp fun l v => DRep.mono h6 l v, fun i v hv => h6 _ _ (hr i v hv)⟩
  · rintro g o (hb | ⟨id, ob, ho, hc, _⟩)
    · exact Nat.lt_of_lt_of_le (R.banlt g o hb) R.frame.size
    · exact R.lt g o ⟨id, ob, ho, hc⟩
  · intro k hk
    exact ⟨live_some p.inS.objs x.2 k (allLive_of hlive hk), rfl, rfl⟩

theorem call_step (R : WRel C I objs w) {p : Proc} {x : Tup p.inS} {m : Met} {fr : Nat}
    (hfree : freeAll objs fr p.outS.objs.length = true) (hlive : allLive p.inS.objs p.n0 = true) (hle : p.n0 ≤ p.outS.objs.length) (hties : tiesOk objs m.ids m.ids = true) (hinj : Inj m.ids)
    (hmut : ∀ g o, MutOf (newI I p.inS m) (ofC p.inS x).objs g o → ∃ o' n ob0, (o', some n) ∈ m.ids ∧ objs n = some ob0 ∧ cellsOf I n ob0 g o)
    {objs1 : Nat → Option Obj} (R1 : WRel C I objs1 w) (K1 : Keep I (Dom objs) w (badOf C I objs) I (Dom objs1) w (badOf C I objs1)) (hF : Froz objs objs1) (hseen : ∀ n, n ∉ m.seen → objs1 n = objs n) (hapart : ∀ n, Tied m n → n ∉ m.seen)
    (y : Tup p.outS) (hz : (slotsDat p.outS.slots || objsDat p.outS.objs) = true → ∀ r e t xs, r ∈ m.seen → objs r = some (.row e t xs) → objs1 r = some (.frow t xs))
    {J : Interp} {w' : World} {v : Value} (RD : WRel (calleeCtx C I objs w p.n0 p.inS x m) J (ofC p.outS y).objs w')
    (hres : VRep J (Dom (ofC p.outS y).objs) w' (badOf (calleeCtx C I objs w p.n0 p.inS x m) J (ofC p.outS y).objs) (results (makeSlots id p.outS.slots y.1)) v) :
    StepOk C I objs1 w (results (makeSlots (backId p.n0 m.ids fr) p.outS.slots y.1))
      (List.append (gone p.n0 m.ids) (backObjs (backId p.n0 m.ids fr) 0 (makeObjs (backId p.n0 m.ids fr) p.outS.objs y.2))) v w' := by
  classical
  let D := calleeCtx C I objs w p.n0 p.inS x m
  let ρ := backId p.n0 m.ids fr
  let k := p.outS.objs.length
  let I2 : Interp := ⟨fun i => if fr ≤ i ∧ i < fr + k then J.v (i - fr) else I.v i, fun i => if fr ≤ i ∧ i < fr + k then J.sz (i - fr) else I.sz i⟩
  let wr := List.append (gone p.n0 m.ids) (backObjs ρ 0 (makeObjs ρ p.outS.objs y.2))
  let objs2 := putWr objs1 wr
  have hwr : ∀ i, i ∈ wr.map (·.1) ↔ i ∈ (gone p.n0 m.ids).map (·.1) ∨ i ∈ (backObjs ρ 0 (makeObjs ρ p.outS.objs y.2)).map (·.1) := by
    intro i
    show i ∈ (gone p.n0 m.ids ++ backObjs ρ 0 (makeObjs ρ p.outS.objs y.2)).map (·.1) ↔ _
    rw [List.map_append, List.mem_append]
  have hfr : ∀ i, fr ≤ i → i < fr + k → objs i = none := by
    intro i h1 h2
    have := freeAll_of hfree (o := i - fr) (by omega)
    rwa [show fr + (i - fr) = i by omega] at this
  have hfr1 : ∀ i, fr ≤ i → i < fr + k → objs1 i = none := fun i h1 h2 => froz_none hF (hfr i h1 h2)
  have htied : ∀ o n, (o, some n) ∈ m.ids → Dom objs n ∧ findId o m.ids = some (some n) ∧ ¬ (fr ≤ n ∧ n < fr + k) := by
    intro o n hm
    obtain ⟨h1, h2⟩ := tiesOk_of hties o n hm
    refine ⟨h1, h2, fun ⟨h3, h4⟩ => ?_⟩
    have := hfr n h3 h4
    simp [Dom, this] at h1
  -- where an object goes
  have hρ : ∀ o, o < k → (o < p.n0 ∧ ∃ n, findId o m.ids = some (some n) ∧ ρ o = n) ∨ ρ o = fr + o := by
    intro o ho
    simp only [ρ, backId]
    cases hb : Nat.blt o p.n0 with
    | false => exact .inr rfl
    | true =>
      have hlt : o < p.n0 := Nat.le_of_ble_eq_true hb
      simp only [cond_true]
      split
      · rename_i n hn
        exact .inl ⟨hlt, n, hn, rfl⟩
      · exact .inr rfl
  have hI2 : ∀ i, Dom objs1 i → I2.v i = I.v i ∧ I2.sz i = I.sz i := by
    intro i hd
    have : ¬ (fr ≤ i ∧ i < fr + k) := fun ⟨h1, h2⟩ => by
      have := hfr1 i h1 h2
      simp [Dom, this] at hd
    simp only [I2, if_neg this, and_self]
  have hIρ : ∀ o, o < k → I2.v (ρ o) = J.v o ∧ I2.sz (ρ o) = J.sz o := by
    intro o ho
    rcases hρ o ho with ⟨hlt, n, hn, e⟩ | e
    · have hnf := (htied o n (findId_mem hn)).2.2
      obtain ⟨_, b1, b2⟩ := RD.base o hlt
      rw [e]
      simp only [I2, if_neg hnf]
      rw [b1, b2]
      simp [calleeCtx, newI, hn]
    · rw [e]
      have : fr ≤ fr + o ∧ fr + o < fr + k := by omega
      simp only [I2, if_pos this, show fr + o - fr = o by omega, and_self]
  have hmem : ∀ i, i ∈ wr.map (·.1) → ∃ ob, objs2 i = some ob ∧ (ob = .gone ∨ ∃ o, o < k ∧ i = ρ o ∧ getO (makeObjs ρ p.outS.objs y.2) o = some ob) := by
    intro i hi
    obtain ⟨ob, h1, h2⟩ := putWr_mem wr objs1 i hi
    refine ⟨ob, h1, ?_⟩
    have h2' : (i, ob) ∈ gone p.n0 m.ids ++ backObjs ρ 0 (makeObjs ρ p.outS.objs y.2) := h2
    rcases List.mem_append.1 h2' with h3 | h3
    · exact .inl (gone_mem h3).1
    · obtain ⟨o, h4, h5, h6⟩ := back_mem ρ h3
      rw [makeObjs_length] at h4
      rw [Nat.zero_add] at h5
      exact h6.imp id fun h6 => ⟨o, h4, h5, h6⟩
  have hhas : ∀ o, o < k → ρ o ∈ wr.map (·.1) := by
    intro o ho
    have := back_has ρ (k := 0) (l := makeObjs ρ p.outS.objs y.2) (o := o) (by rw [makeObjs_length]; exact ho)
    rw [Nat.zero_add] at this
    exact (hwr _).2 (.inr this)
  have htw : ∀ o n, (o, some n) ∈ m.ids → n ∈ wr.map (·.1) := by
    intro o n hm
    by_cases hlt : o < p.n0
    · have hf := (htied o n hm).2.1
      have := hhas o (Nat.lt_of_lt_of_le hlt hle)
      rcases hρ o (Nat.lt_of_lt_of_le hlt hle) with ⟨_, n', hn', e⟩ | e
      · rw [hf] at hn'
        simp only [Option.some.injEq] at hn'
        rw [e, ← hn'] at this
        exact this
      · exfalso
        have hb : Nat.blt o p.n0 = true := Nat.ble_eq_true_of_le hlt
        simp only [ρ, backId, hb, cond_true, hf] at e
        exact (htied o n hm).2.2 ⟨by omega, by omega⟩
    · exact (hwr n).2 (.inl (gone_has hm (by omega)))
  have hdomρ : ∀ o, Dom (ofC p.outS y).objs o → o < k ∧ Dom objs2 (ρ o) := by
    intro o ho
    have hlt : o < k := by
      unfold Dom at ho
      obtain ⟨ob, hob⟩ := Option.isSome_iff_exists.1 ho
      have := getO_lt hob
      rwa [makeObjs_length] at this
    obtain ⟨ob, h1, _⟩ := hmem (ρ o) (hhas o hlt)
    exact ⟨hlt, by simp [Dom, h1]⟩
  have N : Ren J (Dom (ofC p.outS y).objs) I2 (Dom objs2) ρ :=
    ⟨fun o ho => (hdomρ o ho).2, fun o ho => (hIρ o (hdomρ o ho).1).1, fun o ho => (hIρ o (hdomρ o ho).1).2⟩
  -- an object that came back, as the called function had it
  have hback : ∀ o ob, getO (makeObjs ρ p.outS.objs y.2) o = some ob → ∃ (s : OS) (z : s.T) (ob' : Obj), s.make ρ z = some ob ∧ s.make id z = some ob' ∧ (ofC p.outS y).objs o = some ob' ∧ (objsDat [s] = true → objsDat p.outS.objs = true) := by
    intro o ob ho
    obtain ⟨s, z, ob', h1, h2, h3, h4⟩ := makeObjs_two ρ id p.outS.objs y.2 o ob ho
    exact ⟨s, z, ob', h1, h2, h3, h4⟩
  have hnoD : ∀ (s : OS) (z : s.T) (o : Nat) (ob ob' : Obj), s.make id z = some ob' → s.make ρ z = some ob → Dom (ofC p.outS y).objs o → (ofC p.outS y).objs o = some ob' → ∀ g q, cellsOf I2 (ρ o) ob g q ↔ cellsOf J o ob' g q := by
    intro s z o ob ob' h1 h2 hd h3 g q
    have hv2 := (hIρ o (hdomρ o hd).1).1
    cases s with
    | row e t =>
      obtain rfl := Option.some.inj h1
      obtain rfl := Option.some.inj h2
      simp only [cellsOf, hv2]
    | box ls =>
      obtain rfl := Option.some.inj h1
      obtain rfl := Option.some.inj h2
      simp only [cellsOf, hv2, makeLs_length ρ id ls z]
    | iter =>
      obtain rfl := Option.some.inj h1
      obtain rfl := Option.some.inj h2
      simp only [cellsOf, hv2]
    | smap t =>
      obtain rfl := Option.some.inj h1
      obtain rfl := Option.some.inj h2
      simp only [cellsOf, hv2]
    | dead => cases h1
  have hcell : ∀ i ob', i ∈ wr.map (·.1) → objs2 i = some ob' → ∀ g q, cellsOf I2 i ob' g q → ∃ o ob0, o < k ∧ i = ρ o ∧ (ofC p.outS y).objs o = some ob0 ∧ cellsOf J o ob0 g q := by
    intro i ob' hi ho g q hc
    obtain ⟨ob, h1, h2⟩ := hmem i hi
    rw [ho] at h1
    obtain rfl := Option.some.inj h1
    rcases h2 with rfl | ⟨o, hlt, rfl, h3⟩
    · exact hc.elim
    · obtain ⟨s, z, ob0, h4, h5, h6, _⟩ := hback o ob' h3
      exact ⟨o, ob0, hlt, rfl, h6, (hnoD s z o ob' ob0 h5 h4 (by simp [Dom, h6]) h6 g q).1 hc⟩
  -- the data that came back may be read on
  have hA : (slotsDat p.outS.slots || objsDat p.outS.objs) = true → ∀ a u, At w' (badOf D J (ofC p.outS y).objs) a u → At w' (badOf C I2 objs2) a u := by
    intro hd a u hat
    refine ⟨hat.1, fun hb => hat.2 ?_⟩
    rcases hb with hb | ⟨i, ob, hi, hc⟩
    · exact .inl (.inl hb)
    · by_cases hw : i ∈ wr.map (·.1)
      · obtain ⟨o, ob0, _, _, h3, h4⟩ := hcell i ob hw hi _ _ hc
        exact .inr ⟨o, ob0, h3, h4⟩
      · have h1 : objs1 i = some ob := by rw [← hi]; exact (putWr_other wr objs1 i hw).symm
        have hc1 : cellsOf I i ob a.block a.off := (cellsOf_congr (hI2 i (by simp [Dom, h1])).1 ob _ _).1 hc
        have hnt : ¬ Tied m i := fun ⟨o, hm⟩ => hw (htw o i hm)
        by_cases hs : i ∈ m.seen
        · rcases hF i with h2 | ⟨e, t, xs, h2, h3⟩
          · cases ob with
            | row e t xs =>
              rw [h1] at h2
              have := hz hd i e t xs hs h2.symm
              rw [h1] at this
              cases this
            | box ls => exact .inl (.inr ⟨i, _, h2 ▸ h1, hc1, hnt, fun _ => by simp⟩)
            | frow t xs => exact hc1.elim
            | fbox ds => exact hc1.elim
            | view r lo n => exact hc1.elim
            | iter s p => exact .inl (.inr ⟨i, _, h2 ▸ h1, hc1, hnt, fun _ => by simp⟩)
            | smap t m2 => exact .inl (.inr ⟨i, _, h2 ▸ h1, hc1, hnt, fun _ => by simp⟩)
            | gone => exact hc1.elim
          · rw [h1] at h3
            obtain rfl := Option.some.inj h3
            exact hc1.elim
        · refine .inl (.inr ⟨i, ob, ?_, hc1, hnt, fun hh => absurd hh hs⟩)
          rw [← hseen i hs]
          exact h1
  have hD1 : ∀ g q, D.mut0 g q → ∃ id2 ob2, id2 ∈ wr.map (·.1) ∧ objs1 id2 = some ob2 ∧ cellsOf I id2 ob2 g q := by
    intro g q hm
    obtain ⟨o', n, ob0, h1, h2, h3⟩ := hmut g q hm
    exact ⟨n, ob0, htw o' n h1, by rw [hseen n (hapart n ⟨o', h1⟩)]; exact h2, h3⟩
  have hU := R1.upd (I' := I2) (objs' := objs2) (w' := w') D.mut0 (fun i => i ∈ wr.map (·.1)) RD.frame hD1 hI2 (fun id hd => putWr_dom wr objs1 id hd) (fun id hn => putWr_other wr objs1 id hn) (by
      intro i ob' hi ho g q hc
      obtain ⟨o, ob0, hlt, e, h3, h4⟩ := hcell i ob' hi ho g q hc
      refine ⟨?_, RD.lt g q ⟨o, ob0, h3, h4⟩⟩
      rcases RD.within g q ⟨o, ob0, h3, h4⟩ with h5 | h5
      · exact .inl (hD1 g q h5)
      · exact .inr h5)
    (by
      intro i i' ob ob' g q hi hi' ho ho' hc hc'
      obtain ⟨o, ob0, _, e, h3, h4⟩ := hcell i ob hi ho g q hc
      obtain ⟨o', ob0', _, e', h3', h4'⟩ := hcell i' ob' hi' ho' g q hc'
      have := RD.disj o o' ob0 ob0' g q h3 h3' h4 h4'
      rw [e, e', this])
    (by
      intro K i ob' hi ho
      obtain ⟨ob, h1, h2⟩ := hmem i hi
      rw [ho] at h1
      obtain rfl := Option.some.inj h1
      rcases h2 with rfl | ⟨o, hlt, rfl, h3⟩
      · trivial
      · obtain ⟨s, z, ob0, h4, h5, h6, h7⟩ := hback o ob' h3
        exact (OS.ren N s z o (by simp [Dom, h6]) ob0 ob' (fun hh => hA (by rw [h7 hh]; simp)) h5 h4 (RD.ok o ob0 h6)).1)
  exact ⟨I2, hU.1, hU.2, results_ren N p.outS.slots y.1 v (fun hh => hA (by rw [hh]; rfl)) hres⟩

theorem call_of (R : WRel C I objs w) {f : FuncId} {p : Proc} (hp : ProcSound C.E.P C.E.glob f p) {fr : Nat} {args : List Val} {vs : List Value} (hv : F2 (VRep I (Dom objs) w (badOf C I objs)) args vs) {out : Out} (h : (callE objs fr p args).den = some out) :
    Calls C.E.P f vs.toArray w fun
      | .returned v, w' => StepOk C I objs w out.val out.wr v w'
      | _, _ => False := by
  unfold callE at h
  split at h
  · rename_i x m hx
    cases hb : (freeAll objs fr p.outS.objs.length && (Nat.beq (List.length args) p.nargs && (allLive p.inS.objs p.n0 && (Nat.ble p.n0 p.outS.objs.length && tiesOk objs m.ids m.ids)))) with
    | false => rw [hb] at h; cases h
    | true =>
      rw [hb] at h
      simp only [Bool.and_eq_true] at hb
      obtain ⟨hb1, hb2, hb3, hb4, hb5⟩ := hb
      simp only [Bool.not_true, cond_false, Eff.den] at h
      cases hr : p.F x with
      | none => rw [hr] at h; cases h
      | some r =>
        rw [hr] at h
        simp only [Option.bind_some, Option.some.injEq] at h
        subst h
        obtain ⟨h1, h2, h3, h4⟩ := callee_rel R hv hx hb3
        have hcall := hp.2 (calleeCtx C I objs w p.n0 p.inS x m) rfl rfl rfl x r hr (newI I p.inS m) vs.toArray h1 (fun i => by
          rw [show vs.toArray.getD i undef = vs.getD i undef by simp]
          exact h2 i) (by
          have := Nat.eq_of_beq_eq_true hb2
          rw [List.size_toArray, ← hv.length]
          exact this)
        refine hcall.mono fun e w' he => ?_
        match e, he with
        | .returned v, ⟨J, RD, hres⟩ =>
          have hap : ∀ n, Tied m n → n ∉ m.seen := fun n ⟨o, hm⟩ hs => takeS_apart hx n o hs hm
          by_cases hd : (slotsDat p.outS.slots || objsDat p.outS.objs) = true
          · obtain ⟨f1, f2, f3, f4, f5⟩ := freezes_self R m.seen
            have := call_step R hb1 hb3 (Nat.le_of_ble_eq_true hb4) hb5 h4 h3 f2 f3 f1 f5 hap (p.post r) (fun _ => f4) RD hres
            simp only [hd, cond_true]
            exact StepOk.after rfl f3 this
          · have hd' : (slotsDat p.outS.slots || objsDat p.outS.objs) = false := by simpa using hd
            have := call_step R hb1 hb3 (Nat.le_of_ble_eq_true hb4) hb5 h4 h3 R (Keep.refl _ _ _ _) (fun _ => .inl rfl) (fun _ _ => rfl) hap (p.post r) (fun hh => absurd hh hd) RD hres
            simp only [hd', cond_false]
            exact this
  · cases h
end
end Go.Abs

/- Every operation: what the evaluator says of it is so. -/
namespace Go.Abs
open Go

section
variable {C : Ctx} {I : Interp} {objs : Nat → Option Obj} {w : World}

theorem F2.mapL {α β γ : Type} {R : β → γ → Prop} (f : α → β) (g : α → γ) (h : ∀ a, R (f a) (g a)) : ∀ l : List α, F2 R (l.map f) (l.map g)
  | [] => trivial
  | a :: l => ⟨h a, F2.mapL f g h l⟩

theorem F2.pick {α β : Type} {R : α → β → Prop} : ∀ {l : List α} {m : List β} {i : Nat} {a : α}, F2 R l m → selV l i = some a → ∃ b, m[i]? = some b ∧ R a b
  | [], _, _, _, _, h => by cases h
  | _ :: _, [], _, _, h, _ => h.elim
  | x :: l, y :: m, 0, a, hf, h => by
    simp only [selV, Option.some.injEq] at h
    subst h
    exact ⟨y, by simp, hf.1⟩
  | x :: l, y :: m, i + 1, a, hf, h => by
    obtain ⟨b, h1, h2⟩ := F2.pick (l := l) (m := m) (i := i) hf.2 h
    exact ⟨b, by simpa using h1, h2⟩

theorem int_of {n : Int} {k : IntKind} {v : Value} (h : VRep I (Dom objs) w (badOf C I objs) (.one (.lf (.d (.v (.int k n))))) v) : v = .int k n := h.1

theorem optInt_of (R : WRel C I objs w) {sl : Nat → Val} {a : Act} (S : SRel C I objs w sl a) {x : Option Operand} {y : Option Int} (h : optInt (evalO C.E sl) x = some y) : BoundIs (x.map a.eval) y := by
  cases x with
  | none =>
    simp only [optInt, Option.some.injEq] at h
    subst h
    trivial
  | some x =>
    simp only [optInt] at h
    split at h
    · rename_i k n hx
      simp only [Option.some.injEq] at h
      subst h
      have := evalO_of R S x
      rw [hx] at this
      exact ⟨k, this.1⟩
    · cases h

theorem callee_run {P : Program} {f : FuncId} (h : ∃ fn, P.funcs[f]? = some fn ∧ fn.name ≠ "runtime.NumGoroutine" ∧ fn.body.isSome = true) (args : Array Value) (w : World) : (callFunc f args).run P w = .ok (.enter f args) w := by
  obtain ⟨fn, h1, h2, h3⟩ := h
  cases hb : fn.body with
  | none => rw [hb] at h3; cases h3
  | some c => simp [callFunc, h1, h2, hb]

theorem capsOf_of (R : WRel C I objs w) {sl : Nat → Val} {a : Act} (S : SRel C I objs w sl a) : ∀ {xs : List Operand} {l : List Nat}, capsOf (evalO C.E sl) xs = some l →
    F2 (fun b x => Dom objs b ∧ ∃ g o, I.v b = .pointer (some ⟨g, o, none⟩) ∧ x = .pointer (some ⟨g, o, none⟩)) l (xs.map a.eval)
  | [], l, h => by
    simp only [capsOf, Option.some.injEq] at h
    subst h
    trivial
  | x :: xs, l, h => by
    simp only [capsOf] at h
    split at h
    · rename_i b l' hb hl
      simp only [Option.some.injEq] at h
      subst h
      have := evalO_of R S x
      rw [hb] at this
      obtain ⟨hd, g, o, hv, hx⟩ := this
      exact ⟨⟨hd, g, o, hv, by simpa using hx⟩, capsOf_of R S hl⟩
    · cases h

theorem caps_vals : ∀ {caps : List Nat} {as : List Value}, F2 (fun b x => Dom objs b ∧ ∃ g o, I.v b = .pointer (some ⟨g, o, none⟩) ∧ x = .pointer (some ⟨g, o, none⟩)) caps as → F2 (VRep I (Dom objs) w (badOf C I objs)) (caps.map fun b => lf1 (.bp b 0)) as
  | [], [], _ => trivial
  | [], _ :: _, h => h.elim
  | _ :: _, [], h => h.elim
  | _ :: _, _ :: _, ⟨⟨hd, g, o, hv, hx⟩, hf⟩ => ⟨⟨hd, g, o, hv, by simpa using hx⟩, caps_vals hf⟩

theorem pick_of {t : Bool} {x y : Val} {out : Out} {u v : Value} (R : WRel C I objs w) (h : (pickE t x y).den = some out) (hx : VRep I (Dom objs) w (badOf C I objs) x u) (hy : VRep I (Dom objs) w (badOf C I objs) y v) :
    StepOk C I objs w out.val out.wr (if t = true then u else v) w := by
  have fin : ∀ z, out = ⟨z, [], []⟩ → VRep I (Dom objs) w (badOf C I objs) z (if t = true then u else v) → StepOk C I objs w out.val out.wr (if t = true then u else v) w := by
    intro z e hz
    subst e
    exact StepOk.pure R hz
  unfold pickE at h
  split at h
  · rename_i p q
    simp only [Eff.den, Option.some.injEq] at h
    refine fin _ h.symm ?_
    cases t
    · exact ⟨hy.1, rfl⟩
    · exact ⟨hx.1, rfl⟩
  · rename_i k p k' q
    split at h
    · rename_i hk
      subst hk
      simp only [Eff.den, Option.some.injEq] at h
      refine fin _ h.symm ?_
      cases t
      · exact ⟨hy.1, rfl⟩
      · exact ⟨hx.1, rfl⟩
    · cases h
  · simp only [Eff.den] at h
    cases t
    · simp only [cond_false, Option.some.injEq] at h
      exact fin _ h.symm hy
    · simp only [cond_true, Option.some.injEq] at h
      exact fin _ h.symm hx

/-- The functions that the evaluator calls do what is said of them. -/
structure ProcsOk (E : Env) : Prop where
  mixed : E.P.follows .mixedOrders = true
  procs : ∀ f p, E.proc f = some p → ProcSound E.P E.glob f p

theorem goes_call (R : WRel C I objs w) (HP : ProcsOk C.E) {o : Oper} {a : Act} {c : Call} (ho : o.op = .call c) {f : FuncId} {p : Proc} (hp : C.E.proc f = some p) {vs : List Value} {fr : Nat} {args : List Val} {out : Out}
    (hv : F2 (VRep I (Dom objs) w (badOf C I objs)) args vs) (h : (callE objs fr p args).den = some out) (hrun : (execOp a.eval o).run C.E.P w = (callFunc f vs.toArray).run C.E.P w) : Goes C I objs w o a out := by
  intro next Q k
  have hps := HP.procs f p hp
  unfold Oper.wp
  rw [hrun, callee_run hps.1, Oper.upon_enter]
  refine (call_of R hps hv h).mono fun e w' he => ?_
  match e, he with
  | .returned v, he => exact k v w' he

end

/-! ### Views, copies, ranging over strings, nil -/
section
variable {C : Ctx} {I : Interp} {objs : Nat → Option Obj} {w : World}

/-- An object without cells, under a new number. -/
theorem newQuiet (R : WRel C I objs w) {fr : Nat} (hfr : objs fr = none) (ob : Obj) (v : Value) (hcell : ∀ (J : Interp) g o, ¬ cellsOf J fr ob g o)
    (hok : ∀ (J : Interp) (dom : Nat → Prop) (bad : Bad), (∀ i, Dom objs i → dom i) → (∀ i, Dom objs i → J.v i = I.v i ∧ J.sz i = I.sz i) → J.v fr = v → ObjOk J dom w bad fr ob) :
    StepOk C I objs w (lf1 (.own fr)) [(fr, ob)] v w ∨ v.oneCell' = false := by
  cases h1 : v.oneCell' with
  | false => exact .inr rfl
  | true =>
  left
  let I' : Interp := ⟨upd I.v fr v, I.sz⟩
  have hne : ∀ id, Dom objs id → id ≠ fr := by
    intro id hd e
    subst e
    simp [Dom, hfr] at hd
  have hI : ∀ id, Dom objs id → I'.v id = I.v id ∧ I'.sz id = I.sz id := fun id hd => ⟨upd_other _ _ _ _ (hne id hd), rfl⟩
  have hdom : ∀ id, Dom objs id → Dom (upd objs fr (some ob)) id := fun id hd => by simp only [Dom, upd_other _ _ _ _ (hne id hd)]; exact hd
  have hU := R.upd (I' := I') (objs' := upd objs fr (some ob)) (w' := w) (fun _ _ => False) (fun id => id = fr) (Fr.refl _ _) (fun _ _ h => h.elim) hI hdom
    (fun id h => upd_other _ _ _ _ h)
    (fun id ob' h ho g o hc => by
      subst h
      rw [upd_same] at ho
      obtain rfl := Option.some.inj ho
      exact absurd hc (hcell _ _ _))
    (fun id id' _ _ _ _ h h' _ _ _ _ => h.trans h'.symm)
    (fun K id ob' h ho => by
      subst h
      rw [upd_same] at ho
      obtain rfl := Option.some.inj ho
      exact hok I' _ _ hdom hI (by simp only [I', upd_same]))
  exact ⟨I', hU.1, hU.2, by simp [Dom, putWr, upd_same], by simp only [I', upd_same], h1⟩

theorem rowVal (R : WRel C I objs w) {r : Nat} {e : TypeId} {ty : Ty} {xs : List (El ty)} (hr : objs r = some (.row e ty xs)) : I.sz r = nleaf ty ∧ ((∃ A, I.v r = .slice A 0 0 ∧ xs = []) ∨ ∃ g b c, I.v r = .slice (some ⟨g, b, none⟩) xs.length c ∧ 0 < c ∧ xs.length ≤ c) := by
  obtain ⟨hs, cells, hrow, ho⟩ := R.ok r _ hr
  refine ⟨hs, ?_⟩
  rcases ho.2 with ⟨A, h1, h2⟩ | ⟨g, b, cap, cur, h0, h1, _, h2, _⟩
  · exact .inl ⟨A, h1, List.eq_nil_of_length_eq_zero h2⟩
  · exact .inr ⟨g, b, cap, h1, h0, h2⟩

theorem viewOut_of (R : WRel C I objs w) {fr : Nat} {t : TypeId} {x : Val} {lo hi : Option Int} {vlo vhi : Option Value} {out : Out} {u : Value} (h : (viewOut objs C.E fr t x lo hi).den = some out) (hlo : BoundIs vlo lo) (hhi : BoundIs vhi hi) (hx : VRep I (Dom objs) w (badOf C I objs) x u) :
    ∃ y, (Instr.sliceAt t u vlo vhi none).run C.E.P w = .ok y w ∧ StepOk C I objs w out.val out.wr y w := by
  unfold viewOut at h
  split at h
  · rename_i r
    split at h
    · rename_i e ty xs hr
      obtain ⟨hf, h⟩ := bif_true h
      rw [Bool.and_eq_true] at hf
      obtain ⟨he, l, hh, hlh, hhn, h1, h2, h3, h4⟩ := cutGrd_of h
      simp only [Eff.den, Option.some.injEq] at he
      subst he
      obtain ⟨e', heu, hn⟩ := bif_some hf.1
      obtain ⟨i, hi', hsz⟩ := info_of_size hn
      obtain ⟨hszr, hval⟩ := rowVal R hr
      have hu : u = I.v r := hx.2.1
      have el : loN lo = l := by
        cases lo with
        | none => exact (h1 rfl).symm
        | some z => exact (h2 z rfl).2
      have eh : hiN xs.length hi = hh := by
        cases hi with
        | none => exact (h3 rfl).symm
        | some z => exact (h4 z rfl).2
      rw [el, eh]
      rcases hval with ⟨A, hv, hxs⟩ | ⟨g, b, c, hv, hc0, hc⟩
      · rw [hv] at hu
        subst hu
        have hx0 : xs.length = 0 := by rw [hxs]; rfl
        have hb := bounds_run C.E.P w (isS := true) (n := 0) (cap := 0) hlo hhi hlh (by omega) (Nat.le_refl _) h1 h2 (fun e => by rw [h3 e]; exact hx0) h4
        refine ⟨_, slice_run C.E.P w heu hi' hb, ?_⟩
        have e0 : l = 0 := by omega
        have e1 : hh = 0 := by omega
        subst e0; subst e1
        rcases newQuiet R (isFree_of hf.2) (.view r 0 (0 - 0)) (.slice A 0 0) (fun _ _ _ h => h) (fun J dom bad hd hJ hv' => ⟨hd r (by simp [Dom, hr]), .inl ⟨A, by rw [(hJ r (by simp [Dom, hr])).1]; exact hv, hv', rfl, rfl⟩⟩) with hq | hq
        · exact hq
        · cases hq
      · rw [hv] at hu
        subst hu
        have hb := bounds_run C.E.P w (isS := true) (n := xs.length) (cap := c) hlo hhi hlh hhn hc h1 h2 h3 h4
        refine ⟨_, slice_run C.E.P w heu hi' hb, ?_⟩
        rw [hsz]
        have key : ∀ o : Nat, (hh - l ≠ 0 → o = b + l * nleaf ty) → StepOk C I objs w (lf1 (.own fr)) [(fr, .view r l (hh - l))] (.slice (some ⟨g, o, none⟩) (hh - l) (c - l)) w := by
          intro o ho
          rcases newQuiet R (isFree_of hf.2) (.view r l (hh - l)) (.slice (some ⟨g, o, none⟩) (hh - l) (c - l)) (fun _ _ _ h => h) (fun J dom bad hd hJ hv' => ⟨hd r (by simp [Dom, hr]), .inr ⟨g, b, xs.length, c, o, c - l, by rw [(hJ r (by simp [Dom, hr])).1]; exact hv, hv', by omega, by omega, fun h => by rw [(hJ r (by simp [Dom, hr])).2, hszr]; exact ho h⟩⟩) with hq | hq
          · exact hq
          · cases hq
        by_cases hcl : c = l
        · rw [if_pos hcl]
          exact key b (fun h => by omega)
        · rw [if_neg hcl]
          simp only [Option.map_some, addr_add]
          exact key _ (fun _ => by omega)
    · cases h
  · cases h

theorem truncOut_of (R : WRel C I objs w) {fr : Nat} {t : TypeId} {x : Val} {lo hi : Option Int} {vlo vhi : Option Value} {out : Out} {u : Value} (h : (truncOut objs C.E fr t x lo hi).den = some out) (hlo : BoundIs vlo lo) (hhi : BoundIs vhi hi) (hx : VRep I (Dom objs) w (badOf C I objs) x u) :
    ∃ y, (Instr.sliceAt t u vlo vhi none).run C.E.P w = .ok y w ∧ StepOk C I objs w out.val out.wr y w := by
  unfold truncOut at h
  split at h
  · rename_i r
    split at h
    · rename_i e ty xs hr
      split at h
      · obtain ⟨hf, h⟩ := bif_true h
        rw [Bool.and_eq_true] at hf
        obtain ⟨he, l, hh, hlh, hhn, h1, h2, h3, h4⟩ := cutGrd_of h
        simp only [Eff.den, Option.some.injEq] at he
        subst he
        obtain ⟨e', heu, hn⟩ := bif_some hf.1
        obtain ⟨i, hi', hsz⟩ := info_of_size hn
        obtain ⟨hszr, cells, hrow, ho⟩ := R.ok r _ hr
        have hu : u = I.v r := hx.2.1
        have e0 : l = 0 := h1 rfl
        subst e0
        have eh : hiN xs.length hi = hh := by
          cases hi with
          | none => exact (h3 rfl).symm
          | some z => exact (h4 z rfl).2
        rw [eh]
        have hlen := hrow.length (CellsOk.length ty)
        have hrow' := hrow.take (CellsOk.length ty) hh
        have htl : (xs.take hh).length = hh := by rw [List.length_take]; omega
        have hgrow : w.grownBy w (oldBlock I (some r)) := ⟨rfl, rfl, rfl, Nat.le_refl _, fun _ _ _ => rfl⟩
        rcases ho.2 with ⟨A, hv, h0⟩ | ⟨g, b, cap, cur, hb0, hv, hhp, hc1, hc2, hcs, htk⟩
        · rw [hv] at hu
          subst hu
          have hb := bounds_run C.E.P w (isS := true) (n := 0) (cap := 0) hlo hhi hlh (by omega) (Nat.le_refl _) h1 h2 (fun e => by rw [h3 e]; exact h0) h4
          refine ⟨_, slice_run C.E.P w heu hi' hb, ?_⟩
          have e1 : hh = 0 := by omega
          subst e1
          refine ownNew R (isFree_of hf.2) (some r) (fun r' hr' => by cases hr'; exact ⟨_, _, _, hr⟩) hgrow (cells := cells.take (0 * nleaf ty)) hrow' ?_ (fun k hk => by rw [ownB_zero] at hk; cases hk)
          rw [htl]
          simpa using OwnRow.zero w e (nleaf ty) A
        · rw [hv] at hu
          subst hu
          have hb := bounds_run C.E.P w (isS := true) (n := xs.length) (cap := cap) hlo hhi hlh hhn hc1 h1 h2 h3 h4
          refine ⟨_, slice_run C.E.P w heu hi' hb, ?_⟩
          have hA : (if cap = 0 then (some ⟨g, b, none⟩ : Option Addr) else (some ⟨g, b, none⟩ : Option Addr).map (·.add (0 * i.size))) = some ⟨g, b, none⟩ := by
            split
            · rfl
            · simp [addr_add]
          rw [hA, Nat.sub_zero, Nat.sub_zero]
          refine ownNew R (isFree_of hf.2) (some r) (fun r' hr' => by cases hr'; exact ⟨_, _, _, hr⟩) hgrow (cells := cells.take (hh * nleaf ty)) hrow' ?_ (fun k hk => .inr ?_)
          · refine ⟨by rw [htl, List.length_take, hlen, Nat.min_eq_left (Nat.mul_le_mul_right _ hhn)], .inr ⟨g, b, cap, cur, hb0, by rw [htl], hhp, by rw [htl]; omega, hc2, hcs, ?_⟩⟩
            rw [htl, ← htk, List.take_take, Nat.min_eq_left (Nat.mul_le_mul_right _ hhn)]
          · rw [ownB_pos hb0] at hk
            obtain rfl := Option.some.inj hk
            simp only [oldBlock, hv, ownB_pos hb0]
      · cases h
    · cases h
  · cases h

theorem frontOut_of (R : WRel C I objs w) {fr : Nat} {t : TypeId} {x : Val} {lo hi : Option Int} {vlo vhi : Option Value} {out : Out} {u : Value} (h : (frontOut objs C.E fr t x lo hi).den = some out) (hlo : BoundIs vlo lo) (hhi : BoundIs vhi hi) (hx : VRep I (Dom objs) w (badOf C I objs) x u) :
    ∃ y, (Instr.sliceAt t u vlo vhi none).run C.E.P w = .ok y w ∧ StepOk C I objs w out.val out.wr y w := by
  unfold frontOut at h
  split at h
  · rename_i r
    split at h
    · rename_i e ty xs hr
      obtain ⟨hf, h⟩ := bif_true h
      rw [Bool.and_eq_true] at hf
      obtain ⟨he, l, hh, hlh, hhn, h1, h2, h3, h4⟩ := cutGrd_of h
      simp only [Eff.den, Option.some.injEq] at he
      subst he
      obtain ⟨e', heu, hn⟩ := bif_some hf.1
      obtain ⟨i, hi', hsz⟩ := info_of_size hn
      obtain ⟨hszr, cells, hrow, ho⟩ := R.ok r _ hr
      have hu : u = I.v r := hx.2.1
      rw [cutList_eq hhn h1 h2 h3 h4]
      have hlen := hrow.length (CellsOk.length ty)
      have hrow' := (hrow.take (CellsOk.length ty) hh).drop (CellsOk.length ty) l
      have htl : ((xs.take hh).drop l).length = hh - l := by rw [List.length_drop, List.length_take]; omega
      have hgrow : w.grownBy w (oldBlock I (some r)) := ⟨rfl, rfl, rfl, Nat.le_refl _, fun _ _ _ => rfl⟩
      have hempty : hh = l → ∀ A, (∀ k, ownB (.slice A 0 0) = some k → w.heap.size ≤ k ∨ oldBlock I (some r) = some k) → StepOk C I objs w (lf1 (.own fr)) [(r, .gone), (fr, .row e ty ((xs.take hh).drop l))] (.slice A 0 0) w := by
        intro e1 A hk
        have hnil : (xs.take hh).drop l = [] := List.eq_nil_of_length_eq_zero (by rw [htl]; omega)
        rw [hnil]
        exact ownNew R (isFree_of hf.2) (some r) (fun r' hr' => by cases hr'; exact ⟨_, _, _, hr⟩) hgrow (cells := []) (by simp [Rows]) (OwnRow.zero w e (nleaf ty) A) hk
      rcases ho.2 with ⟨A, hv, h0⟩ | ⟨g, b, cap, cur, hb0, hv, hhp, hc1, hc2, hcs, htk⟩
      · rw [hv] at hu
        subst hu
        have hb := bounds_run C.E.P w (isS := true) (n := 0) (cap := 0) hlo hhi hlh (by omega) (Nat.le_refl _) h1 h2 (fun e => by rw [h3 e]; exact h0) h4
        refine ⟨_, slice_run C.E.P w heu hi' hb, ?_⟩
        have e0 : l = 0 := by omega
        have e1 : hh = 0 := by omega
        subst e0; subst e1
        exact hempty rfl A (fun k hk => by rw [ownB_zero] at hk; cases hk)
      · rw [hv] at hu
        subst hu
        have hb := bounds_run C.E.P w (isS := true) (n := xs.length) (cap := cap) hlo hhi hlh hhn hc1 h1 h2 h3 h4
        refine ⟨_, slice_run C.E.P w heu hi' hb, ?_⟩
        by_cases hcl : cap = l
        · have e1 : hh = l := by omega
          rw [if_pos hcl, show cap - l = 0 by omega, show hh - l = 0 by omega]
          exact hempty e1 _ (fun k hk => by rw [ownB_zero] at hk; cases hk)
        · rw [if_neg hcl]
          simp only [Option.map_some, addr_add]
          refine ownNew R (isFree_of hf.2) (some r) (fun r' hr' => by cases hr'; exact ⟨_, _, _, hr⟩) hgrow (cells := (cells.take (hh * nleaf ty)).drop (l * nleaf ty)) hrow' ?_ (fun k hk => .inr ?_)
          · have hmul : (hh - l) * nleaf ty = hh * nleaf ty - l * nleaf ty := Nat.sub_mul _ _ _
            have hm1 : l * nleaf ty ≤ hh * nleaf ty := Nat.mul_le_mul_right _ hlh
            have hm2 : hh * nleaf ty ≤ xs.length * nleaf ty := Nat.mul_le_mul_right _ hhn
            have hm3 : xs.length * nleaf ty ≤ cap * nleaf ty := Nat.mul_le_mul_right _ hc1
            have hm4 : (cap - l) * nleaf ty = cap * nleaf ty - l * nleaf ty := Nat.sub_mul _ _ _
            have hm5 : l * nleaf ty ≤ cap * nleaf ty := Nat.mul_le_mul_right _ (by omega)
            refine ⟨by rw [htl, List.length_drop, List.length_take, hlen]; omega, .inr ⟨g, b + l * i.size, cap - l, cur, by omega, by rw [htl], hhp, by rw [htl]; omega, by omega, by rw [hsz]; omega, ?_⟩⟩
            rw [htl, hsz, ← htk, List.take_take, Nat.min_eq_left hm2, List.drop_take, List.drop_drop, hmul]
          · rw [ownB_pos (by omega)] at hk
            obtain rfl := Option.some.inj hk
            simp only [oldBlock, hv, ownB_pos hb0]
    · cases h
  · cases h

/-- What a copy reads from. -/
theorem copySrc_of (R : WRel C I objs w) {x : Leaf} {t : Ty} {ys : List (El t)} {rs : List Nat} {u : Value} (h : copySrc objs x = some (.dat t ys, rs)) (hx : LRep I (Dom objs) w (badOf C I objs) x u) : Src w (badOf C I objs) t ys u := by
  have old : sliceOf objs x = some (.dat t ys, rs) → Src w (badOf C I objs) t ys u := by
    intro h
    rcases sliceOf_of R h hx with ⟨h1, _⟩ | ⟨t2, xs2, h1, hsrc⟩
    · cases h1
    · cases h1
      exact hsrc
  unfold copySrc at h
  split at h
  · rename_i s
    split at h
    · rename_i r lo n hs
      split at h
      · rename_i e t' xs hr
        simp only [Option.some.injEq, Prod.mk.injEq, SD.dat.injEq] at h
        obtain ⟨⟨rfl, h2⟩, _⟩ := h
        obtain rfl := eq_of_heq h2
        obtain ⟨hd, hcase⟩ := R.ok s _ hs
        obtain ⟨hszr, cells, hrow, ho⟩ := R.ok r _ hr
        have hlen := hrow.length (CellsOk.length t')
        rw [hx.2.1]
        rcases hcase with ⟨A', _, hv2, rfl, rfl⟩ | ⟨g2, b2, n0, c0, o, c, hv1, hv2, hnc, hle, hofs⟩
        · exact ⟨A', 0, [], by rw [hv2]; simp, by simp, by simp [Rows], .inl rfl⟩
        rcases ho.2 with ⟨A, hv, h0⟩ | ⟨g, b, cap, cur, hb0, hv, hhp, hc1, hc2, hcs, htk⟩
        · rw [hv] at hv1
          simp only [Value.slice.injEq] at hv1
          have hn0 : n = 0 := by omega
          subst hn0
          exact ⟨some ⟨g2, o, none⟩, c, [], by rw [hv2]; simp, by simp, by simp [Rows], .inl rfl⟩
        · · rw [hv] at hv1
            simp only [Value.slice.injEq, Option.some.injEq, Addr.mk.injEq, and_true] at hv1
            obtain ⟨⟨rfl, rfl⟩, rfl, rfl⟩ := hv1
            have hyl : ((xs.drop lo).take n).length = n := by rw [List.length_take, List.length_drop]; omega
            have hrow' := (hrow.drop (CellsOk.length t') lo).take (CellsOk.length t') n
            refine ⟨some ⟨g, o, none⟩, c, _, by rw [hv2, hyl], by rw [hyl]; omega, hrow', ?_⟩
            by_cases hn0 : n = 0
            · left; subst hn0; simp
            · right
              refine ⟨_, rfl, fun j v hj => ?_⟩
              rw [addr_add, hofs hn0, hszr]
              refine cell_of hhp ?_
              rw [List.getElem?_take] at hj
              split at hj
              · rw [List.getElem?_drop, ← htk, List.getElem?_take] at hj
                split at hj
                · rw [List.getElem?_drop, ← Nat.add_assoc] at hj; simpa using hj
                · cases hj
              · cases hj
      · cases h
    · exact old h
  · exact old h

theorem F2.onesR {l : List Value} (h : l.all Value.oneCell' = true) : ∀ v ∈ l, v.oneCell' = true := fun v hv => List.all_eq_true.1 h v hv

theorem copy_run {P : Program} {t e rt : TypeId} {ts : List TypeId} (ht : P.underlying t = some (.slice e)) {i : TypeInfo} (hi : P.info? e = some i) {A B : Option Addr} {yl yc n cd : Nat} {vs : List Value} {w w' : World}
    (hload : (Builtin.firstCells i.size (Nat.min yl n) (.slice A yl yc)).run P w = .ok vs.toArray w) (hst : ∀ a, B = some a → (storeCells a vs).run P w = .ok () w') (hn : B = none → w' = w) :
    (Builtin.copy_ (t :: ts).toArray rt #[.slice B n cd, .slice A yl yc]).run P w = .ok (goInt (Nat.min yl n)) w' := by
  unfold Builtin.copy_
  generalize hm : Nat.min yl n = m at hload
  cases B with
  | none =>
    rw [hn rfl]
    simp [run_underlying ht, Builtin.lenOf, sizeOf, typeInfo, hi, hm, hload]
  | some a =>
    simp [run_underlying ht, Builtin.lenOf, sizeOf, typeInfo, hi, hm, hload, hst a rfl]

theorem copyE_of (R : WRel C I objs w) {t rt : TypeId} {ts : List TypeId} {d x : Leaf} {out : Out} {v1 v2 : Value} (h : (copyE objs C.E t d x).den = some out) (hd : LRep I (Dom objs) w (badOf C I objs) d v1) (hx : LRep I (Dom objs) w (badOf C I objs) x v2) :
    ∃ y w', (Builtin.copy_ (t :: ts).toArray rt #[v1, v2]).run C.E.P w = .ok y w' ∧ StepOk C I objs w out.val out.wr y w' := by
  unfold copyE at h
  split at h
  · rename_i d
    split at h
    · rename_i r lo n rd t' ys0 rs hdst hsrc
      split at h
      · rename_i e ty xs hr
        split at h
        · rename_i ys hys
          obtain ⟨ety, hys'⟩ := castL_eq hys
          subst ety
          subst hys'
          obtain ⟨hf, h⟩ := bif_true h
          simp only [Eff.den, Option.some.injEq] at h
          subst h
          obtain ⟨e', heu, hn⟩ := bif_some hf
          obtain ⟨i, hi, hsz⟩ := info_of_size hn
          obtain ⟨A, c, es, rfl, hyc, hres, hp⟩ := copySrc_of R hsrc hx
          obtain ⟨hszr, cells, hrow, ho⟩ := R.ok r _ hr
          have hlen := hrow.length (CellsOk.length t')
          have hel := hres.length (CellsOk.length t')
          -- where it goes
          have hdv : ∃ B cd, v1 = .slice B n cd ∧ lo + n ≤ xs.length ∧ (n ≠ 0 → ∃ g b cap cur, 0 < cap ∧ I.v r = .slice (some ⟨g, b, none⟩) xs.length cap ∧ B = some ⟨g, b + lo * nleaf t', none⟩ ∧ w.heap[g]? = some (.cells cur e (0, 0)) ∧ xs.length ≤ cap ∧ cap ≤ maxLen ∧ cur.size = b + cap * nleaf t' ∧ (cur.toList.drop b).take (xs.length * nleaf t') = cells) := by
            have hv1 : v1 = I.v d := hd.2.1
            unfold copyDst at hdst
            split at hdst
            · rename_i e2 t2 xs2 hd2
              simp only [Option.some.injEq, Prod.mk.injEq] at hdst
              obtain ⟨rfl, rfl, rfl, _⟩ := hdst
              rw [hr] at hd2
              simp only [Option.some.injEq, Obj.row.injEq] at hd2
              obtain ⟨rfl, rfl, hxx⟩ := hd2
              obtain rfl := eq_of_heq hxx
              rcases ho.2 with ⟨A, hv, h0⟩ | ⟨g, b, cap, cur, hb0, hv, hhp, hc1, hc2, hcs, htk⟩
              · exact ⟨A, 0, by rw [hv1, hv, h0], by omega, fun hne => absurd h0 hne⟩
              · exact ⟨_, cap, by rw [hv1, hv], by omega, fun _ => ⟨g, b, cap, cur, hb0, hv, by rw [Nat.zero_mul, Nat.add_zero], hhp, hc1, hc2, hcs, htk⟩⟩
            · rename_i r2 lo2 n2 hd2
              simp only [Option.some.injEq, Prod.mk.injEq] at hdst
              obtain ⟨rfl, rfl, rfl, _⟩ := hdst
              obtain ⟨_, hcase⟩ := R.ok d _ hd2
              rcases hcase with ⟨A', _, hv2, rfl, rfl⟩ | ⟨g2, b2, n0, c0, o, c, hv2, hv3, hnc, hle, hofs⟩
              · exact ⟨A', 0, by rw [hv1, hv2], by omega, fun hne => absurd rfl hne⟩
              rcases ho.2 with ⟨A, hv, h0⟩ | ⟨g, b, cap, cur, hb0, hv, hhp, hc1, hc2, hcs, htk⟩
              · rw [hv] at hv2
                simp only [Value.slice.injEq] at hv2
                exact ⟨_, c, by rw [hv1, hv3], by omega, fun hne => absurd hne (by omega)⟩
              · · rw [hv] at hv2
                  simp only [Value.slice.injEq, Option.some.injEq, Addr.mk.injEq, and_true] at hv2
                  obtain ⟨⟨rfl, rfl⟩, rfl, rfl⟩ := hv2
                  exact ⟨_, c, by rw [hv1, hv3], hle, fun hne => ⟨g, b, cap, cur, hb0, hv, by rw [hofs hne, hszr], hhp, hc1, hc2, hcs, htk⟩⟩
            · cases hdst
          obtain ⟨B, cd, rfl, hfit, hplace⟩ := hdv
          generalize hm : Nat.min ys.length n = m
          have hmn : m ≤ n := by rw [← hm]; exact Nat.min_le_right _ _
          have hmy : m ≤ ys.length := by rw [← hm]; exact Nat.min_le_left _ _
          have htake : es.take (n * nleaf t') = es.take (m * nleaf t') := by
            rcases Nat.le_total ys.length n with h1 | h1
            · have : m = ys.length := by rw [← hm]; exact Nat.min_eq_left h1
              rw [this, ← hel, List.take_length, List.take_of_length_le (by rw [hel]; exact Nat.mul_le_mul_right _ h1)]
            · have : m = n := by rw [← hm]; exact Nat.min_eq_right h1
              rw [this]
          have hcl : (es.take (m * nleaf t')).length = m * nleaf t' := by rw [List.length_take, hel, Nat.min_eq_left (Nat.mul_le_mul_right _ hmy)]
          have hload : (Builtin.firstCells i.size m (.slice A ys.length c)).run C.E.P w = .ok (es.take (m * nleaf t')).toArray w := by
            cases A with
            | none =>
              have he0 : es = [] := by
                rcases hp with hp | ⟨ad, hp, _⟩
                · exact hp
                · cases hp
              simp [Builtin.firstCells, he0]
            | some ad =>
              have hcell : ∀ j v, (es.take (m * nleaf t'))[j]? = some v → w.cell? (ad.add j) = some v := by
                intro j v hj
                rw [List.getElem?_take] at hj
                split at hj
                · rcases hp with hp | ⟨ad', hp, hrw⟩
                  · rw [hp] at hj; simp at hj
                  · cases hp
                    exact hrw j v hj
                · cases hj
              have := run_loadCells_list (P := C.E.P) w ad _ hcell
              rw [hcl] at this
              simpa [Builtin.firstCells, hsz] using this
          have hones : ∀ v ∈ es.take (m * nleaf t'), v.oneCell' = true := fun v hv => hres.one v (List.mem_of_mem_take hv)
          by_cases hm0 : m = 0
          · refine ⟨goInt 0, w, ?_, ?_⟩
            · have := copy_run (P := C.E.P) (ts := ts) (rt := rt) heu hi (A := A) (B := B) (yl := ys.length) (yc := c) (n := n) (cd := cd) (vs := es.take (m * nleaf t')) (w := w) (w' := w) (by rw [hm]; exact hload) (fun a ha => by rw [hm0, Nat.zero_mul, List.take_zero]; simp [storeCells]) (fun _ => rfl)
              rw [hm, hm0] at this
              exact this
            · have hsame : putWr objs [(r, Obj.row e t' (xs.take lo ++ (ys.take n ++ xs.drop (lo + m))))] = objs := by
                have : ys.take n = [] := by
                  rcases Nat.eq_zero_or_pos n with h1 | h1
                  · rw [h1, List.take_zero]
                  · have : ys.length = 0 := by
                      rw [← hm] at hm0
                      have h4 : min ys.length n = 0 := hm0
                      omega
                    rw [List.eq_nil_of_length_eq_zero this]; simp
                rw [this, hm0, Nat.add_zero, List.nil_append, List.take_append_drop]
                funext q
                by_cases hq : q = r
                · subst hq; rw [putWr, putWr, upd_same, hr]
                · rw [putWr, putWr, upd_other _ _ _ _ hq]
              unfold StepOk
              rw [hsame]
              exact ⟨I, R, Keep.refl _ _ _ _, by rw [hm0]; exact ⟨rfl, rfl⟩⟩
          · obtain ⟨g, b, cap, cur, hb0, hv, rfl, hhp, hc1, hc2, hcs, htk⟩ := hplace (by omega)
            have hpos := nleaf_pos t'
            have hbig : lo * nleaf t' + m * nleaf t' ≤ xs.length * nleaf t' := by
              rw [← Nat.add_mul]
              exact Nat.mul_le_mul_right _ (by omega)
            have hcapb : xs.length * nleaf t' ≤ cap * nleaf t' := Nat.mul_le_mul_right _ hc1
            obtain ⟨c', w', hst, g2, g3, g4, g5, g6, g7, g8, g9⟩ := storeCells_run C.E.P g e (es.take (m * nleaf t')) (b + lo * nleaf t') 0 cur w hhp (by rw [hcl]; omega) hones
            rw [hcl] at g4
            refine ⟨goInt m, w', ?_, I, ?_⟩
            · have := copy_run (P := C.E.P) (ts := ts) (rt := rt) heu hi (A := A) (B := some ⟨g, b + lo * nleaf t', none⟩) (yl := ys.length) (yc := c) (n := n) (cd := cd) (vs := es.take (m * nleaf t')) (w := w) (w' := w') (by rw [hm]; exact hload) (fun a ha => by cases ha; exact hst) (fun h => by cases h)
              rw [hm] at this
              exact this
            · have hR1 := hrow.take (CellsOk.length t') lo
              have hR2 := (hres.take (CellsOk.length t') n)
              have hR3 := hrow.drop (CellsOk.length t') (lo + m)
              rw [htake] at hR2
              have hnew := hR1.append (hR2.append hR3)
              have hylen : (ys.take n).length = m := by rw [List.length_take, ← hm]; exact Nat.min_comm _ _
              have hxl : (xs.take lo ++ (ys.take n ++ xs.drop (lo + m))).length = xs.length := by
                simp only [List.length_append, List.length_take, List.length_drop, hylen]
                have := Nat.min_comm n ys.length
                simp only [List.length_take] at hylen
                omega
              have hU := R.upd (I' := I) (objs' := upd objs r (some (.row e t' (xs.take lo ++ (ys.take n ++ xs.drop (lo + m)))))) (w' := w') (fun g1 o1 => g1 = g ∧ b + lo * nleaf t' ≤ o1 ∧ o1 < b + lo * nleaf t' + m * nleaf t') (fun id => id = r)
                ⟨g5, g6, g7, by omega, fun k hk => by
                  by_cases hkg : k = g
                  · subst hkg
                    refine .inr (.inr ⟨cur, c', e, _, hhp, g2, g3, fun j hj => ?_⟩)
                    rw [g4 j, if_neg (fun hh => hj ⟨rfl, by omega, by omega⟩)]
                  · exact .inr (.inl (g9 k hkg))⟩
                (fun g1 o1 ⟨e1, e2, e3⟩ => ⟨r, _, rfl, hr, b, xs.length, cap, hb0, by subst e1; exact hv⟩)
                (fun _ _ => ⟨rfl, rfl⟩) (fun id hd => dom_upd hd) (fun id h => upd_other _ _ _ _ h)
                (fun id ob' h ho1 g1 o1 hcell1 => by
                  subst h
                  rw [upd_same] at ho1
                  obtain rfl := Option.some.inj ho1
                  have hmut : cellsOf I id (.row e t' xs) g1 o1 := hcell1
                  exact ⟨.inl ⟨id, _, rfl, hr, hmut⟩, by rw [g8]; exact R.lt g1 o1 ⟨id, _, hr, hmut⟩⟩)
                (fun id id' _ _ _ _ h h' _ _ _ _ => h.trans h'.symm)
                (fun K id ob' h ho1 => by
                  subst h
                  rw [upd_same] at ho1
                  obtain rfl := Option.some.inj ho1
                  refine ⟨hszr, _, hnew.imp (fun x c => CellsOk.mono K.ha t' x c), ?_, .inr ⟨g, b, cap, c', hb0, by rw [hv, hxl], g2, by rw [hxl]; exact hc1, hc2, by rw [g3]; exact hcs, ?_⟩⟩
                  · rw [hxl]
                    simp only [List.length_append, List.length_take, List.length_drop, hlen, hel, Nat.add_mul]
                    rw [Nat.min_eq_left (by omega), Nat.min_eq_left (Nat.mul_le_mul_right _ hmy)]
                    omega
                  · rw [hxl]
                    apply List.ext_getElem?
                    intro k
                    have hcellk : k < xs.length * nleaf t' → cells[k]? = cur[b + k]? := by
                      intro hk
                      rw [← htk, List.getElem?_take, if_pos hk, List.getElem?_drop]
                      simp
                    have hl1 : (cells.take (lo * nleaf t')).length = lo * nleaf t' := by rw [List.length_take, hlen]; exact Nat.min_eq_left (by omega)
                    rw [List.getElem?_take]
                    by_cases hk : k < xs.length * nleaf t'
                    · rw [if_pos hk, List.getElem?_drop, Array.getElem?_toList, g4 (b + k), Nat.add_zero]
                      by_cases hk1 : k < lo * nleaf t'
                      · rw [if_neg (by omega), List.getElem?_append_left (by rw [hl1]; exact hk1), List.getElem?_take, if_pos hk1, hcellk hk]
                      · rw [List.getElem?_append_right (by rw [hl1]; omega), hl1]
                        by_cases hk2 : k < lo * nleaf t' + m * nleaf t'
                        · rw [if_pos ⟨by omega, by omega⟩, List.getElem?_append_left (by rw [hcl]; omega), show b + k - (b + lo * nleaf t') = k - lo * nleaf t' by omega]
                        · rw [if_neg (by omega), List.getElem?_append_right (by rw [hcl]; omega), hcl, List.getElem?_drop, Nat.add_mul, show lo * nleaf t' + m * nleaf t' + (k - lo * nleaf t' - m * nleaf t') = k by omega, hcellk hk]
                    · rw [if_neg hk, List.getElem?_eq_none]
                      simp only [List.length_append, List.length_take, List.length_drop, hlen, hel, Nat.add_mul]
                      rw [Nat.min_eq_left (by omega), Nat.min_eq_left (Nat.mul_le_mul_right _ hmy)]
                      omega)
              exact ⟨hU.1, hU.2, ⟨rfl, rfl⟩⟩
        · cases h
      · cases h
    · cases h
  · cases h

/-- A slice that has elements is not nil. -/
theorem nilCmp_of (R : WRel C I objs w) {t : TypeId} {op : BinOp} {n : Nat} {rd : List Nat} {u v : Value} {out : Out} (h : (nilCmp C.E t op n rd u).den = some out) (hv : 0 < n → ∃ a m c, v = .slice (some a) m c) (hs : ∃ A m c, v = .slice A m c) (x y : Operand) :
    ∃ b q, (do eqGuard op t x y v u; Go.binOp op t v u : Sem Value).run C.E.P w = .ok (.bool b) w ∧ out = ⟨lf1 (.ub q n), rd, []⟩ ∧ (n ≠ 0 → b = q) := by
  unfold nilCmp at h
  obtain ⟨hc, h2⟩ := bif_true h
  clear h
  have h := h2
  clear h2
  rw [Bool.and_eq_true] at hc
  have hu := isNil_of hc.1
  subst hu
  obtain ⟨e, he⟩ := Option.isSome_iff_exists.1 hc.2
  have ht := sliceElem_of he
  have heq : ∃ b, (Op.equal t v (.slice none 0 0)).run C.E.P w = .ok b w ∧ (n ≠ 0 → b = false) := by
    obtain ⟨A, m, c, rfl⟩ := hs
    have key : (Op.equalIn Op.maxDepth t (.slice A m c) (.slice none 0 0)).run C.E.P w = .ok A.isNone w := by
      rw [show Op.maxDepth = (Op.maxDepth - 1) + 1 from by decide]
      cases A <;> simp only [Op.equalIn, Sem.run_bind, run_underlying ht, Result.andThen_ok, Sem.run_pure] <;> rfl
    refine ⟨A.isNone, key, fun hn => ?_⟩
    obtain ⟨a, m', c', hv'⟩ := hv (by omega)
    injection hv' with hv' _ _
    rw [hv']
    rfl
  have hg : ∀ op', (eqGuard op' t x y v (.slice none 0 0)).run C.E.P w = .ok () w := by
    intro op'
    obtain ⟨A, m, c, rfl⟩ := hs
    unfold eqGuard
    cases op' <;> simp
  obtain ⟨b, h1, h2⟩ := heq
  split at h
  · simp only [Eff.den, Option.some.injEq] at h
    exact ⟨b, false, by rw [Sem.run_bind, hg]; simp [binOp, h1], h.symm, h2⟩
  · simp only [Eff.den, Option.some.injEq] at h
    exact ⟨!b, true, by rw [Sem.run_bind, hg]; simp [binOp, h1], h.symm, fun hn => by rw [h2 hn]; rfl⟩
  · cases h

theorem dat_addr {bad : Bad} {t : Ty} {xs : List (El t)} {v : Value} (h : CellsOk w bad (.slc t) xs [v]) (h0 : 0 < xs.length) : ∃ a m c, v = .slice (some a) m c := by
  obtain ⟨A, c, es, e, hc, hr, hp⟩ := h
  simp only [List.cons.injEq, and_true] at e
  rcases hp with hp | ⟨ad, rfl, _⟩
  · have := hr.length (CellsOk.length t)
    rw [hp] at this
    have h2 := Nat.mul_pos h0 (nleaf_pos t)
    simp at this
    omega
  · exact ⟨ad, _, _, e⟩

/-! ### Ranging over a string -/
theorem rangeE_of (R : WRel C I objs w) {fr : Nat} (hfr : objs fr = none) {t : TypeId} {s : ByteArray} (ht : isStrT C.E.P t = true) :
    ∃ y w', (Instr.range t (.string s)).run C.E.P w = .ok y w' ∧ StepOk C I objs w (lf1 (.bp fr 0)) [(fr, .iter s 0)] y w' := by
  let I' : Interp := ⟨upd I.v fr (.pointer (some ⟨w.heap.size, 0, none⟩)), I.sz⟩
  have hne : ∀ id, Dom objs id → id ≠ fr := by
    intro id hd e
    subst e
    simp [Dom, hfr] at hd
  refine ⟨.pointer (some ⟨w.heap.size, 0, none⟩), w.alloc (.stringIter s 0), ?_, ?_⟩
  · simp [Instr.range, run_underlying (isStrT_of ht)]
  have hU := R.upd (I' := I') (objs' := upd objs fr (some (.iter s 0))) (w' := w.alloc (.stringIter s 0)) (fun _ _ => False) (fun id => id = fr)
    ⟨rfl, rfl, rfl, by simp, fun g hg => .inr (.inl (RowKit.Below.heap_alloc w _ g hg))⟩
    (fun _ _ h => h.elim)
    (fun id hd => ⟨upd_other _ _ _ _ (hne id hd), rfl⟩)
    (fun id hd => by simp only [Dom, upd_other _ _ _ _ (hne id hd)]; exact hd)
    (fun id h => upd_other _ _ _ _ h)
    (fun id ob' h ho g o hc => by
      subst h
      rw [upd_same] at ho
      obtain rfl := Option.some.inj ho
      obtain ⟨o0, hv⟩ := hc
      simp only [I', upd_same, Value.pointer.injEq, Option.some.injEq, Addr.mk.injEq] at hv
      refine ⟨.inr (by omega), by simp; omega⟩)
    (fun id id' _ _ _ _ h h' _ _ _ _ => h.trans h'.symm)
    (fun K id ob' h ho => by
      subst h
      rw [upd_same] at ho
      obtain rfl := Option.some.inj ho
      exact ⟨w.heap.size, 0, by simp only [I', upd_same], rfl, heap_alloc_new w _⟩)
  refine ⟨I', hU.1, hU.2, ?_, w.heap.size, 0, by simp only [I', upd_same], rfl⟩
  simp [Dom, putWr, upd_same]

theorem nextE_of (R : WRel C I objs w) {b : Nat} {s : ByteArray} {p : Int} (hb : objs b = some (.iter s p)) {u : Value} (hu : LRep I (Dom objs) w (badOf C I objs) (.bp b 0) u) (ty : TypeId) :
    (p < (s.size : Int) → ∃ y w', (Instr.next u true ty).run C.E.P w = .ok y w' ∧ StepOk C I objs w (.tup [.lf (dv (.bool true)), .lf (dv (.int .i64 p)), .lf (dv (.int .i32 (rnC s p)))]) [(b, .iter s (p + rnW s p))] y w') ∧
    (¬ p < (s.size : Int) → ∃ y, (Instr.next u true ty).run C.E.P w = .ok y w ∧ StepOk C I objs w (.tup [.lf (dv (.bool false))]) [] y w) := by
  obtain ⟨g, k, hv, hp, hh⟩ := R.ok b _ hb
  subst hp
  obtain ⟨hd, g', o', hv', rfl⟩ := hu
  rw [hv] at hv'
  simp only [Value.pointer.injEq, Option.some.injEq, Addr.mk.injEq, and_true] at hv'
  obtain ⟨rfl, rfl⟩ := hv'
  have hg : g < w.heap.size := (Array.getElem?_eq_some_iff.1 hh).1
  constructor
  · intro hlt
    have hlt' : k < s.size := by omega
    refine ⟨.tuple #[.bool true, goInt k, .int .i32 ((Utf8.decode s k).1 : Nat)], { w with heap := w.heap.setIfInBounds g (.stringIter s (k + (Utf8.decode s k).2)) }, ?_, ?_⟩
    · simp only [Instr.next, getObj, setObj, Sem.run_bind, Sem.run, hh, Result.andThen, hlt', if_true]
      simp [goInt, Sem.run, hh, hg]
    · have hnew : (w.heap.setIfInBounds g (.stringIter s (k + (Utf8.decode s k).2)))[g]? = some (.stringIter s (k + (Utf8.decode s k).2)) := by
        rw [Array.getElem?_setIfInBounds_self_of_lt hg]
      have hU := R.upd (I' := I) (objs' := upd objs b (some (.iter s ((k : Int) + rnW s k)))) (w' := { w with heap := w.heap.setIfInBounds g (.stringIter s (k + (Utf8.decode s k).2)) }) (fun g1 _ => g1 = g) (fun id => id = b)
        ⟨rfl, rfl, rfl, by simp, fun q hq => by
          by_cases e : q = g
          · exact .inl fun _ => e
          · exact .inr (.inl (by simp only []; rw [Array.getElem?_setIfInBounds_ne (fun h => e h.symm)]))⟩
        (fun g1 o1 e => ⟨b, _, rfl, hb, 0, by subst e; exact hv⟩)
        (fun _ _ => ⟨rfl, rfl⟩) (fun id hd => dom_upd hd) (fun id h => upd_other _ _ _ _ h)
        (fun id ob' h ho1 g1 o1 hc => by
          subst h
          rw [upd_same] at ho1
          obtain rfl := Option.some.inj ho1
          refine ⟨.inl ⟨id, _, rfl, hb, hc⟩, ?_⟩
          have := R.lt g1 o1 ⟨id, _, hb, hc⟩
          simpa using this)
        (fun id id' _ _ _ _ h h' _ _ _ _ => h.trans h'.symm)
        (fun K id ob' h ho1 => by
          subst h
          rw [upd_same] at ho1
          obtain rfl := Option.some.inj ho1
          exact ⟨g, k + (Utf8.decode s k).2, hv, by simp [rnW], hnew⟩)
      exact ⟨I, hU.1, hU.2, [_, _, _], by simp [rnC, goInt], ⟨⟨rfl, rfl⟩, ⟨rfl, rfl⟩, ⟨rfl, rfl⟩, trivial⟩⟩
  · intro hlt
    have hlt' : ¬ k < s.size := by omega
    refine ⟨.tuple #[.bool false], ?_, I, R, Keep.refl _ _ _ _, [_], rfl, ⟨rfl, rfl⟩, trivial⟩
    simp [Instr.next, getObj, Sem.run, hh, hlt']

/-! ### Bytes as a string -/
theorem bytes_loop {P : Program} {w : World} {f : Value → ByteArray → Sem (ForInStep ByteArray)} (hf : ∀ n s, f (.int .u8 n) s = pure (.yield (s.push (UInt8.ofNat n.toNat)))) :
    ∀ (xs : List Int) (s : ByteArray), (forIn (xs.map (Value.int .u8)) s f).run P w = .ok ⟨s.data ++ (xs.map fun n => UInt8.ofNat n.toNat).toArray⟩ w
  | [], s => by simp
  | x :: xs, s => by
    simp only [List.map_cons, List.forIn_cons, hf, Sem.run_bind, Sem.run_pure, Result.andThen_ok]
    rw [bytes_loop hf xs]
    simp [ByteArray.push]
theorem rows_bytes {bad : Bad} : ∀ {xs : List Int} {es : List Value}, Rows (CellsOk w bad (.int .u8)) xs es → es = xs.map (Value.int .u8)
  | [], es, h => h
  | x :: xs, es, ⟨c1, c2, e, a, b⟩ => by rw [e, show c1 = _ from a, rows_bytes b]; rfl
theorem bytesToString_run {P : Program} {bad : Bad} {xs : List Int} {v : Value} (h : Src w bad (.int .u8) xs v) : (Conv.bytesToString v).run P w = .ok (.string (bytesS xs)) w := by
  obtain ⟨A, c, es, rfl, hc, hr, hp⟩ := h
  have hes := rows_bytes hr
  have nil : xs = [] → bytesS xs = .empty := fun e => by subst e; rfl
  cases A with
  | none =>
    have he0 : es = [] := by
      rcases hp with hp | ⟨ad, hp, _⟩
      · exact hp
      · cases hp
    have hx : xs = [] := by rw [he0] at hes; exact List.map_eq_nil_iff.1 hes.symm
    rw [nil hx]
    simp [Conv.bytesToString]
  | some a =>
    have hcell : ∀ j v, es[j]? = some v → w.cell? (a.add j) = some v := by
      rcases hp with hp | ⟨ad, hp, hrow⟩
      · subst hp; intro j v hj; simp at hj
      · cases hp; exact hrow
    have hl := run_loadCells_list (P := P) w a es hcell
    have hlen : es.length = xs.length := by rw [hes, List.length_map]
    rw [hlen] at hl
    have hloop := bytes_loop (P := P) (w := w) (f := fun c s => (match c with | .int .u8 n => pure (.yield (s.push (UInt8.ofNat n.toNat))) | _ => stuck "bytesToString: byte expected")) (fun _ _ => rfl) xs .empty
    unfold Conv.bytesToString
    simp only [Sem.run_bind, hl, Result.andThen_ok]
    rw [hes, List.forIn_toArray]
    refine (congrArg (fun r => Result.andThen r _) (Eq.trans ?_ hloop)).trans ?_
    · congr 1
    · simp [bytesS, ByteArray.empty, ByteArray.emptyWithCapacity]
      rfl
theorem bytesOut_of (R : WRel C I objs w) {s t : TypeId} {l : Leaf} {out : Out} {v : Value} (h : (bytesOut objs C.E.P s t l).den = some out) (hl : LRep I (Dom objs) w (badOf C I objs) l v) :
    ∃ y rs, (Go.convert s t v).run C.E.P w = .ok (.string y) w ∧ out = ⟨sc (.string y), rs, []⟩ := by
  unfold bytesOut at h
  split at h
  · rename_i t' xs rs hsl
    split at h
    · rename_i ys hys
      obtain ⟨et, hys'⟩ := castL_eq hys
      subst et
      subst hys'
      obtain ⟨hc, h⟩ := bif_true h
      rw [Bool.and_eq_true] at hc
      simp only [Eff.den, Option.some.injEq] at h
      subst h
      rcases sliceOf_of R hsl hl with ⟨h1, _⟩ | ⟨t2, xs2, h1, hsrc⟩
      · cases h1
      · cases h1
        refine ⟨_, rs, ?_, rfl⟩
        have hb := hc.1
        unfold isByteS at hb
        split at hb
        · rename_i e hu
          split at hb
          · rename_i hue
            have hrun := bytesToString_run (P := C.E.P) hsrc
            have hut := isStrT_of hc.2
            obtain ⟨A, c, es, rfl, _⟩ := hsrc
            simp [Go.convert, run_underlying hu, run_underlying hut, run_underlying hue, hrun]
          · cases hb
        · cases hb
    · cases h
  · cases h
/-! ### Elements at the place of an array -/
theorem flatL_of {bad : Bad} {t : Ty} {xs : List (El t)} {cs : List Value} (hr : Rows (CellsOk w bad t) xs cs) : ∀ (n i : Nat), i + n ≤ xs.length → F2 (DRep w bad) (flatL t xs i n) ((cs.drop (i * nleaf t)).take (n * nleaf t))
  | 0, i, _ => by simp [flatL, F2]
  | n + 1, i, h => by
    have h1 := leaves_of t _ _ (hr.get (CellsOk.length t) i _ (getD_of (dflt t) (show i < xs.length by omega)))
    have h2 := flatL_of hr n (i + 1) (by omega)
    have := h1.append h2
    refine Eq.mp (congrArg _ ?_) this
    rw [Nat.succ_mul n, Nat.add_comm (n * nleaf t), List.take_add, List.drop_drop, Nat.succ_mul i]

theorem arrPtr_of (R : WRel C I objs w) {t : TypeId} {x : Val} {out : Out} {u : Value} (h : (arrPtrE objs C.E.P t x).den = some out) (hx : VRep I (Dom objs) w (badOf C I objs) x u) :
    ∃ y, (Instr.arrayAt t u).run C.E.P w = .ok y w ∧ StepOk C I objs w out.val out.wr y w := by
  unfold arrPtrE at h
  split at h
  · rename_i l
    split at h
    · rename_i n e ty xs rs ha hd
      obtain ⟨hb, h⟩ := bif_true h
      rw [Bool.and_eq_true] at hb
      obtain ⟨hle, h⟩ := grd_of h
      simp only [Eff.den, Option.some.injEq] at h
      subst h
      obtain ⟨hu, i, hi, hsz⟩ := arrElem_of ha
      obtain ⟨hF, R1, K1, hz1, hz2⟩ := freezes_self R rs
      have hrep := dOf_of R1 K1 hF hd hz1 hx
      have hn1 := Nat.le_of_ble_eq_true hb.2
      have hle' : n ≤ xs.length := of_decide_eq_true hle
      obtain ⟨A, c, es, hue, hc, hr, hp⟩ := hrep
      have hlen := hr.length (CellsOk.length ty)
      have hue' : u = .slice A xs.length c := by simpa using hue
      subst hue'
      rcases hp with hp | ⟨ad, rfl, hrow⟩
      · rw [hp] at hlen
        have := Nat.mul_pos (show 0 < xs.length by omega) (nleaf_pos ty)
        simp at hlen
        omega
      · refine ⟨.pointer (some ad), ?_, I, R1, K1, ad, _, rfl, flatL_of hr n 0 (by omega), ?_⟩
        · simp [Instr.arrayAt, run_underlying hu, show ¬ xs.length < n by omega]
        · rw [Nat.zero_mul, List.drop_zero]
          exact hrow.take _
    · cases h
  · cases h

/-! ### Maps with texts as keys -/
theorem bif_opt {α : Type} {b : Bool} {x : Option α} {r : α} (h : (bif b then x else none) = some r) : b = true ∧ x = some r := by
  cases b
  · cases h
  · exact ⟨rfl, h⟩
theorem mapElem_of {E : Env} {t e : TypeId} {ty : Ty} (h : mapElem E t = some (e, ty)) : ∃ k, E.P.underlying t = some (.map k e) ∧ E.P.underlying k = some .string ∧ single ty = true := by
  unfold mapElem at h
  split at h
  · rename_i k e' hu
    split at h
    · rename_i ty' hty
      obtain ⟨hc, h⟩ := bif_opt h
      rw [Bool.and_eq_true] at hc
      simp only [Option.some.injEq, Prod.mk.injEq] at h
      obtain ⟨rfl, rfl⟩ := h
      exact ⟨k, hu, isStrT_of hc.1, hc.2⟩
    · cases h
  · cases h

def MapsTo (w : World) (bad : Bad) (t : Ty) (p : ByteArray × El t) (e : MapEntry) : Prop := e.key = .string p.1 ∧ CellsOk w bad t p.2 [e.val]

theorem eqS_iff (a b : ByteArray) : eqS a b = (a == b) := (beq_toListBytes a b).symm
theorem bytes_ext {a b : ByteArray} (h : a.toList = b.toList) : a = b := by
  rw [ByteArray.toList_eq, ByteArray.toList_eq] at h
  exact ByteArray.ext (Array.toList_inj.mp h)
theorem eqS_eq {a b : ByteArray} (h : eqS a b = true) : a = b := bytes_ext (eq_of_beq h)
theorem eqS_refl (a : ByteArray) : eqS a a = true := by simp [eqS]

theorem findNow_of {bad : Bad} {t : Ty} (s : ByteArray) : ∀ {ms : List (ByteArray × El t)} {es : List MapEntry} (i : Nat), F2 (MapsTo w bad t) ms es →
    (getM s ms = none ∧ Instr.findNow .string (.string s) es i = some none ∧ ∀ y, setM s y ms = ms ++ [(s, y)]) ∨
    ∃ x j e, getM s ms = some x ∧ es[j]? = some e ∧ e.key = .string s ∧ CellsOk w bad t x [e.val] ∧ Instr.findNow .string (.string s) es i = some (some (i + j, e.val)) ∧
      ∀ (y : El t) (v : Value), CellsOk w bad t y [v] → F2 (MapsTo w bad t) (setM s y ms) (es.modify j fun e => { e with key := .string s, val := v })
  | [], [], i, _ => .inl ⟨rfl, rfl, fun _ => rfl⟩
  | [], _ :: _, _, h => h.elim
  | _ :: _, [], _, h => h.elim
  | p :: ms, e :: es, i, h => by
    obtain ⟨hk, hv⟩ := h.1
    have hsame : Instr.sameNow .string (.string s) e.key = some (s == p.1) := by rw [hk]; rfl
    cases hb : eqS s p.1 with
    | true =>
      have hb' : (s == p.1) = true := by rw [← eqS_iff]; exact hb
      have e1 : s = p.1 := eqS_eq hb
      right
      refine ⟨p.2, 0, e, by simp [getM, hb], rfl, by rw [hk, e1], hv, ?_, fun y v hy => ?_⟩
      · unfold Instr.findNow
        rw [hsame, hb']
        rfl
      · simp only [setM, hb, cond_true]
        refine ⟨⟨rfl, hy⟩, ?_⟩
        exact h.2
    | false =>
      have hb' : (s == p.1) = false := by rw [← eqS_iff]; exact hb
      have hfn : Instr.findNow .string (.string s) (e :: es) i = Instr.findNow .string (.string s) es (i + 1) := by
        rw [Instr.findNow, hsame, hb']
      rcases findNow_of s (i + 1) h.2 with ⟨h1, h2, h3⟩ | ⟨x, j, e', h1, h2, h3, h4, h5, h6⟩
      · left
        refine ⟨by simp [getM, hb, h1], by rw [hfn, h2], fun y => by simp [setM, hb, h3]⟩
      · right
        refine ⟨x, j + 1, e', by simp [getM, hb, h1], by simpa using h2, h3, h4, by rw [hfn, h5, Nat.add_assoc, Nat.add_comm 1], fun y v hy => ?_⟩
        simp only [setM, hb, cond_false]
        exact ⟨⟨hk, hv⟩, h6 y v hy⟩

theorem checkKey_run {P : Program} {w : World} {t : TypeId} (ht : P.underlying t = some .string) (b : Bool) (n : Nat) (s : ByteArray) : (Instr.checkKey b (n + 1) t (.string s)).run P w = .ok () w := by
  simp [Instr.checkKey, run_underlying ht]
theorem findKey_run {P : Program} {w : World} {t : TypeId} (ht : P.underlying t = some .string) {v : Value} {es : List MapEntry} {r : Option (Nat × Value)} (h : Instr.findNow .string v es 0 = some r) : (Instr.findKey t v es).run P w = .ok r w := by
  simp [Instr.findKey, run_underlying ht, h]

theorem scLeaf_of {bad : Bad} {t : Ty} (hs : single t = true) {x : El t} {v : Value} (h : CellsOk w bad t x [v]) : DRep w bad (scLeaf t x) v := by
  cases t with
  | slc t' => exact h
  | int k => exact ⟨(List.cons.inj h).1, rfl⟩
  | bool => exact ⟨(List.cons.inj h).1, rfl⟩
  | str => exact ⟨(List.cons.inj h).1, rfl⟩
  | pair a b => cases hs
theorem zeroOne_of {P : Program} {t : TypeId} {z : Value} (h : zeroOne P t = some z) : (∃ i, P.info? t = some i ∧ i.zero = some z) ∧ z.oneCell' = true := by
  unfold zeroOne at h
  split at h
  · rename_i i hi
    split at h
    · rename_i z' hz
      obtain ⟨hc, h⟩ := bif_opt h
      obtain rfl := Option.some.inj h
      exact ⟨⟨i, hi, hz⟩, hc⟩
    · cases h
  · cases h
theorem zeroValue_run {P : Program} {w : World} {t : TypeId} {i : TypeInfo} {z : Value} (hi : P.info? t = some i) (hz : i.zero = some z) : (zeroValue t).run P w = .ok z w := by
  simp [zeroValue, typeInfo, hi, hz]

theorem lookup_of (R : WRel C I objs w) {t : TypeId} {m k : Val} {ok : Bool} {out : Out} {u v : Value} (h : (lookupE objs C.E t m k ok).den = some out) (hm : VRep I (Dom objs) w (badOf C I objs) m u) (hk : VRep I (Dom objs) w (badOf C I objs) k v) :
    ∃ y, (Instr.lookup t u v ok).run C.E.P w = .ok y w ∧ StepOk C I objs w out.val out.wr y w := by
  unfold lookupE at h
  split at h
  · rename_i r s
    split at h
    · rename_i ty ms e ty' hr hme
      split at h
      · rename_i ms' l hcm hz
        obtain ⟨et, hms⟩ := castM_eq hcm
        subst et
        subst hms
        split at h
        · rename_i z hzl
          obtain ⟨kt, hu, huk, hsg⟩ := mapElem_of hme
          obtain ⟨⟨i, hi, hiz⟩, hone⟩ := zeroOne_of hz
          obtain ⟨g, es, clock, hv, hh, hf⟩ := R.ok r _ hr
          have hzv2 : CellsOk w (badOf C I objs) ty z [l] := elOfD_of hzl ⟨rfl, hone⟩
          have key : ∀ (x : El ty) (b : Bool) (c : Value), CellsOk w (badOf C I objs) ty x [c] → (Instr.lookup t u v ok).run C.E.P w = .ok (if ok = true then .tuple #[c, .bool b] else c) w → hasM s ms' = b → (getM s ms').getD z = x → ∃ y, (Instr.lookup t u v ok).run C.E.P w = .ok y w ∧ StepOk C I objs w out.val out.wr y w := by
            intro x b c hx hrun hb hg
            refine ⟨_, hrun, ?_⟩
            have hrep := scLeaf_of hsg hx
            cases ok with
            | true =>
              simp only [cond_true, Eff.den, Option.some.injEq] at h
              subst h
              rw [hg, hb]
              exact StepOk.pure R ⟨[c, .bool b], rfl, hrep, ⟨rfl, rfl⟩, trivial⟩
            | false =>
              simp only [cond_false, Eff.den, Option.some.injEq] at h
              subst h
              rw [hg]
              exact StepOk.pure R hrep
          have hu' : u = .map (some g) := by rw [hm.2.1]; exact hv
          have hv' : v = .string s := hk.1
          subst hu'
          subst hv'
          have hck := fun b => checkKey_run (P := C.E.P) (w := w) huk b 9999 s
          rcases findNow_of s 0 hf with ⟨h1, h2, _⟩ | ⟨x, j, e', h1, h2, h3, h4, h5, _⟩
          · refine key z false l hzv2 ?_ (by simp [hasM, h1]) (by simp [h1])
            simp [Instr.lookup, run_underlying hu, getObj, Sem.run, hh, hck, findKey_run huk h2, zeroValue_run hi hiz]
          · refine key x true e'.val h4 ?_ (by simp [hasM, h1]) (by simp [h1])
            simp [Instr.lookup, run_underlying hu, getObj, Sem.run, hh, hck, findKey_run huk h5]
        · cases h
      · cases h
    · cases h
  · cases h

theorem getMap_run {P : Program} {w : World} {g : Nat} {es : Array MapEntry} {c : Nat} (h : w.heap[g]? = some (.map es c)) : (getObj g).run P w = .ok (.map es c) w := by
  simp [getObj, Sem.run, h]
theorem setMap_run {P : Program} {w : World} {g : Nat} {es : Array MapEntry} {c : Nat} {ob : Go.Obj} (h : w.heap[g]? = some (.map es c)) : (setObj g ob).run P w = .ok () { w with heap := w.heap.setIfInBounds g ob } := by
  simp [setObj, Sem.run, h]

theorem mapUpd_of (R : WRel C I objs w) {t : TypeId} {m k x : Val} {out : Out} {u v y : Value} (h : (mapUpdE objs C.E t m k x).den = some out) (hm : VRep I (Dom objs) w (badOf C I objs) m u) (hk : VRep I (Dom objs) w (badOf C I objs) k v) (hx : VRep I (Dom objs) w (badOf C I objs) x y) :
    ∃ w', (Instr.mapUpdate t u v y).run C.E.P w = .ok () w' ∧ StepOk C I objs w out.val out.wr undef w' := by
  unfold mapUpdE at h
  split at h
  · rename_i r s l
    split at h
    · rename_i ty ms e ty' hr hme
      split at h
      · rename_i ms' z hcm hz
        obtain ⟨et, hms⟩ := castM_eq hcm
        subst et
        subst hms
        simp only [Eff.den, Option.some.injEq] at h
        subst h
        obtain ⟨kt, hu, huk, hsg⟩ := mapElem_of hme
        obtain ⟨g, es, clock, hv, hh, hf⟩ := R.ok r _ hr
        have hu' : u = .map (some g) := by rw [hm.2.1]; exact hv
        have hv' : v = .string s := hk.1
        subst hu'
        subst hv'
        have hck := fun b => checkKey_run (P := C.E.P) (w := w) huk b 9999 s
        have hgl : g < w.heap.size := (Array.getElem?_eq_some_iff.1 hh).1
        have hzv : CellsOk w (badOf C I objs) ty z [y] := elOfD_of hz hx
        have fin : ∀ (es' : Array MapEntry) (clock' : Nat), F2 (MapsTo w (badOf C I objs) ty) (setM s z ms') es'.toList → StepOk C I objs w .undef [(r, .smap ty (setM s z ms'))] undef { w with heap := w.heap.setIfInBounds g (.map es' clock') } := by
          intro es' clock' hf'
          have hnew : (w.heap.setIfInBounds g (.map es' clock'))[g]? = some (.map es' clock') := by rw [Array.getElem?_setIfInBounds_self_of_lt hgl]
          have hU := R.upd (I' := I) (objs' := upd objs r (some (.smap ty (setM s z ms')))) (w' := { w with heap := w.heap.setIfInBounds g (.map es' clock') }) (fun g1 _ => g1 = g) (fun id => id = r)
            ⟨rfl, rfl, rfl, by simp, fun q hq => by
              by_cases e : q = g
              · exact .inl fun _ => e
              · exact .inr (.inl (by simp only []; rw [Array.getElem?_setIfInBounds_ne (fun h => e h.symm)]))⟩
            (fun g1 o1 e => ⟨r, _, rfl, hr, by subst e; exact hv⟩)
            (fun _ _ => ⟨rfl, rfl⟩) (fun id hd => dom_upd hd) (fun id h => upd_other _ _ _ _ h)
            (fun id ob' h ho1 g1 o1 hc => by
              subst h
              rw [upd_same] at ho1
              obtain rfl := Option.some.inj ho1
              refine ⟨.inl ⟨id, _, rfl, hr, hc⟩, ?_⟩
              have := R.lt g1 o1 ⟨id, _, hr, hc⟩
              simpa using this)
            (fun id id' _ _ _ _ h h' _ _ _ _ => h.trans h'.symm)
            (fun K id ob' h ho1 => by
              subst h
              rw [upd_same] at ho1
              obtain rfl := Option.some.inj ho1
              exact ⟨g, es', clock', hv, hnew, hf'.imp fun p e he => ⟨he.1, CellsOk.mono K.ha ty _ _ he.2⟩⟩)
          exact ⟨I, hU.1, hU.2, trivial⟩
        rcases findNow_of s 0 hf with ⟨h1, h2, h3⟩ | ⟨x', j, e', h1, h2, h3, h4, h5, h6⟩
        · refine ⟨_, ?_, fin (es.push { key := .string s, val := y, born := clock }) (clock + 1) ?_⟩
          · simp only [Instr.mapUpdate, Sem.run_bind, run_underlying hu, Result.andThen_ok, getMap_run hh, hck, findKey_run huk h2, setMap_run hh]
          · rw [h3, Array.toList_push]
            exact hf.append ⟨⟨rfl, hzv⟩, trivial⟩
        · have hj : es[j]? = some e' := by simpa using h2
          refine ⟨_, ?_, fin (es.modify j fun e => { e with key := .string s, val := y }) clock ?_⟩
          · have hks : (Instr.keyThatStays (.string s) (.string s)).run C.E.P w = .ok (.string s) w := by
              simp [Instr.keyThatStays, Instr.sameBits, eqS_iff s s ▸ eqS_refl s]
            have hold : ((es[j]?).map (·.key)).getD (.string s) = .string s := by rw [hj]; exact h3
            simp only [Instr.mapUpdate, Sem.run_bind, run_underlying hu, Result.andThen_ok, getMap_run hh, hck, findKey_run huk h5, Nat.zero_add, hold, hks, setMap_run hh]
          · rw [Array.toList_modify]
            exact h6 z y hzv
      · cases h
    · cases h
  · cases h

theorem makeMap_of (R : WRel C I objs w) {fr : Nat} {t : TypeId} {out : Out} (h : (makeMapE objs C.E fr t).den = some out) :
    ∃ y w', (Instr.makeMap t none).run C.E.P w = .ok y w' ∧ StepOk C I objs w out.val out.wr y w' := by
  unfold makeMapE at h
  split at h
  · rename_i e ty hme
    obtain ⟨hfr, h⟩ := bif_true h
    simp only [Eff.den, Option.some.injEq] at h
    subst h
    have hfr' := isFree_of hfr
    let I' : Interp := ⟨upd I.v fr (.map (some w.heap.size)), I.sz⟩
    have hne : ∀ id, Dom objs id → id ≠ fr := by
      intro id hd e
      subst e
      simp [Dom, hfr'] at hd
    refine ⟨.map (some w.heap.size), w.alloc (.map #[] 0), ?_, ?_⟩
    · simp [Instr.makeMap]
    have hU := R.upd (I' := I') (objs' := upd objs fr (some (.smap ty []))) (w' := w.alloc (.map #[] 0)) (fun _ _ => False) (fun id => id = fr)
      ⟨rfl, rfl, rfl, by simp, fun g hg => .inr (.inl (RowKit.Below.heap_alloc w _ g hg))⟩
      (fun _ _ h => h.elim)
      (fun id hd => ⟨upd_other _ _ _ _ (hne id hd), rfl⟩)
      (fun id hd => by simp only [Dom, upd_other _ _ _ _ (hne id hd)]; exact hd)
      (fun id h => upd_other _ _ _ _ h)
      (fun id ob' h ho g o hc => by
        subst h
        rw [upd_same] at ho
        obtain rfl := Option.some.inj ho
        have hv : I'.v id = .map (some g) := hc
        simp only [I', upd_same, Value.map.injEq, Option.some.injEq] at hv
        refine ⟨.inr (by omega), by simp; omega⟩)
      (fun id id' _ _ _ _ h h' _ _ _ _ => h.trans h'.symm)
      (fun K id ob' h ho => by
        subst h
        rw [upd_same] at ho
        obtain rfl := Option.some.inj ho
        exact ⟨w.heap.size, #[], 0, by simp only [I', upd_same], heap_alloc_new w _, trivial⟩)
    exact ⟨I', hU.1, hU.2, by simp [Dom, putWr, upd_same], by simp only [I', upd_same], rfl⟩
  · cases h
end

end Go.Abs

/- Every operation: what the evaluator says of it is so (all together). -/
namespace Go.Abs
open Go

section
variable {C : Ctx} {I : Interp} {objs : Nat → Option Obj} {w : World}

theorem exec_value {P : Program} {ρ : Operand → Value} {o : Oper} {s : Sem Value} {v : Value} {w w' : World} (e : execOp ρ o = (do pure (.value (← s)))) (h : s.run P w = .ok v w') : (execOp ρ o).run P w = .ok (.value v) w' := by
  rw [e]
  simp [h]
theorem exec_unit {P : Program} {ρ : Operand → Value} {o : Oper} {s : Sem Unit} {w w' : World} (e : execOp ρ o = (do s; pure .skip)) (h : s.run P w = .ok () w') : (execOp ρ o).run P w = .ok .skip w' := by
  rw [e]
  simp [h]

theorem zeroLeaves_of {P : Program} {t : TypeId} {z : List Leaf} (h : zeroLeaves P t = some z) : ∃ i v, P.info? t = some i ∧ i.zero = some v ∧ z = v.cells.toList.map (fun x => Leaf.d (.v x)) ∧ v.cells.toList.all Value.oneCell' = true := by
  unfold zeroLeaves at h
  split at h
  · rename_i zd hzd
    obtain rfl := Option.some.inj h
    obtain ⟨i, v, hi, hv, rfl, hall⟩ := zeroD_of hzd
    exact ⟨i, v, hi, hv, by simp [List.map_map, Function.comp_def], hall⟩
  · cases h

theorem map_arr {α β : Type} (f : α → β) (a : Array α) : a.map f = (a.toList.map f).toArray := by
  cases a
  simp

theorem ret1_of {v : Val} {out : Out} (h : (ret1 v).den = some out) : out = ⟨v, [], []⟩ := (Option.some.inj h).symm

theorem op_sound (R : WRel C I objs w) (HP : ProcsOk C.E) {sl : Nat → Val} {a : Act} (S : SRel C I objs w sl a) {fr : Nat} {o : Oper} {out : Out} (h : (opE C.E sl objs fr o).den = some out) : Goes C I objs w o a out := by
  have ev : ∀ x, VRep I (Dom objs) w (badOf C I objs) (evalO C.E sl x) (a.eval x) := fun x => evalO_of R S x
  obtain ⟨dst, op, type, pos, after, guard⟩ := o
  have pureV : ∀ {z : Val} {v : Value} {s : Sem Value}, out = ⟨z, [], []⟩ → execOp a.eval ⟨dst, op, type, pos, after, guard⟩ = (do pure (.value (← s))) → s.run C.E.P w = .ok v w → VRep I (Dom objs) w (badOf C I objs) z v → Goes C I objs w ⟨dst, op, type, pos, after, guard⟩ a out := by
    intro z v s e he hr hz
    subst e
    exact Goes.value (exec_value he hr) (StepOk.pure R hz)
  cases op with
  | move x => 
    obtain rfl := ret1_of h
    exact Goes.value rfl (StepOk.pure R (ev x))
  | assign x =>
    obtain rfl := ret1_of h
    exact Goes.value rfl (StepOk.pure R (ev x))
  | pick c x y =>
    simp only [opE] at h
    split at h
    · rename_i t hc
      have := ev c
      rw [hc] at this
      refine Goes.value (v := if t = true then a.eval x else a.eval y) ?_ (pick_of R h (ev x) (ev y))
      simp [execOp, this.1, asBool]
    · cases h
  | alloc t =>
    simp only [opE] at h
    split at h
    · rename_i z hz
      cases hb : (Nat.beq (List.length z) 0 || !(isFree objs fr)) with
      | true => rw [hb] at h; cases h
      | false =>
        rw [hb] at h
        simp only [cond_false, Eff.den, Option.some.injEq] at h
        subst h
        simp only [Bool.or_eq_false_iff, Bool.not_eq_false'] at hb
        obtain ⟨i, v, hi, hv, rfl, hall⟩ := zeroLeaves_of hz
        have hpos : 0 < (v.cells.toList.map (fun x => Leaf.d (.v x))).length := Nat.pos_of_ne_zero fun e => by
          rw [show (v.cells.toList.map (fun x => Leaf.d (.v x))).length.beq 0 = true from by rw [e]; rfl] at hb
          exact absurd hb.1 (by decide)
        have := newBox R (isFree_of hb.2) hpos (F2.vals v.cells.toList hall) t
        refine Goes.value (exec_value rfl ?_) this
        simp [Instr.alloc, zeroValue, typeInfo, hi, hv, newVar, newRow]
    · cases h
  | box t x =>
    simp only [opE] at h
    split at h
    · rename_i av hx
      cases hb : (Nat.beq (List.length (avLeaves av)) 0 || !(isFree objs fr)) with
      | true => rw [hb] at h; cases h
      | false =>
        rw [hb] at h
        simp only [cond_false, Eff.den, Option.some.injEq] at h
        subst h
        simp only [Bool.or_eq_false_iff, Bool.not_eq_false'] at hb
        have hpos : 0 < (avLeaves av).length := Nat.pos_of_ne_zero fun e => by
          rw [show (avLeaves av).length.beq 0 = true from by rw [e]; rfl] at hb
          exact absurd hb.1 (by decide)
        have hv := ev x
        rw [hx] at hv
        have hc : F2 (LRep I (Dom objs) w (badOf C I objs)) (avLeaves av) (a.eval x).cells.toList := by
          cases av with
          | lf l =>
            have h1 : LRep I (Dom objs) w (badOf C I objs) l (a.eval x) := hv
            have h2 : (a.eval x).cells = #[a.eval x] := by
              have := LRep.one _ _ h1
              generalize a.eval x = u at this
              cases u <;> first | rfl | cases this
            rw [h2]
            exact ⟨h1, trivial⟩
          | ag ls =>
            obtain ⟨cs, e, hf⟩ := hv
            rw [e]
            exact hf
        have := newBox R (isFree_of hb.2) hpos hc t
        refine Goes.value (exec_value rfl ?_) this
        simp [Instr.box, newVar, newRow]
    · cases h
  | build t parts =>
    simp only [opE] at h
    split at h
    · rename_i z hz
      obtain rfl := ret1_of h
      simp only [Option.map_eq_some_iff] at hz
      obtain ⟨av, hb, rfl⟩ := hz
      obtain ⟨y, hy, hr⟩ := buildAv_of R S hb
      exact pureV rfl rfl (by simpa using hy) hr
    · cases h
  | buildSlice t len parts =>
    simp only [opE] at h
    split at h
    · rename_i r hr
      simp only [Eff.den, Option.some.injEq] at h
      subst h
      obtain ⟨y, w', hy, hs⟩ := litOut_of R S hr
      exact Goes.value (exec_value rfl (by simpa using hy)) hs
    · cases h
  | load t x =>
    simp only [opE] at h
    split at h
    · rename_i v rs hl
      obtain ⟨u, hu, hr⟩ := allOk_of R hl (ev x)
      simp only [Eff.den, Option.some.injEq] at h
      subst h
      exact Goes.value (exec_value rfl hu) (StepOk.pure R hr)
    · cases h
  | store t x y =>
    simp only [opE] at h
    split at h
    · rename_i r hr
      simp only [Eff.den, Option.some.injEq] at h
      subst h
      obtain ⟨w', hy, hs⟩ := storeOut_of R hr (ev x) (ev y)
      exact Goes.skip (exec_unit rfl hy) hs
    · cases h
  | nilCheck x =>
    simp only [opE] at h
    split at h
    · rename_i b off hx
      obtain rfl := ret1_of h
      have := ev x
      rw [hx] at this
      obtain ⟨hd, g, o, hv, e⟩ := this
      exact Goes.value (v := a.eval x) (by simp [execOp, e]) (StepOk.pure R (by exact ⟨hd, g, o, hv, e⟩))
    · rename_i r i off hx
      obtain rfl := ret1_of h
      have := ev x
      rw [hx] at this
      obtain ⟨hd, g, n, c, hv, hi, e⟩ := this
      exact Goes.value (v := a.eval x) (by simp [execOp, e]) (StepOk.pure R (by exact ⟨hd, g, n, c, hv, hi, e⟩))
    · rename_i cs hx
      obtain rfl := ret1_of h
      have := ev x
      rw [hx] at this
      obtain ⟨ad, vs, e, hf, hr⟩ := this
      exact Goes.value (v := a.eval x) (by simp [execOp, e]) (StepOk.pure R (by exact ⟨ad, vs, e, hf, hr⟩))
    · cases h
  | binOp op t x y p =>
    have hx := ev x
    have hy := ev y
    simp only [opE] at h
    split at h
    · rename_i u v hu hv
      rw [hu] at hx
      rw [hv] at hy
      have fin : ∀ z, (binV (isBoolT C.E.P t) op u v).den = some z → out = ⟨sc z, [], []⟩ → Goes C I objs w ⟨dst, .binOp op t x y p, type, pos, after, guard⟩ a out := by
        intro z hz e
        obtain ⟨h1, h2⟩ := binV_run C.E.P w hz x y
        refine pureV e rfl ?_ (sc_mk h2)
        rw [hx.1, hy.1]
        exact h1
      split at h
      · rename_i z hz
        exact fin z (by rw [hz]; rfl) (ret1_of h)
      · rename_i c z hz
        obtain ⟨hc, h⟩ := grd_of h
        exact fin z (by rw [hz, hc]; rfl) (ret1_of h)
      · cases h
    · rename_i ls ms hu hv
      rw [hu] at hx
      rw [hv] at hy
      obtain ⟨cx, ex, fx⟩ := hx
      obtain ⟨cy, ey, fy⟩ := hy
      cases hgg : (C.E.P.eqGuardType C.E.P.depth t || !(isAggT C.E.P t)) with
      | true => rw [hgg] at h; cases h
      | false =>
        rw [hgg] at h
        simp only [cond_false] at h
        simp only [Bool.or_eq_false_iff, Bool.not_eq_false'] at hgg
        obtain ⟨hg, hag⟩ := hgg
        have hgr : ∀ op', (eqGuard op' t x y (a.eval x) (a.eval y)).run C.E.P w = .ok () w := by
          intro op'
          rw [ex, ey]
          unfold eqGuard
          cases op' <;> simp [hg]
        have heq : ∀ q, eqT C.E.P 20 t ls ms = some q → (Op.equal t (a.eval x) (a.eval y)).run C.E.P w = .ok q w := by
          intro q hq
          have := eqT_run 20 Op.maxDepth (by decide) t ls ms q cx cy hq fx fy
          rw [valOf_agg hag, valOf_agg hag] at this
          rw [ex, ey]
          exact this
        split at h
        · rename_i q hq
          obtain rfl := ret1_of h
          refine pureV rfl rfl ?_ (sc_mk rfl)
          rw [Sem.run_bind, hgr, ex, ey]
          have := heq q hq
          rw [ex, ey] at this
          simp [binOp, this]
        · rename_i q hq
          obtain rfl := ret1_of h
          refine pureV rfl rfl ?_ (sc_mk rfl)
          rw [Sem.run_bind, hgr, ex, ey]
          have := heq q hq
          rw [ex, ey] at this
          simp [binOp, this]
        · cases h
    · rename_i tt xs u hu hv
      rw [hu] at hx
      rw [hv] at hy
      obtain ⟨b, q, hb, e, hq⟩ := nilCmp_of R h (fun h0 => dat_addr hx h0) (by obtain ⟨A, c, es, e, _⟩ := hx; exact ⟨A, _, c, by simpa using e⟩) x y
      rw [← hy.1] at hb
      exact Goes.value (exec_value rfl hb) (by rw [e]; exact StepOk.pure R ⟨b, rfl, hq⟩)
    · rename_i r u hu hv
      rw [hu] at hx
      rw [hv] at hy
      split at h
      · rename_i e0 tt xs hr
        have hrow : 0 < xs.length → ∃ ad m c, a.eval x = .slice (some ad) m c := by
          intro h0
          rw [hx.2.1]
          rcases (rowVal R hr).2 with ⟨_, _, h1⟩ | ⟨g, b, c, h1, _, _⟩
          · rw [h1] at h0; simp at h0
          · exact ⟨_, _, _, h1⟩
        obtain ⟨b, q, hb, e, hq⟩ := nilCmp_of R h hrow (by
          rw [hx.2.1]
          rcases (rowVal R hr).2 with ⟨A, h1, _⟩ | ⟨g, b, c, h1, _, _⟩
          · exact ⟨_, _, _, h1⟩
          · exact ⟨_, _, _, h1⟩) x y
        rw [← hy.1] at hb
        exact Goes.value (exec_value rfl hb) (by rw [e]; exact StepOk.pure R ⟨b, rfl, hq⟩)
      · rename_i tt xs hr
        have hrow : 0 < xs.length → ∃ ad m c, a.eval x = .slice (some ad) m c := by
          intro h0
          rw [hx.2.1]
          exact dat_addr (R.ok r _ hr).2 h0
        obtain ⟨b, q, hb, e, hq⟩ := nilCmp_of R h hrow (by
          rw [hx.2.1]
          obtain ⟨A, c, es, e, _⟩ := (R.ok r _ hr).2
          exact ⟨A, _, c, by simpa using e⟩) x y
        rw [← hy.1] at hb
        exact Goes.value (exec_value rfl hb) (by rw [e]; exact StepOk.pure R ⟨b, rfl, hq⟩)
      · cases h
    · cases h
  | unOp op t x =>
    simp only [opE] at h
    split at h
    · rename_i u hu
      have hx := ev x
      rw [hu] at hx
      split at h
      · rename_i z hz
        obtain ⟨h1, h2⟩ := unV_run C.E.P w hz
        exact pureV (ret1_of h) rfl (by rw [hx.1]; exact h1) (sc_mk h2)
      · cases h
    · cases h
  | convert s t x =>
    simp only [opE] at h
    split at h
    · rename_i k n hu
      have hx := ev x
      rw [hu] at hx
      split at h
      · rename_i k1 k2 h1 h2
        refine pureV (ret1_of h) rfl ?_ (sc_mk rfl)
        rw [hx.1]
        simp [convert, run_underlying h1, run_underlying h2, Conv.intToInt]
      · cases h
    · rename_i b hu
      have hx := ev x
      rw [hu] at hx
      split at h
      · rename_i h1 h2
        refine pureV (ret1_of h) rfl ?_ (sc_mk rfl)
        rw [hx.1]
        simp [convert, run_underlying h1, run_underlying h2]
      · cases h
    · rename_i t' xs hu
      have hx := ev x
      rw [hu] at hx
      obtain ⟨z, rs, hz, e⟩ := bytesOut_of R h hx
      exact Goes.value (exec_value rfl hz) (by rw [e]; exact StepOk.pure R (sc_mk rfl))
    · rename_i r hu
      have hx := ev x
      rw [hu] at hx
      obtain ⟨z, rs, hz, e⟩ := bytesOut_of R h hx
      exact Goes.value (exec_value rfl hz) (by rw [e]; exact StepOk.pure R (sc_mk rfl))
    · cases h
  | makeFunc f first caps =>
    cases f with
    | func f =>
      simp only [opE] at h
      cases hb : first.isEmpty with
      | false =>
        rw [hb] at h
        simp only [cond_false] at h
        have hq := bif_true h
        clear h
        obtain ⟨hb2, h⟩ := hq
        split at h
        · rename_i b hl
          have : caps = #[] := by simpa using hb2
          subst this
          have hcs := capsOf_of R S hl
          have hfirst : first.map a.eval = (first.toList.map a.eval).toArray := map_arr _ _
          generalize first.toList.map a.eval = xs at hcs hfirst
          match xs, hcs with
          | [x], ⟨⟨hd, g, o, h1, h2⟩, _⟩ =>
            refine pureV (z := lf1 (.mv f b)) (v := .func (.func f) #[x] #[]) (ret1_of h) rfl ?_ ⟨x, rfl, hd, g, o, h1, h2⟩
            simp [Instr.makeFunc, hfirst]
        · cases h
      | true =>
        rw [hb] at h
        simp only [cond_true] at h
        split at h
        · rename_i l hl
          have : first = #[] := by simpa using hb
          subst this
          exact pureV (v := .func (.func f) #[] (caps.map a.eval)) (ret1_of h) rfl (by simp [Instr.makeFunc]) ⟨caps.toList.map a.eval, by rw [map_arr], capsOf_of R S hl⟩
        · cases h
    | _ => cases h
  | makeSlice t l c =>
    simp only [opE] at h
    have hl := ev l
    split at h
    · rename_i i j kk n hn
      rw [hn] at hl
      cases hb : Nat.beq i j with
      | false => rw [hb] at h; cases h
      | true =>
        rw [hb] at h
        have := Nat.eq_of_beq_eq_true hb
        subst this
        obtain ⟨y, w', hy, hs⟩ := makeOut_of (k := kk) (k' := kk) R h
        exact Goes.value (exec_value rfl (by rw [hl.1]; exact hy)) hs
    · rename_i v m n hn
      rw [hn] at hl
      cases hb : (m == n) with
      | false => rw [hb] at h; cases h
      | true =>
        rw [hb] at h
        have := eq_of_beq hb
        subst this
        obtain ⟨y, w', hy, hs⟩ := makeOut_of (k := .i64) (k' := .i64) R h
        exact Goes.value (exec_value rfl (by rw [hl.1]; exact hy)) hs
    · cases h
  | slice t x lo hi mx =>
    cases mx with
    | some _ => cases h
    | none =>
      simp only [opE] at h
      split at h
      · rename_i l hh h1 h2
        split at h
        · obtain ⟨y, hy, hs⟩ := sliceOut_of R h (optInt_of R S h1) (optInt_of R S h2) (ev x)
          exact Goes.value (exec_value rfl hy) hs
        · obtain ⟨y, hy, hs⟩ := viewOut_of R h (optInt_of R S h1) (optInt_of R S h2) (ev x)
          exact Goes.value (exec_value rfl hy) hs
        · obtain ⟨y, hy, hs⟩ := truncOut_of R h (optInt_of R S h1) (optInt_of R S h2) (ev x)
          exact Goes.value (exec_value rfl hy) hs
        · obtain ⟨y, hy, hs⟩ := frontOut_of R h (optInt_of R S h1) (optInt_of R S h2) (ev x)
          exact Goes.value (exec_value rfl hy) hs
      · cases h
  | makeMap t r =>
    cases r with
    | some _ => cases h
    | none =>
      simp only [opE] at h
      obtain ⟨y, w', hy, hs⟩ := makeMap_of R h
      exact Goes.value (exec_value rfl hy) hs
  | lookup t m k ok =>
    simp only [opE] at h
    obtain ⟨y, hy, hs⟩ := lookup_of R h (ev m) (ev k)
    exact Goes.value (exec_value rfl hy) hs
  | mapUpdate t m k x =>
    simp only [opE] at h
    obtain ⟨w', hy, hs⟩ := mapUpd_of R h (ev m) (ev k) (ev x)
    exact Goes.skip (exec_unit rfl hy) hs
  | insert t m k x =>
    simp only [opE] at h
    obtain ⟨w', hy, hs⟩ := mapUpd_of R h (ev m) (ev k) (ev x)
    exact Goes.skip (exec_unit rfl hy) hs
  | sliceToArrayPointer t x =>
    simp only [opE] at h
    obtain ⟨y, hy, hs⟩ := arrPtr_of R h (ev x)
    exact Goes.value (exec_value rfl hy) hs
  | fieldAddr t x f =>
    simp only [opE] at h
    split at h
    · rename_i z hz
      obtain ⟨y, hy, hr⟩ := fieldE_of R hz (ev x)
      exact pureV (ret1_of h) rfl hy hr
    · cases h
  | field t x f =>
    simp only [opE] at h
    split at h
    · rename_i ls off n ft hx hpl
      have hv := ev x
      rw [hx] at hv
      obtain ⟨cs, e, hf⟩ := hv
      obtain ⟨fs, g, hu, hg, rfl, rfl, rfl⟩ := fieldPl_of hpl
      cases hb : (C.E.P.underlying g.type).isSome with
      | false => rw [hb] at h; cases h
      | true =>
        rw [hb] at h
        simp only [cond_true] at h
        split at h
        · rename_i c hc
          split at h
          · rename_i z hz
            simp only [Option.map_eq_some_iff] at hz
            obtain ⟨av, hav, rfl⟩ := hz
            obtain ⟨y, hy, hr⟩ := part_run hb hc hav hf
            refine pureV (ret1_of h) rfl ?_ hr
            rw [e]
            simp [Instr.field, run_underlying hu, hg, asAgg, hy]
          · cases h
        · cases h
    · cases h
  | indexAddr t x i =>
    simp only [opE] at h
    split at h
    · rename_i k n hi
      have hv := ev i
      rw [hi] at hv
      obtain ⟨y, hy, hr, hw⟩ := idxE_of (k := k) R h (ev x)
      refine Goes.value (exec_value rfl (by rw [hv.1]; exact hy)) ?_
      rw [hw]
      exact StepOk.pure R hr
    · cases h
  | index t x i =>
    simp only [opE] at h
    split at h
    · rename_i k n hi
      have hv := ev i
      rw [hi] at hv
      obtain ⟨y, hy, hs⟩ := indexV_of (k := k) R h (ev x)
      exact Goes.value (exec_value rfl (by rw [hv.1]; exact hy)) hs
    · cases h
  | range t x =>
    simp only [opE] at h
    split at h
    · rename_i s hs
      have hx := ev x
      rw [hs] at hx
      obtain ⟨hb, h⟩ := bif_true h
      rw [Bool.and_eq_true] at hb
      simp only [Eff.den, Option.some.injEq] at h
      subst h
      obtain ⟨y, w', hy, hs'⟩ := rangeE_of R (isFree_of hb.2) (s := s) hb.1
      exact Goes.value (exec_value rfl (by rw [hx.1]; exact hy)) hs'
    · cases h
  | next it b =>
    cases b with
    | false => cases h
    | true =>
      simp only [opE] at h
      split at h
      · rename_i q hq
        have hx := ev it
        rw [hq] at hx
        split at h
        · rename_i s p hb
          obtain ⟨h1, h2⟩ := nextE_of R hb hx type
          simp only [Eff.den] at h
          by_cases hlt : p < (s.size : Int)
          · rw [decide_eq_true hlt] at h
            simp only [cond_true, Option.some.injEq] at h
            subst h
            obtain ⟨y, w', hy, hs'⟩ := h1 hlt
            exact Goes.value (exec_value rfl hy) hs'
          · rw [decide_eq_false hlt] at h
            simp only [cond_false, Option.some.injEq] at h
            subst h
            obtain ⟨y, hy, hs'⟩ := h2 hlt
            exact Goes.value (exec_value rfl hy) hs'
        · cases h
      · cases h
  | extract t i =>
    simp only [opE] at h
    split at h
    · rename_i l hl
      have hv := ev t
      rw [hl] at hv
      obtain ⟨vs, e, hf⟩ := hv
      split at h
      · rename_i b hb
        obtain ⟨u, hu, hr⟩ := hf.pick hb
        refine pureV (ret1_of h) rfl ?_ hr
        rw [e]
        simp [Instr.extract, hu]
      · cases h
    · cases h
  | call c =>
    have hargs : F2 (VRep I (Dom objs) w (badOf C I objs)) (List.map (evalO C.E sl) c.args.toList) (List.map a.eval c.args.toList) := F2.mapL _ _ ev c.args.toList
    simp only [opE] at h
    split at h
    · rename_i b hb
      have hrun : ∃ cs, (execOp a.eval ⟨dst, .call c, type, pos, after, guard⟩) = builtin b c.argTypes type cs (c.args.map a.eval) := by
        refine ⟨c.args.map fun | .const _ => true | _ => false, ?_⟩
        simp [execOp, resolve, hb, invoke]
        rfl
      obtain ⟨cs, hrun⟩ := hrun
      have hat : c.argTypes = c.argTypes.toList.toArray := rfl
      rw [hat, map_arr] at hrun
      generalize List.map a.eval c.args.toList = us at hargs hrun
      generalize List.map (evalO C.E sl) c.args.toList = vs at hargs h
      generalize c.argTypes.toList = ts at h hrun
      unfold builtinE at h
      split at h
      · rename_i t ts' x
        match us, hargs with
        | [u], hargs =>
          split at h
          · rename_i r hr
            simp only [Eff.den, Option.some.injEq] at h
            subst h
            obtain ⟨y, hy, hs⟩ := lenOut_of (rt := type) (ts := ts') R hr hargs.1
            exact Goes.value (by rw [hrun]; simp [builtin, hy]) hs
          · cases h
      · rename_i t u ts' s x
        match us, hargs with
        | [v1, v2], hargs =>
          cases hb : Nat.beq t u with
          | false =>
            rw [hb] at h
            simp only [cond_false] at h
            have hq := bif_true h
            clear h
            obtain ⟨hb2, h⟩ := hq
            split at h
            · rename_i str _
              have hv2 : v2 = .string str := hargs.2.1.1
              subst hv2
              obtain ⟨y, w', hy, hs⟩ := appendStrE_of (rt := type) R h (isStrT_of hb2) hargs.1
              refine Goes.value ?_ hs
              rw [hrun]
              have : (Builtin.append_ (t :: u :: ts').toArray type #[v1, .string str]) = Builtin.append_ #[t, u] type #[v1, .string str] := rfl
              simp [builtin, this, hy]
            · cases h
          | true =>
            rw [hb] at h
            have := Nat.eq_of_beq_eq_true hb
            subst this
            obtain ⟨y, w', hy, hs⟩ := appendOut_of (rt := type) R h hargs.1 hargs.2.1
            refine Goes.value ?_ hs
            rw [hrun]
            have : (Builtin.append_ (t :: t :: ts').toArray type #[v1, v2]) = Builtin.append_ #[t, t] type #[v1, v2] := rfl
            simp [builtin, this, hy]
      · rename_i t ts' d x
        match us, hargs with
        | [v1, v2], hargs =>
          obtain ⟨y, w', hy, hs⟩ := copyE_of (rt := type) (ts := ts') R h hargs.1 hargs.2.1
          refine Goes.value ?_ hs
          rw [hrun]
          simp [builtin, hy]
      · rename_i x r
        match us, hargs with
        | u :: us, hargs =>
          split at h
          · rename_i v hv
            obtain ⟨h1, h2⟩ := foldV_max (P := C.E.P) hv hargs.2 hargs.1.2
            refine pureV (ret1_of h) (s := Builtin.max_ ts.toArray type (u :: us).toArray) (by rw [hrun]; rfl) ?_ (sc_mk h2)
            rw [hargs.1.1]
            simpa [Builtin.max_] using h1
          · cases h
      · rename_i x r
        match us, hargs with
        | u :: us, hargs =>
          split at h
          · rename_i v hv
            obtain ⟨h1, h2⟩ := foldV_min (P := C.E.P) hv hargs.2 hargs.1.2
            refine pureV (ret1_of h) (s := Builtin.min_ ts.toArray type (u :: us).toArray) (by rw [hrun]; rfl) ?_ (sc_mk h2)
            rw [hargs.1.1]
            simpa [Builtin.min_] using h1
          · cases h
      · cases h
    · rename_i f hf
      split at h
      · rename_i g caps hg
        have hv := ev f
        rw [hg] at hv
        obtain ⟨as, e, hcs⟩ := hv
        split at h
        · rename_i p hp
          refine goes_call R HP rfl hp (hargs.append (caps_vals hcs)) h ?_
          simp [execOp, resolve, hf, e, Deferred.ofValue, invoke, map_arr]
        · cases h
      · rename_i g b hg
        have hv := ev f
        rw [hg] at hv
        obtain ⟨x, e, hd, g', o, h1, h2⟩ := hv
        split at h
        · rename_i p hp
          refine goes_call R HP rfl hp (args := lf1 (.bp b 0) :: List.map (evalO C.E sl) c.args.toList) (vs := x :: List.map a.eval c.args.toList) ⟨⟨hd, g', o, h1, by simpa using h2⟩, hargs⟩ h ?_
          simp [execOp, resolve, hf, e, Deferred.ofValue, invoke, map_arr]
        · cases h
      · cases h
    · cases h
  | _ => cases h

end
end Go.Abs

/- What an operation reads is told in its log: elsewhere the objects may differ. -/
namespace Go.Abs
open Go

section
variable {get get' : Nat → Option Obj}

def Agree (get get' : Nat → Option Obj) (rs : List Nat) : Prop := ∀ n, n ∈ rs → get' n = get n
theorem Agree.head {r : Nat} {rs : List Nat} (h : Agree get get' (r :: rs)) : get' r = get r := h r (by simp)
theorem Agree.tail {r : Nat} {rs : List Nat} (h : Agree get get' (r :: rs)) : Agree get get' rs := fun n hn => h n (List.mem_cons_of_mem _ hn)
theorem Agree.left {a b : List Nat} (h : Agree get get' (List.append a b)) : Agree get get' a := fun n hn => h n (List.mem_append.2 (.inl hn))
theorem Agree.right {a b : List Nat} (h : Agree get get' (List.append a b)) : Agree get get' b := fun n hn => h n (List.mem_append.2 (.inr hn))

theorem isFree_loc {i : Nat} (h : get' i = get i) : isFree get' i = isFree get i := by simp [isFree, h]

theorem dOf_loc {l : Leaf} {d : DLeaf} {rs : List Nat} (h : dOf get l = some (d, rs)) (hg : Agree get get' rs) : dOf get' l = some (d, rs) := by
  unfold dOf at h
  split at h
  · exact h
  · rename_i r
    have hr : r ∈ rs := by split at h <;> simp at h <;> simp [← h.2]
    simp only [dOf, hg r hr]
    exact h
  · cases h
theorem dOfs_loc : ∀ {ls : List Leaf} {ds : List DLeaf} {rs : List Nat}, dOfs get ls = some (ds, rs) → Agree get get' rs → dOfs get' ls = some (ds, rs)
  | [], ds, rs, h, hg => h
  | l :: ls, ds, rs, h, hg => by
    simp only [dOfs] at h ⊢
    split at h
    · rename_i x a y b h1 h2
      simp only [Option.some.injEq, Prod.mk.injEq] at h
      obtain ⟨rfl, rfl⟩ := h
      rw [dOf_loc h1 hg.left, dOfs_loc h2 hg.right]
    · cases h
theorem freezes_loc : ∀ {rs : List Nat}, Agree get get' rs → freezes get' rs = freezes get rs
  | [], _ => rfl
  | r :: rs, hg => by
    simp only [freezes, hg.head, freezes_loc hg.tail]
theorem sliceOf_loc {l : Leaf} {d : SD} {rs : List Nat} (h : sliceOf get l = some (d, rs)) (hg : Agree get get' rs) : sliceOf get' l = some (d, rs) := by
  unfold sliceOf at h
  split at h
  · exact h
  · exact h
  · rename_i r
    have hr : r ∈ rs := by split at h <;> simp at h <;> simp [← h.2]
    simp only [sliceOf, hg r hr]
    exact h
  · cases h

theorem allOk_loc {P : Program} {t : TypeId} {x : Val} {v : AV} {rs : List Nat} (h : allOk get P t x = some (v, rs)) (hg : Agree get get' rs) : allOk get' P t x = some (v, rs) := by
  unfold allOk at h
  split at h
  · rename_i b off
    have hr : b ∈ rs := by
      split at h
      · simp only [Option.map_eq_some_iff, Prod.mk.injEq] at h
        obtain ⟨_, _, _, rfl⟩ := h
        simp
      · simp only [Option.map_eq_some_iff, Prod.mk.injEq] at h
        obtain ⟨_, _, _, rfl⟩ := h
        simp
      · cases h
    simp only [allOk, hg b hr]
    exact h
  · rename_i b i off
    have hr : b ∈ rs := by
      split at h
      · simp only [Option.map_eq_some_iff, Prod.mk.injEq] at h
        obtain ⟨_, _, _, rfl⟩ := h
        simp
      · simp only [Option.map_eq_some_iff, Prod.mk.injEq] at h
        obtain ⟨_, _, _, rfl⟩ := h
        simp
      · cases h
    simp only [allOk, hg b hr]
    exact h
  · exact h
  · cases h

theorem storeOut_loc {P : Program} {t : TypeId} {a v : Val} {out : Out} (h : storeOut get P t a v = some out) (hg : Agree get get' out.rd) : storeOut get' P t a v = some out := by
  unfold storeOut at h
  split at h
  · rename_i av
    cases hc : (Nat.beq (List.length (avLeaves av)) (P.cellsOf t) && Nat.ble 1 (P.cellsOf t)) with
    | false => rw [hc] at h; cases h
    | true =>
      rw [hc] at h
      simp only [cond_true] at h
      split at h
      · rename_i b off
        split at h
        · rename_i ls hb
          split at h
          · rename_i c hcut
            simp only [Option.some.injEq] at h
            subst h
            simp only [storeOut, hc, cond_true, hg.head, hb, hcut]
          · cases h
        · cases h
      · rename_i r i off
        split at h
        · rename_i e t' xs hb
          split at h
          · rename_i ds rs hds
            cases hr : rs.any (Nat.beq r) with
            | true => rw [hr] at h; cases h
            | false =>
              rw [hr] at h
              simp only [cond_false] at h
              split at h
              · rename_i c hcut
                split at h
                · rename_i x hx
                  simp only [Option.some.injEq] at h
                  subst h
                  have hg' : Agree get get' rs := hg.tail
                  simp only [storeOut, hc, cond_true, hg.head, hb, dOfs_loc hds hg', hr, cond_false, hcut, hx, freezes_loc hg']
                · cases h
              · cases h
          · cases h
        · cases h
      · cases h
  · cases h

theorem litOut_loc {E : Env} {ev : Operand → Val} {fr : Nat} {t : TypeId} {len : Nat} {parts : List (Nat × Operand)} {out : Out} (h : litOut get E ev fr t len parts = some out) (hg : Agree get get' out.rd) : litOut get' E ev fr t len parts = some out := by
  unfold litOut at h
  split at h
  · rename_i e he
    split at h
    · rename_i ty z ps h1 h2 h3
      cases hb : (Nat.beq (nleaf ty) (E.P.cellsOf e) && zeroFits E.P e && Nat.ble (len * E.P.cellsOf e) 16777216) with
      | false => rw [hb] at h; cases h
      | true =>
        rw [hb] at h
        simp only [cond_true] at h
        split at h
        · rename_i ls h4
          split at h
          · rename_i ds rs h5
            split at h
            · rename_i xs h6
              cases hf : isFree get fr with
              | false => rw [hf] at h; cases h
              | true =>
                rw [hf] at h
                simp only [cond_true, Option.some.injEq] at h
                subst h
                have hg' : Agree get get' rs := hg.tail
                have hf' : isFree get' fr = true := (isFree_loc hg.head).trans hf
                simp only [litOut, he, h1, h2, h3, hb, cond_true, h4, dOfs_loc h5 hg', h6, hf', freezes_loc hg']
            · cases h
          · cases h
        · cases h
    · cases h
  · cases h

theorem grd_loc {c : Bool} {e e' : Eff Out} {out : Out} (h : (Eff.grd c e).den = some out) (k : e.den = some out → e'.den = some out) : (Eff.grd c e').den = some out := by
  obtain ⟨hc, h⟩ := grd_of h
  simp only [Eff.den, hc, cond_true]
  exact k h

theorem cutGrd_out {α : Type} {n : Int} {lo hi : Option Int} {e : Eff α} {r : α} (h : (cutGrd n lo hi e).den = some r) : e.den = some r := by
  unfold cutGrd at h
  split at h
  · exact h
  · exact (grd_of (grd_of h).2).2
  · exact (grd_of (grd_of h).2).2
  · exact (grd_of (grd_of (grd_of h).2).2).2

theorem appendOut_loc {P : Program} {fr : Nat} {t : TypeId} {s x : Leaf} {out : Out} (h : (appendOut get P fr t s x).den = some out) (hg : Agree get get' out.rd) : (appendOut get' P fr t s x).den = some out := by
  unfold appendOut at h
  split at h
  · rename_i e he
    split at h
    · rename_i v t' ys rs hs
      cases hb : (isNilSlice v && Nat.beq (nleaf t') (P.cellsOf e) && isFree get fr && zeroFits P e) with
      | false => rw [hb] at h; cases h
      | true =>
        rw [hb] at h
        simp only [cond_true] at h
        have ho := (Option.some.inj (grd_of h).2).symm
        subst ho
        simp only [appendOut, he, sliceOf_loc hs hg.tail, isFree_loc hg.head, hb, cond_true]
        exact h
    · rename_i v rs hs
      cases hb : (isNilSlice v && zeroFits P e) with
      | false => rw [hb] at h; cases h
      | true =>
        rw [hb] at h
        simp only [cond_true] at h
        have hrs : rs = [] := by
          unfold sliceOf at hs
          split at hs
          · rename_i y
            cases hn : isNilSlice y <;> simp [hn] at hs
            exact hs
          · simp at hs
          · split at hs <;> simp at hs
          · cases hs
        subst hrs
        simp only [appendOut, he, sliceOf_loc hs (fun n hn => absurd hn (by simp)), hb, cond_true]
        exact h
    · rename_i r rs hs
      have hrs : rs = [] := by
        unfold sliceOf at hs
        split at hs
        · rename_i y
          cases hn : isNilSlice y <;> simp [hn] at hs
          exact hs
        · simp at hs
        · split at hs <;> simp at hs
        · cases hs
      subst hrs
      split at h
      · rename_i e1 t1 xs1 hr
        cases hb : zeroFits P e with
        | false => rw [hb] at h; cases h
        | true =>
          rw [hb] at h
          simp only [cond_true, Eff.den, Option.some.injEq] at h
          subst h
          have : get' r = some (.row e1 t1 xs1) := hg.head.trans hr
          simp only [appendOut, he, sliceOf_loc hs (fun n hn => absurd hn (by simp)), this, hb, cond_true, Eff.den]
      · cases h
    · rename_i r t' ys rs hs
      split at h
      · rename_i e' ty xs hr
        split at h
        · rename_i ys' hc
          cases hb : (Nat.beq e e' && Nat.beq (nleaf ty) (P.cellsOf e) && !(rs.any (Nat.beq r)) && isFree get fr && zeroFits P e) with
          | false => rw [hb] at h; cases h
          | true =>
            rw [hb] at h
            simp only [cond_true] at h
            have ho := (Option.some.inj (grd_of h).2).symm
            subst ho
            have hr' : get' r = some (.row e' ty xs) := hg.tail.head.trans hr
            simp only [appendOut, he, sliceOf_loc hs hg.tail.tail, hr', hc, isFree_loc hg.head, hb, cond_true]
            exact h
        · cases h
      · cases h
    · cases h
  · cases h

theorem appendStrE_loc {P : Program} {fr : Nat} {t : TypeId} {s : Leaf} {x : ByteArray} {out : Out} (h : (appendStrE get P fr t s x).den = some out) (hg : Agree get get' out.rd) : (appendStrE get' P fr t s x).den = some out := by
  unfold appendStrE at h
  split at h
  · rename_i e he
    cases hb : (isByteS P t && (zeroFits P e && isFree get fr)) with
    | false => rw [hb] at h; cases h
    | true =>
      rw [hb] at h
      simp only [cond_true] at h
      split at h
      · rename_i v
        have h0 := h
        obtain ⟨hv, h⟩ := bif_true h
        obtain ⟨hl, h⟩ := grd_of h
        simp only [Eff.den, Option.some.injEq] at h
        subst h
        simp only [appendStrE, he, isFree_loc hg.head, hb, cond_true]
        exact h0
      · rename_i r
        split at h
        · rename_i e' t' xs hr
          split at h
          · rename_i xs' hc
            have h0 := h
            obtain ⟨hv, h⟩ := bif_true h
            obtain ⟨hl, h⟩ := grd_of h
            simp only [Eff.den, Option.some.injEq] at h
            subst h
            simp only [appendStrE, he, isFree_loc hg.head, hb, cond_true, hg.tail.head, hr, hc]
            exact h0
          · cases h
        · cases h
      · cases h
  · cases h

theorem makeOut_loc {E : Env} {fr : Nat} {t : TypeId} {n : Int} {out : Out} (h : (makeOut get E fr t n).den = some out) (hg : Agree get get' out.rd) : (makeOut get' E fr t n).den = some out := by
  unfold makeOut at h
  split at h
  · rename_i e he
    split at h
    · rename_i ty z h1 h2
      split at h
      · rename_i x h3
        cases hb : (Nat.beq (nleaf ty) (E.P.cellsOf e) && Nat.ble 1 (E.P.cellsOf e) && isFree get fr) with
        | false => rw [hb] at h; cases h
        | true =>
          rw [hb] at h
          simp only [cond_true] at h
          have ho := (Option.some.inj (grd_of (grd_of h).2).2).symm
          subst ho
          simp only [makeOut, he, h1, h2, h3, isFree_loc hg.head, hb, cond_true]
          exact h
      · cases h
    · cases h
  · cases h

theorem sliceLen_loc {l : Leaf} {n : Nat} {rs : List Nat} (h : sliceLen get l = some (n, rs)) (hg : Agree get get' rs) : sliceLen get' l = some (n, rs) := by
  unfold sliceLen at h
  split at h
  · exact h
  · exact h
  · rename_i r
    have hr : r ∈ rs := by split at h <;> simp at h <;> simp [← h.2]
    simp only [sliceLen, hg r hr]
    exact h
  · cases h

theorem lenOut_loc {P : Program} {t : TypeId} {x : Val} {out : Out} (h : lenOut get P t x = some out) (hg : Agree get get' out.rd) : lenOut get' P t x = some out := by
  unfold lenOut at h
  split at h
  · rename_i ht
    simp only [lenOut, ht]
    exact h
  · rename_i n e ht
    simp only [lenOut, ht]
    exact h
  · rename_i e ht
    split at h
    · rename_i l
      split at h
      · rename_i n rs hs
        simp only [Option.some.injEq] at h
        subst h
        simp only [lenOut, ht, sliceLen_loc hs hg]
      · cases h
    · cases h
  · cases h

end
end Go.Abs

/- What an operation reads is told in its log (slices, places, calls, all together). -/
namespace Go.Abs
open Go

section
variable {get get' : Nat → Option Obj}

theorem sliceOut_loc {E : Env} {t : TypeId} {x : Val} {lo hi : Option Int} {out : Out} (h : (sliceOut get E t x lo hi).den = some out) (hg : Agree get get' out.rd) : (sliceOut get' E t x lo hi).den = some out := by
  unfold sliceOut at h
  split at h
  · exact h
  · exact h
  · rename_i r
    split at h
    · rename_i e ty xs hr
      obtain ⟨hb, h⟩ := bif_true h
      have ho := (Option.some.inj (cutGrd_out h)).symm
      subst ho
      simp only [sliceOut, hg.head, hr, hb, cond_true]
      exact h
    · rename_i ty xs hr
      obtain ⟨hb, h⟩ := bif_true h
      have ho := (Option.some.inj (cutGrd_out h)).symm
      subst ho
      simp only [sliceOut, hg.head, hr, hb, cond_true]
      exact h
    · cases h
  · rename_i b
    split at h
    · rename_i n e hn
      split at h
      · rename_i ty ls h1 h2
        split at h
        · rename_i ds h3
          split at h
          · rename_i xs h4
            obtain ⟨hb, h⟩ := bif_true h
            have ho := (Option.some.inj (cutGrd_out h)).symm
            subst ho
            simp only [sliceOut, hn, h1, hg.head, h2, h3, h4, hb, cond_true]
            exact h
          · cases h
        · cases h
      · cases h
    · cases h
  · exact h
  · cases h

theorem viewOut_loc {get get' : Nat → Option Obj} {E : Env} {fr : Nat} {t : TypeId} {x : Val} {lo hi : Option Int} {out : Out} (h : (viewOut get E fr t x lo hi).den = some out) (hg : Agree get get' out.rd) : (viewOut get' E fr t x lo hi).den = some out := by
  unfold viewOut at h
  split at h
  · rename_i r
    split at h
    · rename_i e ty xs hr
      have h0 := h
      obtain ⟨hf, h⟩ := bif_true h
      obtain ⟨he, _⟩ := cutGrd_of h
      simp only [Eff.den, Option.some.injEq] at he
      subst he
      unfold viewOut
      simp only [hg r (by simp), hr, isFree_loc (hg fr (by simp))]
      exact h0
    · cases h
  · cases h
theorem truncOut_loc {get get' : Nat → Option Obj} {E : Env} {fr : Nat} {t : TypeId} {x : Val} {lo hi : Option Int} {out : Out} (h : (truncOut get E fr t x lo hi).den = some out) (hg : Agree get get' out.rd) : (truncOut get' E fr t x lo hi).den = some out := by
  unfold truncOut at h
  split at h
  · rename_i r
    split at h
    · rename_i e ty xs hr
      split at h
      · have h0 := h
        obtain ⟨hf, h⟩ := bif_true h
        obtain ⟨he, _⟩ := cutGrd_of h
        simp only [Eff.den, Option.some.injEq] at he
        subst he
        unfold truncOut
        simp only [hg r (by simp), hr, isFree_loc (hg fr (by simp))]
        exact h0
      · cases h
    · cases h
  · cases h
theorem frontOut_loc {get get' : Nat → Option Obj} {E : Env} {fr : Nat} {t : TypeId} {x : Val} {lo hi : Option Int} {out : Out} (h : (frontOut get E fr t x lo hi).den = some out) (hg : Agree get get' out.rd) : (frontOut get' E fr t x lo hi).den = some out := by
  unfold frontOut at h
  split at h
  · rename_i r
    split at h
    · rename_i e ty xs hr
      have h0 := h
      obtain ⟨hf, h⟩ := bif_true h
      obtain ⟨he, _⟩ := cutGrd_of h
      simp only [Eff.den, Option.some.injEq] at he
      subst he
      unfold frontOut
      simp only [hg r (by simp), hr, isFree_loc (hg fr (by simp))]
      exact h0
    · cases h
  · cases h
theorem lookupE_loc {get get' : Nat → Option Obj} {E : Env} {t : TypeId} {m k : Val} {ok : Bool} {out : Out} (h : (lookupE get E t m k ok).den = some out) (hg : Agree get get' out.rd) : (lookupE get' E t m k ok).den = some out := by
  unfold lookupE at h
  split at h
  · rename_i r s
    split at h
    · rename_i ty ms e ty' hr hme
      split at h
      · rename_i ms' l hcm hz
        split at h
        · rename_i z hzl
          have hrd : r ∈ out.rd := by
            cases ok with
            | true => simp only [cond_true, Eff.den, Option.some.injEq] at h; rw [← h]; simp
            | false => simp only [cond_false, Eff.den, Option.some.injEq] at h; rw [← h]; simp
          simp only [lookupE, hg r hrd, hr, hme, hcm, hz, hzl]
          exact h
        · cases h
      · cases h
    · cases h
  · cases h
theorem mapUpdE_loc {get get' : Nat → Option Obj} {E : Env} {t : TypeId} {m k v : Val} {out : Out} (h : (mapUpdE get E t m k v).den = some out) (hg : Agree get get' out.rd) : (mapUpdE get' E t m k v).den = some out := by
  unfold mapUpdE at h
  split at h
  · rename_i r s x
    split at h
    · rename_i ty ms e ty' hr hme
      split at h
      · rename_i ms' y hcm hy
        have h0 := h
        simp only [Eff.den, Option.some.injEq] at h
        subst h
        simp only [mapUpdE, hg r (by simp), hr, hme, hcm, hy]
        exact h0
      · cases h
    · cases h
  · cases h
theorem makeMapE_loc {get get' : Nat → Option Obj} {E : Env} {fr : Nat} {t : TypeId} {out : Out} (h : (makeMapE get E fr t).den = some out) (hg : Agree get get' out.rd) : (makeMapE get' E fr t).den = some out := by
  unfold makeMapE at h
  split at h
  · rename_i e ty hme
    have h0 := h
    obtain ⟨hf, h⟩ := bif_true h
    simp only [Eff.den, Option.some.injEq] at h
    subst h
    simp only [makeMapE, hme, isFree_loc (hg fr (by simp))]
    exact h0
  · cases h
theorem arrPtrE_loc {get get' : Nat → Option Obj} {P : Program} {t : TypeId} {x : Val} {out : Out} (h : (arrPtrE get P t x).den = some out) (hg : Agree get get' out.rd) : (arrPtrE get' P t x).den = some out := by
  unfold arrPtrE at h
  split at h
  · rename_i l
    split at h
    · rename_i n e ty xs rs ha hd
      have h0 := h
      obtain ⟨hb, h⟩ := bif_true h
      obtain ⟨_, h⟩ := grd_of h
      simp only [Eff.den, Option.some.injEq] at h
      subst h
      simp only [arrPtrE, ha, dOf_loc hd hg, freezes_loc hg]
      exact h0
    · cases h
  · cases h
theorem copyDst_loc {get get' : Nat → Option Obj} {d r lo n : Nat} {rd : List Nat} (h : copyDst get d = some (r, lo, n, rd)) (hg : Agree get get' rd) : copyDst get' d = some (r, lo, n, rd) ∧ get' r = get r := by
  unfold copyDst at h
  split at h
  · rename_i e t xs hd
    simp only [Option.some.injEq, Prod.mk.injEq] at h
    obtain ⟨rfl, rfl, rfl, rfl⟩ := h
    have := hg d (by simp)
    exact ⟨by unfold copyDst; rw [this, hd], this⟩
  · rename_i r2 lo2 n2 hd
    simp only [Option.some.injEq, Prod.mk.injEq] at h
    obtain ⟨rfl, rfl, rfl, rfl⟩ := h
    exact ⟨by unfold copyDst; rw [hg d (by simp), hd], hg r2 (by simp)⟩
  · cases h
theorem copySrc_loc {get get' : Nat → Option Obj} {l : Leaf} {d : SD} {rs : List Nat} (h : copySrc get l = some (d, rs)) (hg : Agree get get' rs) : copySrc get' l = some (d, rs) := by
  unfold copySrc at h
  split at h
  · rename_i s
    split at h
    · rename_i r lo n hs
      split at h
      · rename_i e t xs hr
        simp only [Option.some.injEq, Prod.mk.injEq] at h
        obtain ⟨rfl, rfl⟩ := h
        simp only [copySrc, hg s (by simp), hs, hg r (by simp), hr]
      · cases h
    · rename_i hn
      have hs : s ∈ rs := by
        unfold sliceOf at h
        simp only at h
        split at h <;> simp at h <;> simp [← h.2]
      have h2 := sliceOf_loc h hg
      unfold copySrc
      simp only [hg s hs]
      first
        | exact h2
        | (split
           · rename_i r lo n hv
             exact absurd hv (hn r lo n)
           · exact h2)
  · rename_i hn
    have h2 := sliceOf_loc h hg
    unfold copySrc
    split
    · rename_i s
      exact absurd rfl (hn s)
    · exact h2
theorem copyE_loc {get get' : Nat → Option Obj} {E : Env} {t : TypeId} {d x : Leaf} {out : Out} (h : (copyE get E t d x).den = some out) (hg : Agree get get' out.rd) : (copyE get' E t d x).den = some out := by
  unfold copyE at h
  split at h
  · rename_i d
    split at h
    · rename_i r lo n rd t' ys0 rs hdst hsrc
      split at h
      · rename_i e ty xs hr
        split at h
        · rename_i ys hys
          have h0 := h
          obtain ⟨hf, h⟩ := bif_true h
          simp only [Eff.den, Option.some.injEq] at h
          subst h
          obtain ⟨h1, h2⟩ := copyDst_loc hdst hg.left
          simp only [copyE, h1, copySrc_loc hsrc hg.right, h2, hr, hys]
          exact h0
        · cases h
      · cases h
    · cases h
  · cases h
theorem nilCmp_rd {E : Env} {t : TypeId} {op : BinOp} {n : Nat} {rd : List Nat} {u : Value} {out : Out} (h : (nilCmp E t op n rd u).den = some out) : out.rd = rd := by
  unfold nilCmp at h
  obtain ⟨_, h⟩ := bif_true h
  split at h
  · simp only [Eff.den, Option.some.injEq] at h
    rw [← h]
  · simp only [Eff.den, Option.some.injEq] at h
    rw [← h]
  · cases h
theorem bytesOut_loc {get get' : Nat → Option Obj} {P : Program} {s t : TypeId} {l : Leaf} {out : Out} (h : (bytesOut get P s t l).den = some out) (hg : Agree get get' out.rd) : (bytesOut get' P s t l).den = some out := by
  unfold bytesOut at h
  split at h
  · rename_i t' xs rs hsl
    split at h
    · rename_i ys hys
      have h0 := h
      obtain ⟨hf, h⟩ := bif_true h
      simp only [Eff.den, Option.some.injEq] at h
      subst h
      simp only [bytesOut, sliceOf_loc hsl hg, hys]
      exact h0
    · cases h
  · cases h

theorem idxE_loc {E : Env} {t : TypeId} {x : Val} {i : Int} {out : Out} (h : (idxE get E t x i).den = some out) (hg : Agree get get' out.rd) : (idxE get' E t x i).den = some out := by
  unfold idxE at h
  split at h
  · exact h
  · rename_i r
    split at h
    · rename_i e ty xs hr
      obtain ⟨hb, h⟩ := bif_true h
      have ho := (Option.some.inj (grd_of (grd_of h).2).2).symm
      subst ho
      simp only [idxE, hg.head, hr, hb, cond_true]
      exact h
    · rename_i ty xs hr
      have h0 := h
      unfold idxDat at h
      obtain ⟨hb, h⟩ := bif_true h
      have ho := (Option.some.inj (grd_of (grd_of h).2).2).symm
      subst ho
      simp only [idxE, hg.head, hr]
      exact h0
    · cases h
  · exact h
  · exact h
  · exact h
  · cases h

theorem rowData_loc {r : Nat} {t : Ty} (h : get' r = get r) : rowData get' r t = rowData get r t := by simp [rowData, h]

/-- What a taking looks at: what it has met at its end. -/
def MetAgree (get get' : Nat → Option Obj) (m : Met) : Prop := (∀ o n, findId o m.ids = some (some n) → get' n = get n) ∧ ∀ n, n ∈ m.seen → get' n = get n
theorem MetAgree.sub {m m' : Met} (h : MetAgree get get' m') (hs : Sub m m') : MetAgree get get' m := ⟨fun o n ho => h.1 o n (hs.1 _ _ ho), fun n hn => h.2 n (hs.2 n hn)⟩

theorem LS.take_loc {l : LS} {a : Leaf} {m m' : Met} {y : l.T} (h : l.take get a m = some (y, m')) (hg : MetAgree get get' m') : l.take get' a m = some (y, m') := by
  unfold LS.take at h ⊢
  split at h
  · exact h
  · exact h
  · rename_i t n
    have hn : n ∈ m'.seen := by
      split at h
      · simp at h
        rw [← h.2]
        simp
      · cases h
    simp only [rowData_loc (hg.2 n hn)]
    exact h
  · exact h
  · exact h
  · exact h
  · exact h
  · exact h
  · exact h
  · cases h

theorem takeLs_loc : ∀ {ls : List LS} {as : List Leaf} {m m' : Met} {y : TLs ls}, takeLs get ls as m = some (y, m') → MetAgree get get' m' → takeLs get' ls as m = some (y, m')
  | [], [], m, m', y, h, _ => h
  | [], _ :: _, _, _, _, h, _ => by simp [takeLs] at h
  | _ :: _, [], _, _, _, h, _ => by simp [takeLs] at h
  | l :: ls, a :: as, m, m', y, h, hg => by
    simp only [takeLs] at h ⊢
    split at h
    · rename_i x m1 h1
      split at h
      · rename_i z m2 h2
        have hm : m2 = m' := by simp at h; exact h.2
        subst hm
        rw [LS.take_loc h1 (hg.sub (takeLs_grow h2).1)]
        simp only [takeLs_loc h2 hg]
        exact h
      · cases h
    · cases h

theorem AS.take_loc {s : AS} {a : AV} {m m' : Met} {y : s.T} (h : s.take get a m = some (y, m')) (hg : MetAgree get get' m') : s.take get' a m = some (y, m') := by
  unfold AS.take at h ⊢
  split at h
  · exact LS.take_loc h hg
  · exact takeLs_loc h hg
  · cases h

theorem takeSlots_loc {sl : Nat → Val} : ∀ {l : List (Nat × AS)} {m m' : Met} {y : TSlots l}, takeSlots get sl l m = some (y, m') → MetAgree get get' m' → takeSlots get' sl l m = some (y, m')
  | [], m, m', y, h, _ => h
  | s :: ss, m, m', y, h, hg => by
    simp only [takeSlots] at h ⊢
    split at h
    · rename_i a ha
      split at h
      · rename_i x m1 h1
        split at h
        · rename_i z m2 h2
          have hm : m2 = m' := by simp at h; exact h.2
          subst hm
          simp only [AS.take_loc h1 (hg.sub (takeSlots_grow h2).1), takeSlots_loc h2 hg]
          exact h
        · cases h
      · cases h
    · cases h

theorem OS.take_loc {s : OS} {o : Nat} {m m' : Met} {y : s.T} (h : s.take get (findId o m.ids) m = some (y, m')) (hg : MetAgree get get' m') : s.take get' (findId o m.ids) m = some (y, m') := by
  have hs := (OS.take_grow h).1
  have hn : ∀ n, findId o m.ids = some (some n) → get' n = get n := fun n hn => hg.1 o n (hs.1 _ _ hn)
  generalize findId o m.ids = i at h hn
  unfold OS.take at h ⊢
  split at h
  · exact h
  · rename_i e t n
    simp only [hn n rfl]
    exact h
  · rename_i ls n
    simp only [hn n rfl]
    split at h
    · exact takeLs_loc h hg
    · cases h
  · rename_i n
    simp only [hn n rfl]
    exact h
  · rename_i t n
    simp only [hn n rfl]
    exact h
  · exact h
  · cases h

theorem takeObjs_loc : ∀ {l : List OS} {o : Nat} {m m' : Met} {y : TObjs l}, takeObjs get l o m = some (y, m') → MetAgree get get' m' → takeObjs get' l o m = some (y, m')
  | [], o, m, m', y, h, _ => h
  | s :: ss, o, m, m', y, h, hg => by
    simp only [takeObjs] at h ⊢
    split at h
    · rename_i x m1 h1
      split at h
      · rename_i z m2 h2
        have hm : m2 = m' := by simp at h; exact h.2
        subst hm
        simp only [OS.take_loc h1 (hg.sub (takeObjs_grow h2).1), takeObjs_loc h2 hg]
        exact h
      · cases h
    · cases h

theorem takeS_loc {S : Shape} {n0 : Nat} {sl : Nat → Val} {x : Tup S} {m : Met} (h : takeS S n0 get sl = some (x, m)) (hg : MetAgree get get' m) : takeS S n0 get' sl = some (x, m) := by
  unfold takeS at h ⊢
  split at h
  · rename_i xs m1 h1
    split at h
    · rename_i ys m2 h2
      have hm : m2 = m := by
        cases hb : m2.apart && m2.live S.objs with
        | false => rw [hb] at h; cases h
        | true => rw [hb] at h; simp at h; exact h.2
      subst hm
      simp only [takeSlots_loc h1 (hg.sub (takeObjs_grow h2).1), takeObjs_loc h2 hg]
      exact h
    · cases h
  · cases h

theorem idsOf_mem {o n : Nat} : ∀ {l : List (Nat × Option Nat)}, (o, some n) ∈ l → n ∈ reach.idsOf l
  | [], h => by simp at h
  | (o', none) :: r, h => by
    simp only [List.mem_cons, Prod.mk.injEq, reduceCtorEq, and_false, false_or] at h
    exact idsOf_mem (l := r) h
  | (o', some n') :: r, h => by
    simp only [List.mem_cons, Prod.mk.injEq, Option.some.injEq] at h
    simp only [reach.idsOf, List.mem_cons]
    rcases h with ⟨rfl, rfl⟩ | h
    · exact .inl rfl
    · exact .inr (idsOf_mem (l := r) h)

theorem tiesOk_loc {all : List (Nat × Option Nat)} : ∀ {l : List (Nat × Option Nat)}, (∀ o n, (o, some n) ∈ l → get' n = get n) → tiesOk get' all l = tiesOk get all l
  | [], _ => rfl
  | (o, none) :: r, h => tiesOk_loc (l := r) fun o' n hm => h o' n (List.mem_cons_of_mem _ hm)
  | (o, some n) :: r, h => by
    simp only [tiesOk, isFree_loc (h o n (by simp)), tiesOk_loc (l := r) fun o' n hm => h o' n (List.mem_cons_of_mem _ hm)]

theorem freeAll_loc {fr : Nat} : ∀ {k : Nat}, Agree get get' (newIds fr k) → freeAll get' fr k = freeAll get fr k
  | 0, _ => rfl
  | k + 1, h => by
    have ih := freeAll_loc (fr := fr) (k := k) h.tail
    simp only [freeAll, newIds, List.all_cons] at ih ⊢
    rw [isFree_loc h.head, ih]

theorem callE_loc {fr : Nat} {p : Proc} {args : List Val} {out : Out} (h : (callE get fr p args).den = some out) (hg : Agree get get' out.rd) : (callE get' fr p args).den = some out := by
  have h0 := h
  unfold callE at h
  split at h
  · rename_i x m hx
    cases hb : (freeAll get fr p.outS.objs.length && (Nat.beq (List.length args) p.nargs && (allLive p.inS.objs p.n0 && (Nat.ble p.n0 p.outS.objs.length && tiesOk get m.ids m.ids)))) with
    | false => rw [hb] at h; cases h
    | true =>
      rw [hb] at h
      simp only [Bool.not_true, cond_false, Eff.den] at h
      cases hr : p.F x with
      | none => rw [hr] at h; cases h
      | some r =>
        rw [hr] at h
        simp only [Option.bind_some, Option.some.injEq] at h
        have hrd : out.rd = List.append (newIds fr p.outS.objs.length) (reach m) := by rw [← h]
        rw [hrd] at hg
        have hr1 : Agree get get' (reach m) := hg.right
        have hids : ∀ o n, (o, some n) ∈ m.ids → get' n = get n := by
          intro o n hm
          apply hr1
          cases m with
          | mk ids seen => exact List.mem_append.2 (.inl (idsOf_mem hm))
        have hseen : Agree get get' m.seen := by
          intro n hn
          apply hr1
          cases m with
          | mk ids seen => exact List.mem_append.2 (.inr hn)
        have hm : MetAgree get get' m := ⟨fun o n ho => hids o n (findId_mem ho), hseen⟩
        have hb' : (freeAll get' fr p.outS.objs.length && (Nat.beq (List.length args) p.nargs && (allLive p.inS.objs p.n0 && (Nat.ble p.n0 p.outS.objs.length && tiesOk get' m.ids m.ids)))) = true := by
          rw [freeAll_loc hg.left, tiesOk_loc hids]
          exact hb
        simp only [callE, takeS_loc hx hm, hb', Bool.not_true, cond_false, Eff.den, hr, Option.bind_some, freezes_loc hseen, Option.some.injEq]
        exact h
  · cases h

end
end Go.Abs

/- An operation looks at its operands and at what its log tells, and at nothing else. -/
namespace Go.Abs
open Go

section
variable {get get' : Nat → Option Obj} {E : Env} {sl sl' : Nat → Val}

theorem partsOf_congr {ev ev' : Operand → Val} : ∀ {l : List (Nat × Operand)}, (∀ p ∈ l, ev' p.2 = ev p.2) → partsOf ev' l = partsOf ev l
  | [], _ => rfl
  | (i, x) :: r, h => by
    have h1 := h (i, x) (by simp)
    simp only at h1
    simp only [partsOf, h1, partsOf_congr (l := r) fun p hp => h p (List.mem_cons_of_mem _ hp)]
theorem capsOf_congr {ev ev' : Operand → Val} : ∀ {l : List Operand}, (∀ x ∈ l, ev' x = ev x) → capsOf ev' l = capsOf ev l
  | [], _ => rfl
  | x :: r, h => by
    simp only [capsOf, h x (by simp), capsOf_congr (l := r) fun p hp => h p (List.mem_cons_of_mem _ hp)]
theorem optInt_congr {ev ev' : Operand → Val} {x : Option Operand} (h : ∀ y, x = some y → ev' y = ev y) : optInt ev' x = optInt ev x := by
  cases x with
  | none => rfl
  | some x => simp only [optInt, h x rfl]
theorem litOut_congr {ev ev' : Operand → Val} {fr : Nat} {t : TypeId} {len : Nat} {l : List (Nat × Operand)} (h : ∀ p ∈ l, ev' p.2 = ev p.2) : litOut get E ev' fr t len l = litOut get E ev fr t len l := by
  simp only [litOut, partsOf_congr h]
theorem buildAv_congr {P : Program} {ev ev' : Operand → Val} {t : TypeId} {l : List (Nat × Operand)} (h : ∀ p ∈ l, ev' p.2 = ev p.2) : buildAv P ev' t l = buildAv P ev t l := by
  simp only [buildAv, partsOf_congr h]

theorem opE_ev {fr : Nat} {o : Oper} (h : ∀ x ∈ o.op.operands, evalO E sl' x = evalO E sl x) : opE E sl' get fr o = opE E sl get fr o := by
  obtain ⟨dst, op, type, pos, after, guard⟩ := o
  cases op with
  | move x => simp only [opE, h x (by simp [Op.operands])]
  | assign x => simp only [opE, h x (by simp [Op.operands])]
  | pick c x y => simp only [opE, h c (by simp [Op.operands]), h x (by simp [Op.operands]), h y (by simp [Op.operands])]
  | alloc t => rfl
  | box t x => simp only [opE, h x (by simp [Op.operands])]
  | build t parts =>
    have hp : ∀ p ∈ parts.toList, evalO E sl' p.2 = evalO E sl p.2 := fun p hp => h p.2 (by
      simp only [Op.operands, List.mem_toArray]
      exact List.mem_map.2 ⟨p, hp, rfl⟩)
    simp only [opE, buildAv_congr hp]
  | buildSlice t len parts =>
    have hp : ∀ p ∈ parts.toList, evalO E sl' p.2 = evalO E sl p.2 := fun p hp => h p.2 (by
      simp only [Op.operands, List.mem_toArray]
      exact List.mem_map.2 ⟨p, hp, rfl⟩)
    simp only [opE, litOut_congr hp]
  | load t x => simp only [opE, h x (by simp [Op.operands])]
  | store t x y => simp only [opE, h x (by simp [Op.operands]), h y (by simp [Op.operands])]
  | nilCheck x => simp only [opE, h x (by simp [Op.operands])]
  | binOp op t x y p => simp only [opE, h x (by simp [Op.operands]), h y (by simp [Op.operands])]
  | unOp op t x => simp only [opE, h x (by simp [Op.operands])]
  | convert s t x => simp only [opE, h x (by simp [Op.operands])]
  | makeFunc f first caps =>
    cases f with
    | func f =>
      have hp : ∀ x ∈ caps.toList, evalO E sl' x = evalO E sl x := fun x hx => h x (by
        simp only [Op.operands, Array.mem_append]
        exact .inr (by simpa using hx))
      have hp2 : ∀ x ∈ first.toList, evalO E sl' x = evalO E sl x := fun x hx => h x (by
        simp only [Op.operands, Array.mem_append]
        exact .inl (by simpa using hx))
      simp only [opE, capsOf_congr hp, capsOf_congr hp2]
    | _ => rfl
  | makeSlice t l c => simp only [opE, h l (by simp [Op.operands])]
  | range t x => simp only [opE, h x (by simp [Op.operands])]
  | next x b =>
    cases b with
    | false => rfl
    | true => simp only [opE, h x (by simp [Op.operands])]
  | slice t x lo hi mx =>
    cases mx with
    | some _ => rfl
    | none =>
      have h1 : optInt (evalO E sl') lo = optInt (evalO E sl) lo := optInt_congr fun y hy => h y (by subst hy; simp [Op.operands])
      have h2 : optInt (evalO E sl') hi = optInt (evalO E sl) hi := optInt_congr fun y hy => h y (by subst hy; simp [Op.operands])
      simp only [opE, h x (by simp [Op.operands]), h1, h2]
  | makeMap t r =>
    cases r with
    | some _ => rfl
    | none => rfl
  | lookup t m k ok => simp only [opE, h m (by simp [Op.operands]), h k (by simp [Op.operands])]
  | mapUpdate t m k x => simp only [opE, h m (by simp [Op.operands]), h k (by simp [Op.operands]), h x (by simp [Op.operands])]
  | insert t m k x => simp only [opE, h m (by simp [Op.operands]), h k (by simp [Op.operands]), h x (by simp [Op.operands])]
  | sliceToArrayPointer t x => simp only [opE, h x (by simp [Op.operands])]
  | fieldAddr t x f => simp only [opE, h x (by simp [Op.operands])]
  | field t x f => simp only [opE, h x (by simp [Op.operands])]
  | indexAddr t x i => simp only [opE, h x (by simp [Op.operands]), h i (by simp [Op.operands])]
  | index t x i => simp only [opE, h x (by simp [Op.operands]), h i (by simp [Op.operands])]
  | extract t i => simp only [opE, h t (by simp [Op.operands])]
  | call c =>
    have hp : List.map (evalO E sl') c.args.toList = List.map (evalO E sl) c.args.toList := List.map_congr_left fun x hx => h x (by
      simp only [Op.operands, Call.operands]
      simp [show x ∈ c.args by simpa using hx])
    have hf : ∀ f, c.callee = .value f → evalO E sl' f = evalO E sl f := fun f hf => h f (by simp [Op.operands, Call.operands, hf])
    simp only [opE, hp]
    cases hc : c.callee with
    | value f => simp only [hf f hc]
    | _ => rfl
  | _ => rfl

theorem builtinE_loc {fr : Nat} {b : Builtin} {ts : List TypeId} {args : List Val} {out : Out} (h : (builtinE get E fr b ts args).den = some out) (hg : Agree get get' out.rd) : (builtinE get' E fr b ts args).den = some out := by
  unfold builtinE at h
  split at h
  · rename_i t ts' x
    split at h
    · rename_i r hr
      simp only [Eff.den, Option.some.injEq] at h
      subst h
      simp only [builtinE, lenOut_loc hr hg, Eff.den]
    · cases h
  · rename_i t u ts' s x
    cases hb : Nat.beq t u with
    | true =>
      rw [hb] at h
      simp only [builtinE, hb, cond_true] at h ⊢
      exact appendOut_loc h hg
    | false =>
      rw [hb] at h
      simp only [cond_false] at h
      obtain ⟨hb2, h⟩ := bif_true h
      split at h
      · rename_i str
        simp only [builtinE, hb, cond_false, hb2, cond_true]
        exact appendStrE_loc h hg
      · cases h
  · exact copyE_loc h hg
  · exact h
  · exact h
  · cases h

theorem opE_get {fr : Nat} {o : Oper} {out : Out} (h : (opE E sl get fr o).den = some out) (hg : Agree get get' out.rd) : (opE E sl get' fr o).den = some out := by
  obtain ⟨dst, op, type, pos, after, guard⟩ := o
  cases op with
  | alloc t =>
    simp only [opE] at h ⊢
    split at h
    · rename_i z hz
      cases hb : (Nat.beq (List.length z) 0 || !(isFree get fr)) with
      | true => rw [hb] at h; cases h
      | false =>
        rw [hb] at h
        simp only [cond_false, Eff.den, Option.some.injEq] at h
        subst h
        rw [isFree_loc hg.head, hb]
        rfl
    · cases h
  | box t x =>
    simp only [opE] at h ⊢
    split at h
    · rename_i av hx
      cases hb : (Nat.beq (List.length (avLeaves av)) 0 || !(isFree get fr)) with
      | true => rw [hb] at h; cases h
      | false =>
        rw [hb] at h
        simp only [cond_false, Eff.den, Option.some.injEq] at h
        subst h
        rw [isFree_loc hg.head, hb]
        rfl
    · cases h
  | buildSlice t len parts =>
    simp only [opE] at h ⊢
    split at h
    · rename_i r hr
      simp only [Eff.den, Option.some.injEq] at h
      subst h
      rw [litOut_loc hr hg]
      rfl
    · cases h
  | load t x =>
    simp only [opE] at h ⊢
    split at h
    · rename_i v rs hl
      simp only [Eff.den, Option.some.injEq] at h
      subst h
      rw [allOk_loc hl hg]
      rfl
    · cases h
  | store t x y =>
    simp only [opE] at h ⊢
    split at h
    · rename_i r hr
      simp only [Eff.den, Option.some.injEq] at h
      subst h
      rw [storeOut_loc hr hg]
      rfl
    · cases h
  | makeSlice t l c =>
    simp only [opE] at h ⊢
    split at h
    · obtain ⟨hb, h⟩ := bif_true h
      rename_i i j n hn
      simp only [hb, cond_true]
      exact makeOut_loc h hg
    · obtain ⟨hb, h⟩ := bif_true h
      rename_i v m n hn
      simp only [hb, cond_true]
      exact makeOut_loc h hg
    · cases h
  | slice t x lo hi mx =>
    cases mx with
    | some _ => cases h
    | none =>
      simp only [opE] at h ⊢
      split at h
      · rename_i l hh h1 h2
        split at h
        · exact sliceOut_loc h hg
        · exact viewOut_loc h hg
        · exact truncOut_loc h hg
        · exact frontOut_loc h hg
      · cases h
  | range t x =>
    simp only [opE] at h ⊢
    split at h
    · have h0 := h
      obtain ⟨hb, h⟩ := bif_true h
      simp only [Eff.den, Option.some.injEq] at h
      subst h
      rw [isFree_loc hg.head]
      exact h0
    · cases h
  | next it b =>
    cases b with
    | false => cases h
    | true =>
      simp only [opE] at h ⊢
      split at h
      · rename_i q hq
        split at h
        · rename_i s p hb
          have hr : q ∈ out.rd := by
            simp only [Eff.den] at h
            by_cases hlt : p < (s.size : Int)
            · rw [decide_eq_true hlt] at h
              simp only [cond_true, Option.some.injEq] at h
              rw [← h]; simp
            · rw [decide_eq_false hlt] at h
              simp only [cond_false, Option.some.injEq] at h
              rw [← h]; simp
          rw [hg q hr, hb]
          exact h
        · cases h
      · cases h
  | binOp op t x y p =>
    simp only [opE] at h ⊢
    split at h
    · exact h
    · exact h
    · exact h
    · rename_i r u hu hv
      split at h
      · rename_i e0 tt xs hr
        have hrd := nilCmp_rd h
        rw [hrd] at hg
        rw [hg r (by simp), hr]
        exact h
      · rename_i tt xs hr
        have hrd := nilCmp_rd h
        rw [hrd] at hg
        rw [hg r (by simp), hr]
        exact h
      · cases h
    · cases h
  | convert s t x =>
    simp only [opE] at h ⊢
    split at h
    · exact h
    · exact h
    · exact bytesOut_loc h hg
    · exact bytesOut_loc h hg
    · cases h
  | indexAddr t x i =>
    simp only [opE] at h ⊢
    split at h
    · exact idxE_loc h hg
    · cases h
  | call c =>
    simp only [opE] at h ⊢
    split at h
    · exact builtinE_loc h hg
    · rename_i f hf
      split at h
      · rename_i g caps hgv
        split at h
        · rename_i p hp
          exact callE_loc h hg
        · cases h
      · rename_i g b hgv
        split at h
        · rename_i p hp
          exact callE_loc h hg
        · cases h
      · cases h
    · cases h
  | makeFunc f first caps => cases f <;> exact h
  | makeMap t r =>
    cases r with
    | some _ => cases h
    | none => exact makeMapE_loc h hg
  | lookup t m k ok => exact lookupE_loc h hg
  | mapUpdate t m k x => exact mapUpdE_loc h hg
  | insert t m k x => exact mapUpdE_loc h hg
  | sliceToArrayPointer t x => exact arrPtrE_loc h hg
  | _ => exact h

end
end Go.Abs
