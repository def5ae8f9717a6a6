/- A call: what comes back is a step of the caller's. -/
import Derived.Test.YtcljanaleeapnaaDoorAbs20
set_option linter.unusedVariables false
set_option linter.unusedSimpArgs false
namespace Go.Abs
open Go

/-- What a procedure says of its function. -/
def ProcSound (P : Program) (glob : Nat → Option (List DLeaf)) (f : FuncId) (p : Proc) : Prop :=
  (∃ fn, P.funcs[f]? = some fn ∧ fn.name ≠ "runtime.NumGoroutine" ∧ fn.body.isSome = true) ∧
  ∀ (C : Ctx), C.E.P = P → C.E.glob = glob → C.E.n0 = p.n0 → ∀ (x : Tup p.inS) (r : p.R), p.F x = some r →
    ∀ (I : Interp) (args : Array Value), WRel C I (ofC p.inS x).objs C.w0 → (∀ i, VRep I (Dom (ofC p.inS x).objs) C.w0 (badOf C I (ofC p.inS x).objs) ((ofC p.inS x).slots i) (args.getD i undef)) → args.size = p.nargs →
      Calls P f args C.w0 fun
        | .returned v, w' => ∃ I', WRel C I' (ofC p.outS (p.post r)).objs w' ∧ VRep I' (Dom (ofC p.outS (p.post r)).objs) w' (badOf C I' (ofC p.outS (p.post r)).objs) (results (makeSlots id p.outS.slots (p.post r).1)) v
        | _, _ => False

section
variable {C : Ctx} {I : Interp} {objs : Nat → Option Obj} {w : World}

theorem putWr_other : ∀ (l : List (Nat × Obj)) (objs : Nat → Option Obj) (i : Nat), i ∉ l.map (·.1) → putWr objs l i = objs i
  | [], _, _, _ => rfl
  | (j, o) :: l, objs, i, h => by
    rw [show putWr objs ((j, o) :: l) = putWr (upd objs j (some o)) l from rfl, putWr_other l _ i (fun hh => h (by simp only [List.map_cons, List.mem_cons]; exact .inr hh)), upd_other _ _ _ _ (fun e => h (by simp [e]))]
theorem putWr_mem : ∀ (l : List (Nat × Obj)) (objs : Nat → Option Obj) (i : Nat), i ∈ l.map (·.1) → ∃ o, putWr objs l i = some o ∧ (i, o) ∈ l
  | [], _, _, h => by simp at h
  | (j, o) :: l, objs, i, h => by
    rw [show putWr objs ((j, o) :: l) = putWr (upd objs j (some o)) l from rfl]
    by_cases hl : i ∈ l.map (·.1)
    · obtain ⟨o', h1, h2⟩ := putWr_mem l (upd objs j (some o)) i hl
      exact ⟨o', h1, List.mem_cons_of_mem _ h2⟩
    · have : i = j := by
        simp only [List.map_cons, List.mem_cons] at h
        exact h.resolve_right hl
      subst this
      exact ⟨o, by rw [putWr_other l _ i hl, upd_same], by simp⟩
theorem putWr_dom (l : List (Nat × Obj)) (objs : Nat → Option Obj) (i : Nat) (h : Dom objs i) : Dom (putWr objs l) i := by
  by_cases hl : i ∈ l.map (·.1)
  · obtain ⟨o, h1, _⟩ := putWr_mem l objs i hl
    simp [Dom, h1]
  · unfold Dom
    rw [putWr_other l objs i hl]
    exact h

theorem gone_mem {n0 : Nat} : ∀ {ids : List (Nat × Option Nat)} {i : Nat} {ob : Obj}, (i, ob) ∈ gone n0 ids → ob = .gone ∧ ∃ o, (o, some i) ∈ ids ∧ n0 ≤ o
  | [], i, ob, h => by simp [gone] at h
  | (o, none) :: r, i, ob, h => by
    obtain ⟨h1, o', h2, h3⟩ := gone_mem (ids := r) h
    exact ⟨h1, o', List.mem_cons_of_mem _ h2, h3⟩
  | (o, some n) :: r, i, ob, h => by
    simp only [gone] at h
    cases hb : Nat.blt o n0 with
    | true =>
      rw [hb] at h
      obtain ⟨h1, o', h2, h3⟩ := gone_mem (ids := r) h
      exact ⟨h1, o', List.mem_cons_of_mem _ h2, h3⟩
    | false =>
      rw [hb] at h
      simp only [cond_false, List.mem_cons, Prod.mk.injEq] at h
      rcases h with ⟨rfl, rfl⟩ | h
      · refine ⟨rfl, o, by simp, ?_⟩
        have : ¬ o < n0 := fun hh => by rw [show Nat.blt o n0 = true from Nat.ble_eq_true_of_le hh] at hb; cases hb
        omega
      · obtain ⟨h1, o', h2, h3⟩ := gone_mem (ids := r) h
        exact ⟨h1, o', List.mem_cons_of_mem _ h2, h3⟩
theorem gone_has {n0 : Nat} : ∀ {ids : List (Nat × Option Nat)} {o i : Nat}, (o, some i) ∈ ids → n0 ≤ o → i ∈ (gone n0 ids).map (·.1)
  | [], o, i, h, _ => by simp at h
  | (o', none) :: r, o, i, h, hn => by
    simp only [List.mem_cons, Prod.mk.injEq, reduceCtorEq, and_false, false_or] at h
    exact gone_has (ids := r) h hn
  | (o', some n) :: r, o, i, h, hn => by
    simp only [gone]
    simp only [List.mem_cons, Prod.mk.injEq, Option.some.injEq] at h
    cases hb : Nat.blt o' n0 with
    | true =>
      rcases h with ⟨rfl, rfl⟩ | h
      · have : o + 1 ≤ n0 := Nat.le_of_ble_eq_true hb
        omega
      · exact gone_has (ids := r) h hn
    | false =>
      simp only [cond_false, List.map_cons, List.mem_cons]
      rcases h with ⟨rfl, rfl⟩ | h
      · exact .inl rfl
      · exact .inr (gone_has (ids := r) h hn)

theorem back_mem (f : Nat → Nat) : ∀ {k : Nat} {l : List (Option Obj)} {i : Nat} {ob : Obj}, (i, ob) ∈ backObjs f k l → ∃ o, o < l.length ∧ i = f (k + o) ∧ (ob = .gone ∨ getO l o = some ob)
  | _, [], i, ob, h => by simp [backObjs] at h
  | k, some x :: r, i, ob, h => by
    simp only [backObjs, List.mem_cons, Prod.mk.injEq] at h
    rcases h with ⟨rfl, rfl⟩ | h
    · exact ⟨0, by simp, rfl, .inr rfl⟩
    · obtain ⟨o, h1, h2, h3⟩ := back_mem f h
      exact ⟨o + 1, by simp only [List.length_cons]; omega, by rw [h2]; congr 1; omega, h3⟩
  | k, none :: r, i, ob, h => by
    simp only [backObjs, List.mem_cons, Prod.mk.injEq] at h
    rcases h with ⟨rfl, rfl⟩ | h
    · exact ⟨0, by simp, rfl, .inl rfl⟩
    · obtain ⟨o, h1, h2, h3⟩ := back_mem f h
      exact ⟨o + 1, by simp only [List.length_cons]; omega, by rw [h2]; congr 1; omega, h3⟩
theorem back_has (f : Nat → Nat) : ∀ {k : Nat} {l : List (Option Obj)} {o : Nat}, o < l.length → f (k + o) ∈ (backObjs f k l).map (·.1)
  | _, [], o, h => by simp at h
  | k, some x :: r, 0, h => by simp [backObjs]
  | k, none :: r, 0, h => by simp [backObjs]
  | k, some x :: r, o + 1, h => by
    simp only [backObjs, List.map_cons, List.mem_cons]
    have := back_has f (k := k + 1) (l := r) (o := o) (by simpa using h)
    rw [show k + 1 + o = k + (o + 1) by omega] at this
    exact .inr this
  | k, none :: r, o + 1, h => by
    simp only [backObjs, List.map_cons, List.mem_cons]
    have := back_has f (k := k + 1) (l := r) (o := o) (by simpa using h)
    rw [show k + 1 + o = k + (o + 1) by omega] at this
    exact .inr this

theorem makeObjs_length (ρ : Nat → Nat) : ∀ (l : List OS) (y : TObjs l), (makeObjs ρ l y).length = l.length
  | [], _ => rfl
  | _ :: l, y => by simp [makeObjs, makeObjs_length ρ l y.2]
theorem getO_lt {α : Type} : ∀ {l : List (Option α)} {i : Nat} {x : α}, getO l i = some x → i < l.length
  | [], _, _, h => by simp [getO] at h
  | _ :: _, 0, _, _ => by simp
  | _ :: r, i + 1, x, h => by
    have := getO_lt (l := r) (i := i) h
    simp only [List.length_cons]
    omega

/-- The two makings of an object side by side. -/
theorem makeObjs_two (ρ ρ' : Nat → Nat) : ∀ (l : List OS) (y : TObjs l) (o : Nat) (ob : Obj), getO (makeObjs ρ l y) o = some ob → ∃ (s : OS) (z : s.T) (ob' : Obj), s.make ρ z = some ob ∧ s.make ρ' z = some ob' ∧ getO (makeObjs ρ' l y) o = some ob' ∧ (objsDat [s] = true → objsDat l = true)
  | [], _, _, _, h => by simp [makeObjs, getO] at h
  | s :: l, y, 0, ob, h => by
    simp only [makeObjs, getO] at h ⊢
    cases s with
    | row e t => exact ⟨.row e t, y.1, _, h, rfl, rfl, fun hh => by rw [objsDat_cons, hh]; rfl⟩
    | box ls => exact ⟨.box ls, y.1, _, h, rfl, rfl, fun hh => by rw [objsDat_cons, hh]; rfl⟩
    | dead => cases h
  | s :: l, y, o + 1, ob, h => by
    simp only [makeObjs, getO] at h ⊢
    obtain ⟨s', z, ob', h1, h2, h3, h4⟩ := makeObjs_two ρ ρ' l y.2 o ob h
    exact ⟨s', z, ob', h1, h2, h3, fun hh => by rw [objsDat_cons, h4 hh]; simp⟩

theorem freeAll_of {fr : Nat} : ∀ {k o : Nat}, freeAll objs fr k = true → o < k → objs (fr + o) = none
  | 0, o, _, h => by omega
  | k + 1, o, h, ho => by
    simp only [freeAll, newIds, List.all_cons, Bool.and_eq_true] at h
    by_cases e : o = k
    · subst e; exact isFree_of h.1
    · exact freeAll_of (k := k) (by simp only [freeAll]; exact h.2) (by omega)

theorem tiesOk_of {all : List (Nat × Option Nat)} : ∀ {l : List (Nat × Option Nat)}, tiesOk objs all l = true → ∀ o n, (o, some n) ∈ l → Dom objs n ∧ findId o all = some (some n)
  | [], _, o, n, h => by simp at h
  | (o', none) :: r, h, o, n, hm => by
    simp only [List.mem_cons, Prod.mk.injEq, reduceCtorEq, and_false, false_or] at hm
    exact tiesOk_of (l := r) h o n hm
  | (o', some n') :: r, h, o, n, hm => by
    simp only [tiesOk, Bool.and_eq_true] at h
    simp only [List.mem_cons, Prod.mk.injEq, Option.some.injEq] at hm
    rcases hm with ⟨rfl, rfl⟩ | hm
    · constructor
      · have := h.1.1
        unfold isFree at this
        cases hg : objs n with
        | none => rw [hg] at this; cases this
        | some x => simp [Dom, hg]
      · have := h.1.2
        split at this
        · rename_i x hx
          rw [hx, isId_iff.1 this]
        · cases this
    · exact tiesOk_of (l := r) h.2 o n hm

theorem allLive_of {l : List OS} : ∀ {n k : Nat}, allLive l n = true → k < n → liveO l k = true
  | 0, k, _, h => by omega
  | n + 1, k, h, hk => by
    simp only [allLive, Bool.and_eq_true] at h
    by_cases e : k = n
    · subst e; exact h.1
    · exact allLive_of h.2 (by omega)

theorem numbered_of {dom : Nat → Prop} {bad : Bad} : ∀ {args : List Val} {vs : List Value} (k : Nat), F2 (VRep I dom w bad) args vs → ∀ i, VRep I dom w bad (numbered k args (k + i)) (vs.getD i undef)
  | [], _, k, _, i => trivial
  | _ :: _, [], _, h, _ => h.elim
  | a :: args, v :: vs, k, h, i => by
    simp only [numbered]
    cases i with
    | zero => simpa using h.1
    | succ i =>
      have hb : Nat.beq k (k + (i + 1)) = false := by
        cases hb : Nat.beq k (k + (i + 1))
        · rfl
        · have := Nat.eq_of_beq_eq_true hb; omega
      rw [hb]
      have := numbered_of (k + 1) h.2 i
      rw [show k + 1 + i = k + (i + 1) by omega] at this
      simpa using this

end
end Go.Abs
