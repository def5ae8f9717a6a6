/- A state that has a shape: its data, and the relation of the new state that is made out of them. -/
import Derived.Test.YtcljanaleeapnaaDoorAbs17
set_option linter.unusedVariables false
set_option linter.unusedSimpArgs false
namespace Go.Abs
open Go

theorem findId_mem {o : Nat} {b : Option Nat} : ∀ {l : List (Nat × Option Nat)}, findId o l = some b → (o, b) ∈ l
  | [], h => by cases h
  | (a, c) :: r, h => by
    simp only [findId] at h
    cases hb : Nat.beq a o with
    | true =>
      rw [hb] at h
      have := Nat.eq_of_beq_eq_true hb
      subst this
      have h' : c = b := by simpa using h
      subst h'
      simp
    | false =>
      rw [hb] at h
      exact List.mem_cons_of_mem _ (findId_mem h)

/-- One knows what the other knows. -/
def Sub (m m' : Met) : Prop := (∀ o b, findId o m.ids = some b → findId o m'.ids = some b) ∧ ∀ n, n ∈ m.seen → n ∈ m'.seen
theorem Sub.refl (m : Met) : Sub m m := ⟨fun _ _ h => h, fun _ h => h⟩
theorem Sub.trans {a b c : Met} (h : Sub a b) (k : Sub b c) : Sub a c := ⟨fun o x hx => k.1 o x (h.1 o x hx), fun n hn => k.2 n (h.2 n hn)⟩

/-- No two objects of the shape are one. -/
def Inj (l : List (Nat × Option Nat)) : Prop := ∀ o o' n, (o, some n) ∈ l → (o', some n) ∈ l → o = o'

theorem isId_iff {n : Nat} {x : Option Nat} : isId n x = true ↔ x = some n := by
  cases x with
  | none => simp [isId]
  | some m =>
    simp only [isId, Option.some.injEq]
    exact ⟨Nat.eq_of_beq_eq_true, fun h => by rw [h]; exact Nat.beq_refl n⟩

theorem tie_of {m m' : Met} {o n : Nat} (h : m.tie o n = some m') : Sub m m' ∧ findId o m'.ids = some (some n) ∧ (Inj m.ids → Inj m'.ids) := by
  unfold Met.tie at h
  split at h
  · rename_i x hx
    cases hb : isId n x with
    | false => rw [hb] at h; cases h
    | true =>
      rw [hb] at h
      simp at h
      subst h
      rw [isId_iff.1 hb] at hx
      exact ⟨Sub.refl _, hx, id⟩
  · rename_i hx
    cases hb : m.ids.any (fun p => isId n p.2) with
    | true => rw [hb] at h; cases h
    | false =>
      rw [hb] at h
      simp at h
      subst h
      refine ⟨⟨fun o' b h' => ?_, fun _ h => h⟩, ?_, fun hi o1 o2 n' h1 h2 => ?_⟩
      · simp only [findId]
        cases he : Nat.beq o o' with
        | true =>
          have := Nat.eq_of_beq_eq_true he
          subst this
          rw [hx] at h'
          cases h'
        | false => exact h'
      · simp [findId]
      · have hno : ∀ q, (q, some n) ∈ m.ids → False := fun q hq => by
          have : m.ids.any (fun p => isId n p.2) = true := List.any_eq_true.2 ⟨_, hq, isId_iff.2 rfl⟩
          rw [hb] at this
          cases this
        simp only [List.mem_cons, Prod.mk.injEq, Option.some.injEq] at h1 h2
        rcases h1 with ⟨rfl, h1⟩ | h1
        · rcases h2 with ⟨rfl, h2⟩ | h2
          · rfl
          · subst h1; exact (hno _ h2).elim
        · rcases h2 with ⟨rfl, h2⟩ | h2
          · subst h2; exact (hno _ h1).elim
          · exact hi _ _ _ h1 h2

theorem tieNil_of {m m' : Met} {o : Nat} (h : m.tieNil o = some m') : Sub m m' ∧ findId o m'.ids = some none ∧ (Inj m.ids → Inj m'.ids) := by
  unfold Met.tieNil at h
  split at h
  · cases h
  · rename_i hx
    simp at h
    subst h
    refine ⟨⟨fun o' b h' => ?_, fun _ h => h⟩, by simp [findId], fun hi o1 o2 n' h1 h2 => ?_⟩
    · simp only [findId]
      cases he : Nat.beq o o' with
      | true =>
        have := Nat.eq_of_beq_eq_true he
        subst this
        rw [hx] at h'
        cases h'
      | false => exact h'
    · simp only [List.mem_cons, Prod.mk.injEq, reduceCtorEq, and_false, false_or] at h1 h2
      exact hi _ _ _ h1 h2

theorem tieAll_of : ∀ {os ns : List Nat} {m m' : Met}, tieAll m os ns = some m' → Sub m m' ∧ F2 (fun o n => findId o m'.ids = some (some n)) os ns ∧ (Inj m.ids → Inj m'.ids)
  | [], [], m, m', h => by simp [tieAll] at h; subst h; exact ⟨Sub.refl _, trivial, id⟩
  | [], _ :: _, _, _, h => by simp [tieAll] at h
  | _ :: _, [], _, _, h => by simp [tieAll] at h
  | o :: os, n :: ns, m, m', h => by
    simp only [tieAll] at h
    split at h
    · rename_i m1 h1
      obtain ⟨a1, a2, a3⟩ := tie_of h1
      obtain ⟨b1, b2, b3⟩ := tieAll_of h
      exact ⟨a1.trans b1, ⟨b1.1 _ _ a2, b2⟩, fun hi => b3 (a3 hi)⟩
    · cases h

/-! ### Growth of what has been met -/
theorem LS.take_grow {get : Nat → Option Obj} {l : LS} {a : Leaf} {m m' : Met} {y : l.T} (h : l.take get a m = some (y, m')) : Sub m m' ∧ (Inj m.ids → Inj m'.ids) := by
  unfold LS.take at h
  split at h
  · rename_i t x
    cases hb : single t with
    | false => rw [hb] at h; cases h
    | true =>
      rw [hb] at h
      simp only [cond_true] at h
      split at h
      · simp at h; rw [← h.2]; exact ⟨Sub.refl _, id⟩
      · cases h
  · split at h
    · simp at h; rw [← h.2]; exact ⟨Sub.refl _, id⟩
    · cases h
  · split at h
    · simp at h; rw [← h.2]; exact ⟨⟨fun _ _ h => h, fun n hn => List.mem_cons_of_mem _ hn⟩, id⟩
    · cases h
  · split at h
    · rename_i m1 h1
      simp at h
      rw [← h]
      have := tie_of h1
      exact ⟨this.1, this.2.2⟩
    · cases h
  · rename_i o x
    cases hb : isNilSlice x with
    | false => rw [hb] at h; cases h
    | true =>
      rw [hb] at h
      simp only [cond_true] at h
      split at h
      · rename_i m1 h1
        simp at h
        rw [← h]
        have := tieNil_of h1
        exact ⟨this.1, this.2.2⟩
      · cases h
  · rename_i o off n off'
    cases hb : Nat.beq off off' with
    | false => rw [hb] at h; cases h
    | true =>
      rw [hb] at h
      simp only [cond_true] at h
      split at h
      · rename_i m1 h1
        simp at h
        rw [← h]
        have := tie_of h1
        exact ⟨this.1, this.2.2⟩
      · cases h
  · rename_i v x
    cases hb : sameNil v x with
    | false => rw [hb] at h; cases h
    | true =>
      rw [hb] at h
      simp at h
      rw [← h]
      exact ⟨Sub.refl _, id⟩
  · rename_i f caps g ns
    cases hb : Nat.beq f g with
    | false => rw [hb] at h; cases h
    | true =>
      rw [hb] at h
      simp only [cond_true] at h
      split at h
      · rename_i m1 h1
        simp at h
        rw [← h]
        have := tieAll_of h1
        exact ⟨this.1, this.2.2⟩
      · cases h
  · cases h

theorem takeLs_grow {get : Nat → Option Obj} : ∀ {ls : List LS} {as : List Leaf} {m m' : Met} {y : TLs ls}, takeLs get ls as m = some (y, m') → Sub m m' ∧ (Inj m.ids → Inj m'.ids)
  | [], [], m, m', y, h => by simp [takeLs] at h; rw [← h]; exact ⟨Sub.refl _, id⟩
  | [], _ :: _, _, _, _, h => by simp [takeLs] at h
  | _ :: _, [], _, _, _, h => by simp [takeLs] at h
  | l :: ls, a :: as, m, m', y, h => by
    simp only [takeLs] at h
    split at h
    · rename_i x m1 h1
      split at h
      · rename_i z m2 h2
        simp at h
        rw [← h.2]
        have a1 := LS.take_grow h1
        have a2 := takeLs_grow h2
        exact ⟨a1.1.trans a2.1, fun hi => a2.2 (a1.2 hi)⟩
      · cases h
    · cases h

theorem AS.take_grow {get : Nat → Option Obj} {s : AS} {a : AV} {m m' : Met} {y : s.T} (h : s.take get a m = some (y, m')) : Sub m m' ∧ (Inj m.ids → Inj m'.ids) := by
  unfold AS.take at h
  split at h
  · exact LS.take_grow h
  · exact takeLs_grow h
  · cases h

theorem takeSlots_grow {get : Nat → Option Obj} {sl : Nat → Val} : ∀ {l : List (Nat × AS)} {m m' : Met} {y : TSlots l}, takeSlots get sl l m = some (y, m') → Sub m m' ∧ (Inj m.ids → Inj m'.ids)
  | [], m, m', y, h => by simp [takeSlots] at h; rw [← h]; exact ⟨Sub.refl _, id⟩
  | s :: ss, m, m', y, h => by
    simp only [takeSlots] at h
    split at h
    · split at h
      · rename_i x m1 h1
        split at h
        · rename_i z m2 h2
          simp at h
          rw [← h.2]
          have a1 := AS.take_grow h1
          have a2 := takeSlots_grow h2
          exact ⟨a1.1.trans a2.1, fun hi => a2.2 (a1.2 hi)⟩
        · cases h
      · cases h
    · cases h

theorem OS.take_grow {get : Nat → Option Obj} {s : OS} {i : Option (Option Nat)} {m m' : Met} {y : s.T} (h : s.take get i m = some (y, m')) : Sub m m' ∧ (Inj m.ids → Inj m'.ids) := by
  unfold OS.take at h
  split at h
  · simp at h; rw [← h.2]; exact ⟨Sub.refl _, id⟩
  · rename_i e t n
    split at h
    · rename_i e' t' xs hn
      cases hb : Nat.beq e e' with
      | false => rw [hb] at h; cases h
      | true =>
        rw [hb] at h
        simp only [cond_true] at h
        split at h
        · simp at h; rw [← h.2]; exact ⟨Sub.refl _, id⟩
        · cases h
    · cases h
  · split at h
    · exact takeLs_grow h
    · cases h
  · simp at h; rw [← h]; exact ⟨Sub.refl _, id⟩
  · cases h

theorem takeObjs_grow {get : Nat → Option Obj} : ∀ {l : List OS} {o : Nat} {m m' : Met} {y : TObjs l}, takeObjs get l o m = some (y, m') → Sub m m' ∧ (Inj m.ids → Inj m'.ids)
  | [], o, m, m', y, h => by simp [takeObjs] at h; rw [← h]; exact ⟨Sub.refl _, id⟩
  | s :: ss, o, m, m', y, h => by
    simp only [takeObjs] at h
    split at h
    · rename_i x m1 h1
      split at h
      · rename_i z m2 h2
        simp at h
        rw [← h.2]
        have a1 := OS.take_grow h1
        have a2 := takeObjs_grow h2
        exact ⟨a1.1.trans a2.1, fun hi => a2.2 (a1.2 hi)⟩
      · cases h
    · cases h

end Go.Abs
