/- An operation looks at its operands and at what its log tells, and at nothing else. -/
import Derived.Test.YtcljanaleeapnaaDoorAbs26
set_option linter.unusedVariables false
set_option linter.unusedSimpArgs false
namespace Go.Abs
open Go

section
variable {get get' : Nat → Option Obj} {E : Env} {sl sl' : Nat → Val}

theorem partsOf_congr {ev ev' : Operand → Val} : ∀ {l : List (Nat × Operand)}, (∀ p ∈ l, ev' p.2 = ev p.2) → partsOf ev' l = partsOf ev l
  | [], _ => rfl
  | (i, x) :: r, h => by
    have h1 := h (i, x) (by simp)
    simp only at h1
    simp only [partsOf, h1, partsOf_congr (l := r) fun p hp => h p (List.mem_cons_of_mem _ hp)]
theorem capsOf_congr {ev ev' : Operand → Val} : ∀ {l : List Operand}, (∀ x ∈ l, ev' x = ev x) → capsOf ev' l = capsOf ev l
  | [], _ => rfl
  | x :: r, h => by
    simp only [capsOf, h x (by simp), capsOf_congr (l := r) fun p hp => h p (List.mem_cons_of_mem _ hp)]
theorem optInt_congr {ev ev' : Operand → Val} {x : Option Operand} (h : ∀ y, x = some y → ev' y = ev y) : optInt ev' x = optInt ev x := by
  cases x with
  | none => rfl
  | some x => simp only [optInt, h x rfl]
theorem litOut_congr {ev ev' : Operand → Val} {fr : Nat} {t : TypeId} {len : Nat} {l : List (Nat × Operand)} (h : ∀ p ∈ l, ev' p.2 = ev p.2) : litOut get E ev' fr t len l = litOut get E ev fr t len l := by
  simp only [litOut, partsOf_congr h]
theorem buildAv_congr {P : Program} {ev ev' : Operand → Val} {t : TypeId} {l : List (Nat × Operand)} (h : ∀ p ∈ l, ev' p.2 = ev p.2) : buildAv P ev' t l = buildAv P ev t l := by
  simp only [buildAv, partsOf_congr h]

theorem opE_ev {fr : Nat} {o : Oper} (h : ∀ x ∈ o.op.operands, evalO E sl' x = evalO E sl x) : opE E sl' get fr o = opE E sl get fr o := by
  obtain ⟨dst, op, type, pos, after, guard⟩ := o
  cases op with
  | move x => simp only [opE, h x (by simp [Op.operands])]
  | assign x => simp only [opE, h x (by simp [Op.operands])]
  | pick c x y => simp only [opE, h c (by simp [Op.operands]), h x (by simp [Op.operands]), h y (by simp [Op.operands])]
  | alloc t => rfl
  | box t x => simp only [opE, h x (by simp [Op.operands])]
  | build t parts =>
    have hp : ∀ p ∈ parts.toList, evalO E sl' p.2 = evalO E sl p.2 := fun p hp => h p.2 (by
      simp only [Op.operands, List.mem_toArray]
      exact List.mem_map.2 ⟨p, hp, rfl⟩)
    simp only [opE, buildAv_congr hp]
  | buildSlice t len parts =>
    have hp : ∀ p ∈ parts.toList, evalO E sl' p.2 = evalO E sl p.2 := fun p hp => h p.2 (by
      simp only [Op.operands, List.mem_toArray]
      exact List.mem_map.2 ⟨p, hp, rfl⟩)
    simp only [opE, litOut_congr hp]
  | load t x => simp only [opE, h x (by simp [Op.operands])]
  | store t x y => simp only [opE, h x (by simp [Op.operands]), h y (by simp [Op.operands])]
  | nilCheck x => simp only [opE, h x (by simp [Op.operands])]
  | binOp op t x y p => simp only [opE, h x (by simp [Op.operands]), h y (by simp [Op.operands])]
  | unOp op t x => simp only [opE, h x (by simp [Op.operands])]
  | convert s t x => simp only [opE, h x (by simp [Op.operands])]
  | makeFunc f first caps =>
    cases f with
    | func f =>
      have hp : ∀ x ∈ caps.toList, evalO E sl' x = evalO E sl x := fun x hx => h x (by
        simp only [Op.operands, Array.mem_append]
        exact .inr (by simpa using hx))
      simp only [opE, capsOf_congr hp]
    | _ => rfl
  | makeSlice t l c => simp only [opE, h l (by simp [Op.operands])]
  | slice t x lo hi mx =>
    cases mx with
    | some _ => rfl
    | none =>
      have h1 : optInt (evalO E sl') lo = optInt (evalO E sl) lo := optInt_congr fun y hy => h y (by subst hy; simp [Op.operands])
      have h2 : optInt (evalO E sl') hi = optInt (evalO E sl) hi := optInt_congr fun y hy => h y (by subst hy; simp [Op.operands])
      simp only [opE, h x (by simp [Op.operands]), h1, h2]
  | fieldAddr t x f => simp only [opE, h x (by simp [Op.operands])]
  | field t x f => simp only [opE, h x (by simp [Op.operands])]
  | indexAddr t x i => simp only [opE, h x (by simp [Op.operands]), h i (by simp [Op.operands])]
  | index t x i => simp only [opE, h x (by simp [Op.operands]), h i (by simp [Op.operands])]
  | extract t i => simp only [opE, h t (by simp [Op.operands])]
  | call c =>
    have hp : List.map (evalO E sl') c.args.toList = List.map (evalO E sl) c.args.toList := List.map_congr_left fun x hx => h x (by
      simp only [Op.operands, Call.operands]
      simp [show x ∈ c.args by simpa using hx])
    have hf : ∀ f, c.callee = .value f → evalO E sl' f = evalO E sl f := fun f hf => h f (by simp [Op.operands, Call.operands, hf])
    simp only [opE, hp]
    cases hc : c.callee with
    | value f => simp only [hf f hc]
    | _ => rfl
  | _ => rfl

theorem builtinE_loc {fr : Nat} {b : Builtin} {ts : List TypeId} {args : List Val} {out : Out} (h : (builtinE get E fr b ts args).den = some out) (hg : Agree get get' out.rd) : (builtinE get' E fr b ts args).den = some out := by
  unfold builtinE at h
  split at h
  · rename_i t ts' x
    split at h
    · rename_i r hr
      simp only [Eff.den, Option.some.injEq] at h
      subst h
      simp only [builtinE, lenOut_loc hr hg, Eff.den]
    · cases h
  · obtain ⟨hb, h⟩ := bif_true h
    simp only [builtinE, hb, cond_true]
    exact appendOut_loc h hg
  · exact h
  · exact h
  · cases h

theorem opE_get {fr : Nat} {o : Oper} {out : Out} (h : (opE E sl get fr o).den = some out) (hg : Agree get get' out.rd) : (opE E sl get' fr o).den = some out := by
  obtain ⟨dst, op, type, pos, after, guard⟩ := o
  cases op with
  | alloc t =>
    simp only [opE] at h ⊢
    split at h
    · rename_i z hz
      cases hb : (Nat.beq (List.length z) 0 || !(isFree get fr)) with
      | true => rw [hb] at h; cases h
      | false =>
        rw [hb] at h
        simp only [cond_false, Eff.den, Option.some.injEq] at h
        subst h
        rw [isFree_loc hg.head, hb]
        rfl
    · cases h
  | box t x =>
    simp only [opE] at h ⊢
    split at h
    · rename_i av hx
      cases hb : (Nat.beq (List.length (avLeaves av)) 0 || !(isFree get fr)) with
      | true => rw [hb] at h; cases h
      | false =>
        rw [hb] at h
        simp only [cond_false, Eff.den, Option.some.injEq] at h
        subst h
        rw [isFree_loc hg.head, hb]
        rfl
    · cases h
  | buildSlice t len parts =>
    simp only [opE] at h ⊢
    split at h
    · rename_i r hr
      simp only [Eff.den, Option.some.injEq] at h
      subst h
      rw [litOut_loc hr hg]
      rfl
    · cases h
  | load t x =>
    simp only [opE] at h ⊢
    split at h
    · rename_i v rs hl
      simp only [Eff.den, Option.some.injEq] at h
      subst h
      rw [allOk_loc hl hg]
      rfl
    · cases h
  | store t x y =>
    simp only [opE] at h ⊢
    split at h
    · rename_i r hr
      simp only [Eff.den, Option.some.injEq] at h
      subst h
      rw [storeOut_loc hr hg]
      rfl
    · cases h
  | makeSlice t l c =>
    simp only [opE] at h ⊢
    split at h
    · obtain ⟨hb, h⟩ := bif_true h
      rename_i i j n hn
      simp only [hb, cond_true]
      exact makeOut_loc h hg
    · obtain ⟨hb, h⟩ := bif_true h
      rename_i v m n hn
      simp only [hb, cond_true]
      exact makeOut_loc h hg
    · cases h
  | slice t x lo hi mx =>
    cases mx with
    | some _ => cases h
    | none =>
      simp only [opE] at h ⊢
      split at h
      · rename_i l hh h1 h2
        exact sliceOut_loc h hg
      · cases h
  | indexAddr t x i =>
    simp only [opE] at h ⊢
    split at h
    · exact idxE_loc h hg
    · cases h
  | call c =>
    simp only [opE] at h ⊢
    split at h
    · exact builtinE_loc h hg
    · rename_i f hf
      split at h
      · rename_i g caps hgv
        split at h
        · rename_i p hp
          exact callE_loc h hg
        · cases h
      · cases h
    · cases h
  | makeFunc f first caps => cases f <;> exact h
  | _ => exact h

end
end Go.Abs
