/- A region of the code, as the evaluator reads it. -/
import Derived.Test.YtcljanaleeapnaaDoorAbs29
set_option linter.unusedVariables false
set_option linter.unusedSimpArgs false
namespace Go.Abs
open Go

/-- A state stands for a frame and a world. -/
def Rel (C : Ctx) (st : St) (a : Act) (w : World) : Prop := ∃ I, WRel C I st.objs w ∧ SRel C I st.objs w st.slots a ∧ a.tmps.size = C.E.ntmps ∧ a.defers = []

section
variable {C : Ctx} {ops : Array Oper} {fr0 : Nat}

theorem undef_vrep {I : Interp} {dom : Nat → Prop} {w : World} {bad : Bad} (v : Value) : VRep I dom w bad .undef v := trivial

theorem put_rel {I : Interp} {objs objs' : Nat → Option Obj} {w w' : World} {I' : Interp} {sl s : Nat → Val} {a : Act} {d : Option Tmp} {x : Val} {v : Value}
    (K : Keep I (Dom objs) w (badOf C I objs) I' (Dom objs') w' (badOf C I' objs')) (R' : WRel C I' objs' w') (S : SRel C I objs w sl a) (hsz : a.tmps.size = C.E.ntmps) (hdf : a.defers = [])
    (hv : VRep I' (Dom objs') w' (badOf C I' objs') x v) (hp : putVal C.E.ntmps sl d x = some s) (n : Nat) : Rel C ⟨s, objs', n⟩ (a.put d v) w' := by
  have S' : SRel C I' objs' w' sl a := fun i => K.vrep _ _ (S i)
  refine ⟨I', R', ?_, ?_, ?_⟩
  · intro i
    unfold putVal at hp
    cases d with
    | none =>
      simp only [Option.some.injEq] at hp
      subst hp
      exact S' i
    | some t =>
      simp only at hp
      cases hb : Nat.blt t C.E.ntmps with
      | false => rw [hb] at hp; cases hp
      | true =>
        rw [hb] at hp
        simp only [cond_true, Option.some.injEq] at hp
        subst hp
        have hlt : t < a.tmps.size := by rw [hsz]; exact Nat.le_of_ble_eq_true hb
        by_cases e : i = t
        · subst e
          show VRep I' (Dom objs') w' (badOf C I' objs') (upd sl i x i) _
          rw [upd_same]
          simp only [Act.put]
          simpa [hlt] using hv
        · show VRep I' (Dom objs') w' (badOf C I' objs') (upd sl t x i) _
          rw [upd_other _ _ _ _ e]
          have := S' i
          simp only [Act.put]
          simpa [Array.getElem?_setIfInBounds_ne (Ne.symm e)] using this
  · cases d <;> simp [Act.put, hsz]
  · cases d <;> simp [Act.put, hdf]

theorem guard_rel {I : Interp} {objs : Nat → Option Obj} {w : World} {sl : Nat → Val} {a : Act} {o : Oper} {b : Bool} (S : SRel C I objs w sl a) (h : guardOf ops o sl = some b) : Region.wanted o (yielded ops a.tmps) = b := by
  unfold guardOf at h
  unfold Region.wanted
  cases hg : o.guard with
  | none => rw [hg] at h; simpa using h
  | some p =>
    obtain ⟨j, want⟩ := p
    rw [hg] at h
    simp only at h ⊢
    split at h
    · rename_i d hd
      split at h
      · rename_i x hx
        simp only [Option.some.injEq] at h
        have hv := S d
        rw [hx] at hv
        have hv' : a.tmps.getD d undef = .bool x := hv.1
        have hy : yielded ops a.tmps j = some x := by
          unfold yielded
          unfold dstOf at hd
          rw [getL_eq, Array.getElem?_toList] at hd
          rw [hd]
          simp only [Option.bind_some]
          cases ht : a.tmps[d]? with
          | none =>
            rw [Array.getD_eq_getD_getElem?, ht] at hv'
            simp [undef] at hv'
          | some u =>
            rw [Array.getD_eq_getD_getElem?, ht] at hv'
            simp only [Option.getD_some] at hv'
            rw [hv']
        rw [hy, ← h]
        cases x <;> cases want <;> rfl
      · cases h
    · cases h

theorem stepI_sound (HP : ProcsOk C.E) {i : Nat} {st st' : St} {ls : List Line} (h : stepI C.E ops fr0 i st = some (st', ls)) {a : Act} {w : World} (hr : Rel C st a w) {K : Act → World → Prop} {Q : Exit → Act → World → Prop}
    (hK : ∀ a' w', Rel C st' a' w' → K a' w') : wpOp C.E.P ops Q i K a w := by
  obtain ⟨I, R, S, hsz, hdf⟩ := hr
  unfold stepI at h
  split at h
  · cases h
  · rename_i o ho
    split at h
    · cases h
    · rename_i v wr ls' hact
      split at h
      · cases h
      · rename_i s hput
        simp only [Option.some.injEq, Prod.mk.injEq] at h
        obtain ⟨rfl, rfl⟩ := h
        unfold wpOp
        simp only [ho]
        unfold actI at hact
        split at hact
        · cases hact
        · rename_i hg
          simp only [Option.some.injEq, Prod.mk.injEq] at hact
          obtain ⟨rfl, rfl, rfl⟩ := hact
          rw [guard_rel S hg]
          simp only [Bool.false_eq_true, if_false]
          exact hK _ _ (put_rel (Keep.refl _ _ _ _) R S hsz hdf (undef_vrep _) hput _)
        · rename_i hg
          simp only [Option.map_eq_some_iff, Prod.mk.injEq] at hact
          obtain ⟨out, hout, rfl, rfl, rfl⟩ := hact
          rw [guard_rel S hg]
          simp only [if_true]
          refine .inl (op_sound R HP S hout K Q fun u w' ⟨I', R', K', hv⟩ => ?_)
          exact hK _ _ (put_rel K' R' S hsz hdf hv hput _)

theorem runI_sound (HP : ProcsOk C.E) : ∀ {l : List Nat} {st st' : St} {ls : List Line}, runI C.E ops fr0 l st = some (st', ls) → ∀ {a : Act} {w : World}, Rel C st a w → ∀ {Q : Exit → Act → World → Prop},
    (∀ a' w', Rel C st' a' w' → Q .normal a' w') → wpOps C.E.P ops Q l a w
  | [], st, st', ls, h, a, w, hr, Q, hQ => by
    simp only [runI, Option.some.injEq, Prod.mk.injEq] at h
    obtain ⟨rfl, rfl⟩ := h
    exact hQ a w hr
  | i :: l, st, st', ls, h, a, w, hr, Q, hQ => by
    simp only [runI] at h
    split at h
    · cases h
    · rename_i st1 l1 h1
      split at h
      · cases h
      · rename_i st2 l2 h2
        simp only [Option.some.injEq, Prod.mk.injEq] at h
        obtain ⟨rfl, rfl⟩ := h
        rw [wpOps_cons]
        exact stepI_sound HP h1 hr fun a' w' hr' => runI_sound HP h2 hr' hQ

theorem numOps_map : ∀ (l : List Oper) (k : Nat), (numOps k l).map (·.1) = (List.range' k l.length)
  | [], k => rfl
  | o :: l, k => by
    simp only [numOps, List.map_cons, numOps_map l (k + 1), List.length_cons]
    rfl
theorem numOps_get : ∀ (l : List Oper) (k : Nat) (p : Nat × Oper), p ∈ numOps k l → ∃ j, p.1 = k + j ∧ l[j]? = some p.2
  | [], k, p, h => by simp [numOps] at h
  | o :: l, k, p, h => by
    simp only [numOps, List.mem_cons] at h
    rcases h with rfl | h
    · exact ⟨0, rfl, rfl⟩
    · obtain ⟨j, h1, h2⟩ := numOps_get l (k + 1) p h
      exact ⟨j + 1, by omega, by simpa using h2⟩

theorem drawn_rel {st : St} {a : Act} {w : World} (h : Rel C st a w) (n : Nat) : Rel C st a { w with drawn := n } := by
  obtain ⟨I, R, S, hsz, hdf⟩ := h
  have F : Fr (fun _ _ => False) w { w with drawn := n } := ⟨rfl, rfl, rfl, Nat.le_refl _, fun g _ => .inr (.inl rfl)⟩
  obtain ⟨R', K⟩ := R.upd (I' := I) (objs' := st.objs) (w' := { w with drawn := n }) (fun _ _ => False) (fun _ => False) F (fun _ _ h => h.elim) (fun _ _ => ⟨rfl, rfl⟩) (fun _ h => h) (fun _ _ => rfl) (fun _ _ h => h.elim) (fun _ _ _ _ _ _ h => h.elim) (fun _ _ _ h => h.elim)
  exact ⟨I, R', fun i => K.vrep _ _ (S i), hsz, hdf⟩

theorem region_sound {ρ : Type} (HP : ProcsOk C.E) {id : Nat} {draw : Bool} {k : St → Option ρ} {st : St} {r : ρ} (h : peRegion C.E ops draw k st = some r) {a : Act} {w : World} (hr : Rel C st a w) {Q : Exit → Act → World → Prop}
    (hQ : ∀ st' a' w', k st' = some r → Rel C st' a' w' → Q .normal a' w') : (Code.region id ops draw).wp C.E.P Q a w := by
  have hr0 : Rel C { st with next := st.next + opBase * ops.size } a w := hr
  have hops : ∀ p ∈ numOps 0 ops.toList, ops[p.1]? = some p.2 := by
    intro p hp
    obtain ⟨j, h1, h2⟩ := numOps_get _ _ p hp
    rw [Nat.zero_add] at h1
    rw [h1]
    simpa using h2
  have hrange : (numOps 0 ops.toList).map (·.1) = List.range ops.size := by
    rw [numOps_map, List.range_eq_range']
    simp
  unfold peRegion at h
  cases draw with
  | false =>
    simp only [Bool.false_and, cond_false] at h
    obtain ⟨st', ls, h1, h2⟩ := peOps_run hops h
    rw [hrange] at h1
    exact wp_region (runI_sound HP h1 hr0 fun a' w' hr' => hQ st' a' w' h2 hr')
  | true =>
    cases ho : orderOk ops with
    | false => rw [ho] at h; cases h
    | true =>
      rw [ho] at h
      simp only [Bool.not_true, Bool.and_false, cond_false, cond_true] at h
      obtain ⟨st', ls, h1, h2⟩ := peOps_run hops h
      rw [hrange] at h1
      cases hl : logOk ops (ls.reverse ++ []) with
      | false => rw [hl] at h2; cases h2
      | true =>
        rw [hl] at h2
        simp only [cond_true] at h2
        have hpw := logOk_of hl
        simp only [List.append_nil, List.reverse_reverse] at hpw
        refine wp_region_draw fun t => ?_
        rw [HP.mixed]
        obtain ⟨ls', h3⟩ := schedule_run ho h1 hpw t
        exact runI_sound HP h3 (drawn_rel hr0 _) fun a' w' hr' => hQ st' a' w' h2 hr'

end
end Go.Abs
