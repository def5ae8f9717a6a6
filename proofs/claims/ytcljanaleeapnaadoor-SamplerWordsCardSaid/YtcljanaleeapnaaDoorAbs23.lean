/- Every operation: what the evaluator says of it is so. -/
import Derived.Test.YtcljanaleeapnaaDoorAbs22
set_option linter.unusedVariables false
set_option linter.unusedSimpArgs false
namespace Go.Abs
open Go

section
variable {C : Ctx} {I : Interp} {objs : Nat → Option Obj} {w : World}

theorem F2.mapL {α β γ : Type} {R : β → γ → Prop} (f : α → β) (g : α → γ) (h : ∀ a, R (f a) (g a)) : ∀ l : List α, F2 R (l.map f) (l.map g)
  | [] => trivial
  | a :: l => ⟨h a, F2.mapL f g h l⟩

theorem F2.pick {α β : Type} {R : α → β → Prop} : ∀ {l : List α} {m : List β} {i : Nat} {a : α}, F2 R l m → selV l i = some a → ∃ b, m[i]? = some b ∧ R a b
  | [], _, _, _, _, h => by cases h
  | _ :: _, [], _, _, h, _ => h.elim
  | x :: l, y :: m, 0, a, hf, h => by
    simp only [selV, Option.some.injEq] at h
    subst h
    exact ⟨y, by simp, hf.1⟩
  | x :: l, y :: m, i + 1, a, hf, h => by
    obtain ⟨b, h1, h2⟩ := F2.pick (l := l) (m := m) (i := i) hf.2 h
    exact ⟨b, by simpa using h1, h2⟩

theorem int_of {n : Int} {k : IntKind} {v : Value} (h : VRep I (Dom objs) w (badOf C I objs) (.one (.lf (.d (.v (.int k n))))) v) : v = .int k n := h.1

theorem optInt_of (R : WRel C I objs w) {sl : Nat → Val} {a : Act} (S : SRel C I objs w sl a) {x : Option Operand} {y : Option Int} (h : optInt (evalO C.E sl) x = some y) : BoundIs (x.map a.eval) y := by
  cases x with
  | none =>
    simp only [optInt, Option.some.injEq] at h
    subst h
    trivial
  | some x =>
    simp only [optInt] at h
    split at h
    · rename_i k n hx
      simp only [Option.some.injEq] at h
      subst h
      have := evalO_of R S x
      rw [hx] at this
      exact ⟨k, this.1⟩
    · cases h

theorem callee_run {P : Program} {f : FuncId} (h : ∃ fn, P.funcs[f]? = some fn ∧ fn.name ≠ "runtime.NumGoroutine" ∧ fn.body.isSome = true) (args : Array Value) (w : World) : (callFunc f args).run P w = .ok (.enter f args) w := by
  obtain ⟨fn, h1, h2, h3⟩ := h
  cases hb : fn.body with
  | none => rw [hb] at h3; cases h3
  | some c => simp [callFunc, h1, h2, hb]

theorem capsOf_of (R : WRel C I objs w) {sl : Nat → Val} {a : Act} (S : SRel C I objs w sl a) : ∀ {xs : List Operand} {l : List Nat}, capsOf (evalO C.E sl) xs = some l →
    F2 (fun b x => Dom objs b ∧ ∃ g o, I.v b = .pointer (some ⟨g, o, none⟩) ∧ x = .pointer (some ⟨g, o, none⟩)) l (xs.map a.eval)
  | [], l, h => by
    simp only [capsOf, Option.some.injEq] at h
    subst h
    trivial
  | x :: xs, l, h => by
    simp only [capsOf] at h
    split at h
    · rename_i b l' hb hl
      simp only [Option.some.injEq] at h
      subst h
      have := evalO_of R S x
      rw [hb] at this
      obtain ⟨hd, g, o, hv, hx⟩ := this
      exact ⟨⟨hd, g, o, hv, by simpa using hx⟩, capsOf_of R S hl⟩
    · cases h

theorem caps_vals : ∀ {caps : List Nat} {as : List Value}, F2 (fun b x => Dom objs b ∧ ∃ g o, I.v b = .pointer (some ⟨g, o, none⟩) ∧ x = .pointer (some ⟨g, o, none⟩)) caps as → F2 (VRep I (Dom objs) w (badOf C I objs)) (caps.map fun b => lf1 (.bp b 0)) as
  | [], [], _ => trivial
  | [], _ :: _, h => h.elim
  | _ :: _, [], h => h.elim
  | _ :: _, _ :: _, ⟨⟨hd, g, o, hv, hx⟩, hf⟩ => ⟨⟨hd, g, o, hv, by simpa using hx⟩, caps_vals hf⟩

theorem pick_of {t : Bool} {x y : Val} {out : Out} {u v : Value} (R : WRel C I objs w) (h : (pickE t x y).den = some out) (hx : VRep I (Dom objs) w (badOf C I objs) x u) (hy : VRep I (Dom objs) w (badOf C I objs) y v) :
    StepOk C I objs w out.val out.wr (if t = true then u else v) w := by
  have fin : ∀ z, out = ⟨z, [], []⟩ → VRep I (Dom objs) w (badOf C I objs) z (if t = true then u else v) → StepOk C I objs w out.val out.wr (if t = true then u else v) w := by
    intro z e hz
    subst e
    exact StepOk.pure R hz
  unfold pickE at h
  split at h
  · rename_i p q
    simp only [Eff.den, Option.some.injEq] at h
    refine fin _ h.symm ?_
    cases t
    · exact ⟨hy.1, rfl⟩
    · exact ⟨hx.1, rfl⟩
  · rename_i k p k' q
    split at h
    · rename_i hk
      subst hk
      simp only [Eff.den, Option.some.injEq] at h
      refine fin _ h.symm ?_
      cases t
      · exact ⟨hy.1, rfl⟩
      · exact ⟨hx.1, rfl⟩
    · cases h
  · simp only [Eff.den] at h
    cases t
    · simp only [cond_false, Option.some.injEq] at h
      exact fin _ h.symm hy
    · simp only [cond_true, Option.some.injEq] at h
      exact fin _ h.symm hx

/-- The functions that the evaluator calls do what is said of them. -/
structure ProcsOk (E : Env) : Prop where
  mixed : E.P.follows .mixedOrders = true
  procs : ∀ f p, E.proc f = some p → ProcSound E.P E.glob f p

theorem goes_call (R : WRel C I objs w) (HP : ProcsOk C.E) {o : Oper} {a : Act} {c : Call} (ho : o.op = .call c) {f : FuncId} {p : Proc} (hp : C.E.proc f = some p) {vs : List Value} {fr : Nat} {args : List Val} {out : Out}
    (hv : F2 (VRep I (Dom objs) w (badOf C I objs)) args vs) (h : (callE objs fr p args).den = some out) (hrun : (execOp a.eval o).run C.E.P w = (callFunc f vs.toArray).run C.E.P w) : Goes C I objs w o a out := by
  intro next Q k
  have hps := HP.procs f p hp
  unfold Oper.wp
  rw [hrun, callee_run hps.1, Oper.upon_enter]
  refine (call_of R hps hv h).mono fun e w' he => ?_
  match e, he with
  | .returned v, he => exact k v w' he

end
end Go.Abs
