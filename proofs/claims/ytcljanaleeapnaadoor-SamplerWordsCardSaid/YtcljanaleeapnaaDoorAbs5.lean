/- One operation and the world: how a step keeps the relation; the operations that only compute. -/
import Derived.Test.YtcljanaleeapnaaDoorAbs4
import Derived.Laws.StructEq
import Derived.Laws.Small
set_option linter.unusedVariables false
set_option linter.unusedSimpArgs false
namespace Go.Abs
open Go

theorem Keep.refl (I : Interp) (dom : Nat → Prop) (w : World) (bad : Bad) : Keep I dom w bad I dom w bad :=
  ⟨fun _ h => h, fun _ _ => rfl, fun _ _ => rfl, fun _ _ h => h⟩
theorem Keep.trans {I I' I'' : Interp} {dom dom' dom'' : Nat → Prop} {w w' w'' : World} {bad bad' bad'' : Bad} (K : Keep I dom w bad I' dom' w' bad') (L : Keep I' dom' w' bad' I'' dom'' w'' bad'') : Keep I dom w bad I'' dom'' w'' bad'' :=
  ⟨fun i h => L.hd i (K.hd i h), fun i h => (L.hv i (K.hd i h)).trans (K.hv i h), fun i h => (L.hs i (K.hd i h)).trans (K.hs i h), fun a v h => L.ha a v (K.ha a v h)⟩

theorem cellsOf_congr {I I' : Interp} {id : Nat} (h : I'.v id = I.v id) (ob : Obj) (g o : Nat) : cellsOf I' id ob g o ↔ cellsOf I id ob g o := by
  cases ob <;> simp only [cellsOf, h]

theorem WRel.upd {C : Ctx} {I : Interp} {objs : Nat → Option Obj} {w : World} (R : WRel C I objs w) {I' : Interp} {objs' : Nat → Option Obj} {w' : World} (m : Bad) (chg : Nat → Prop)
    (F : Fr m w w')
    (hm : ∀ g o, m g o → ∃ id ob, chg id ∧ objs id = some ob ∧ cellsOf I id ob g o)
    (hI : ∀ id, Dom objs id → I'.v id = I.v id ∧ I'.sz id = I.sz id)
    (hdom : ∀ id, Dom objs id → Dom objs' id)
    (hsame : ∀ id, ¬ chg id → objs' id = objs id)
    (hcells : ∀ id ob', chg id → objs' id = some ob' → ∀ g o, cellsOf I' id ob' g o → ((∃ id2 ob2, chg id2 ∧ objs id2 = some ob2 ∧ cellsOf I id2 ob2 g o) ∨ w.heap.size ≤ g) ∧ g < w'.heap.size)
    (hdisj : ∀ id id' ob ob' g o, chg id → chg id' → objs' id = some ob → objs' id' = some ob' → cellsOf I' id ob g o → cellsOf I' id' ob' g o → id = id')
    (hok : Keep I (Dom objs) w (badOf C I objs) I' (Dom objs') w' (badOf C I' objs') → ∀ id ob', chg id → objs' id = some ob' → ObjOk I' (Dom objs') w' (badOf C I' objs') id ob') :
    WRel C I' objs' w' ∧ Keep I (Dom objs) w (badOf C I objs) I' (Dom objs') w' (badOf C I' objs') := by
  classical
  have old : ∀ id ob, ¬ chg id → objs' id = some ob → objs id = some ob ∧ Dom objs id := by
    intro id ob hc h
    rw [hsame id hc] at h
    exact ⟨h, by simp [Dom, h]⟩
  have cell : ∀ id ob g o, ¬ chg id → objs' id = some ob → cellsOf I' id ob g o → cellsOf I id ob g o := by
    intro id ob g o hc h hh
    exact (cellsOf_congr (hI id (old id ob hc h).2).1 ob g o).1 hh
  have mut' : ∀ g o, MutOf I' objs' g o → MutOf I objs g o ∨ w.heap.size ≤ g := by
    intro g o ⟨id, ob, h, hc⟩
    by_cases hch : chg id
    · rcases (hcells id ob hch h g o hc).1 with ⟨id2, ob2, _, h2, h3⟩ | h1
      · exact .inl ⟨id2, ob2, h2, h3⟩
      · exact .inr h1
    · exact .inl ⟨id, ob, (old id ob hch h).1, cell id ob g o hch h hc⟩
  have bad' : ∀ g o, badOf C I' objs' g o → badOf C I objs g o ∨ w.heap.size ≤ g := by
    intro g o h
    rcases h with h | h
    · exact .inl (.inl h)
    · exact (mut' g o h).imp .inr id
  have hm' : ∀ g o, m g o → badOf C I objs g o := fun g o h => by
    obtain ⟨id, ob, _, h1, h2⟩ := hm g o h
    exact .inr ⟨id, ob, h1, h2⟩
  have K : Keep I (Dom objs) w (badOf C I objs) I' (Dom objs') w' (badOf C I' objs') :=
    ⟨hdom, fun i h => (hI i h).1, fun i h => (hI i h).2, F.at_ hm' bad'⟩
  refine ⟨⟨?_, ?_, ?_, ?_, ?_, ?_, ?_, R.banlt, ?_⟩, K⟩
  · intro id ob h
    by_cases hch : chg id
    · exact hok K id ob hch h
    · obtain ⟨h1, hd⟩ := old id ob hch h
      refine ObjOk.keep K F id ob hd (fun g o hc hmm => ?_) (R.ok id ob h1)
      obtain ⟨id2, ob2, hch2, h2, h3⟩ := hm g o hmm
      have := R.disj id id2 ob ob2 g o h1 h2 hc h3
      subst this
      exact hch hch2
  · intro g o ⟨id, ob, h, hc⟩
    by_cases hch : chg id
    · exact (hcells id ob hch h g o hc).2
    · exact Nat.lt_of_lt_of_le (R.lt g o ⟨id, ob, (old id ob hch h).1, cell id ob g o hch h hc⟩) F.size
  · intro id id' ob ob' g o h h' hc hc'
    by_cases hch : chg id
    · by_cases hch' : chg id'
      · exact hdisj id id' ob ob' g o hch hch' h h' hc hc'
      · have h1' := (old id' ob' hch' h').1
        have hc1' := cell id' ob' g o hch' h' hc'
        rcases (hcells id ob hch h g o hc).1 with ⟨id2, ob2, hch2, h2, h3⟩ | h1
        · have := R.disj id2 id' ob2 ob' g o h2 h1' h3 hc1'
          subst this
          exact absurd hch2 hch'
        · have := R.lt g o ⟨id', ob', h1', hc1'⟩
          omega
    · have h1 := (old id ob hch h).1
      have hc1 := cell id ob g o hch h hc
      by_cases hch' : chg id'
      · rcases (hcells id' ob' hch' h' g o hc').1 with ⟨id2, ob2, hch2, h2, h3⟩ | h2
        · have := R.disj id2 id ob2 ob g o h2 h1 h3 hc1
          subst this
          exact absurd hch2 hch
        · have := R.lt g o ⟨id, ob, h1, hc1⟩
          omega
      · exact R.disj id id' ob ob' g o h1 (old id' ob' hch' h').1 hc1 (cell id' ob' g o hch' h' hc')
  · intro g cs h
    exact K.lrep _ _ (R.globs g cs h)
  · refine R.frame.trans F fun g o hmm => ?_
    obtain ⟨id, ob, _, h1, h2⟩ := hm g o hmm
    exact R.within g o ⟨id, ob, h1, h2⟩
  · intro g o h
    rcases mut' g o h with h1 | h1
    · exact R.within g o h1
    · exact .inr (Nat.le_trans R.frame.size h1)
  · intro g o h hb
    rcases mut' g o h with h1 | h1
    · exact R.noban g o h1 hb
    · have := R.banlt g o hb
      have := R.frame.size
      omega
  · intro k hk
    obtain ⟨hd, h1, h2⟩ := R.base k hk
    exact ⟨hdom k hd, (hI k hd).1.trans h1, (hI k hd).2.trans h2⟩

/-- What a step leaves. -/
def StepOk (C : Ctx) (I : Interp) (objs : Nat → Option Obj) (w : World) (val : Val) (wr : List (Nat × Obj)) (v : Value) (w' : World) : Prop :=
  ∃ I', WRel C I' (putWr objs wr) w' ∧ Keep I (Dom objs) w (badOf C I objs) I' (Dom (putWr objs wr)) w' (badOf C I' (putWr objs wr)) ∧ VRep I' (Dom (putWr objs wr)) w' (badOf C I' (putWr objs wr)) val v

theorem StepOk.pure {C : Ctx} {I : Interp} {objs : Nat → Option Obj} {w : World} (R : WRel C I objs w) {val : Val} {v : Value} (h : VRep I (Dom objs) w (badOf C I objs) val v) : StepOk C I objs w val [] v w :=
  ⟨I, R, Keep.refl _ _ _ _, h⟩

/-! ### Operands -/
def SRel (C : Ctx) (I : Interp) (objs : Nat → Option Obj) (w : World) (sl : Nat → Val) (a : Act) : Prop :=
  ∀ i, VRep I (Dom objs) w (badOf C I objs) (sl i) (a.tmps.getD i undef)

theorem F2.vals {w : World} {bad : Bad} {I : Interp} {dom : Nat → Prop} : ∀ (l : List Value), l.all Value.oneCell' = true → F2 (LRep I dom w bad) (l.map fun v => .d (.v v)) l
  | [], _ => trivial
  | v :: l, h => by
    simp only [List.all_cons, Bool.and_eq_true] at h
    exact ⟨⟨rfl, h.1⟩, F2.vals l h.2⟩

theorem evalO_of {C : Ctx} {I : Interp} {objs : Nat → Option Obj} {w : World} (R : WRel C I objs w) {sl : Nat → Val} {a : Act} (S : SRel C I objs w sl a) (x : Operand) :
    VRep I (Dom objs) w (badOf C I objs) (evalO C.E sl x) (a.eval x) := by
  cases x with
  | tmp t => exact S t
  | const c =>
    show VRep _ _ _ _ (constV c) c
    cases c <;> first
      | exact ⟨rfl, rfl⟩
      | exact trivial
      | skip
    rename_i cs
    simp only [constV]
    cases hc : cs.toList.all Value.oneCell' with
    | true => exact ⟨cs.toList, rfl, F2.vals cs.toList hc⟩
    | false => exact trivial
  | global g =>
    simp only [evalO]
    cases h : C.E.glob g with
    | none => exact trivial
    | some cs => exact R.globs g cs h
  | func f =>
    exact ⟨[], rfl, trivial⟩

theorem sc_of {I : Interp} {dom : Nat → Prop} {w : World} {bad : Bad} {x v : Value} (h : VRep I dom w bad (.one (.lf (.d (.v x)))) v) : v = x := h.1
theorem sc_mk {I : Interp} {dom : Nat → Prop} {w : World} {bad : Bad} {x : Value} (h : x.oneCell' = true) : VRep I dom w bad (sc x) x := ⟨rfl, h⟩

/-! ### Scalars -/
theorem intOp_run (P : Program) (w : World) {op : BinOp} {k : IntKind} {a b : Int} {v : Value} (h : (intOp op k a b).den = some v) (hs : op ≠ .shl ∧ op ≠ .shr) (t : TypeId) :
    (binOp op t (.int k a) (.int k b)).run P w = .ok v w ∧ v.oneCell' = true := by
  cases op <;> simp only [intOp, Eff.den, Option.some.injEq, reduceCtorEq, ne_eq, not_true_eq_false, false_and, and_false] at h hs <;>
    first
      | (subst h; exact ⟨by simp [binOp, Op.intArith, Op.intCmp, Op.intBits, ibits], rfl⟩)
      | skip
  all_goals
    cases hb : (b != 0)
    · rw [hb] at h; cases h
    · rw [hb] at h
      have hb' : b ≠ 0 := by simpa using hb
      obtain rfl := Option.some.inj h
      exact ⟨by simp [binOp, Op.intDiv, hb'], rfl⟩

theorem strOp_run (P : Program) (w : World) {op : BinOp} {a b : ByteArray} {v : Value} (h : (strOp op a b).den = some v) (t : TypeId) :
    (binOp op t (.string a) (.string b)).run P w = .ok v w ∧ v.oneCell' = true := by
  cases op <;> simp only [strOp, Eff.den, Option.some.injEq, reduceCtorEq] at h <;>
    first
      | (subst h; exact ⟨by simp [binOp, Op.stringOp, eqS, ltS], rfl⟩)
      | skip
  cases hc : catOk a b
  · simp [hc] at h
  · simp [hc] at h
    subst h
    have hc' : ((a.size + b.size : Nat) : Int) ≤ 9223372036854775807 := of_decide_eq_true hc
    refine ⟨?_, rfl⟩
    have : ¬ ((a.size + b.size : Nat) : Int) > IntKind.i64.max := by
      have : (IntKind.i64.max : Int) = 9223372036854775807 := by decide
      omega
    simp [binOp, Op.stringOp]
    simp at this
    omega

theorem eqGuard_run (P : Program) (w : World) (op : BinOp) (t : TypeId) (x y : Operand) (a b : Value) (h : (∀ cs, a ≠ .agg cs) ∧ a ≠ .nilIface) : (eqGuard op t x y a b).run P w = .ok () w := by
  unfold eqGuard
  cases op <;> simp
  all_goals
    cases a <;> simp_all

theorem binV_run (P : Program) (w : World) {op : BinOp} {x y v : Value} {t : TypeId} (h : (binV (isBoolT P t) op x y).den = some v) (p q : Operand) :
    (do eqGuard op t p q x y; binOp op t x y : Sem Value).run P w = .ok v w ∧ v.oneCell' = true := by
  have key : (binOp op t x y).run P w = .ok v w ∧ v.oneCell' = true ∧ (∀ cs, x ≠ .agg cs) ∧ x ≠ .nilIface := by
    unfold binV at h
    split at h
    · rename_i k a k' b
      simp only [Eff.den] at h
      by_cases hb : 0 ≤ b
      · simp [hb] at h
        subst h
        refine ⟨?_, rfl, by simp, by simp⟩
        simp [binOp, Op.shift, shlI, show ¬ b < 0 by omega]
      · simp [hb] at h
    · rename_i k a k' b
      simp only [Eff.den] at h
      by_cases hb : 0 ≤ b
      · simp [hb] at h
        subst h
        refine ⟨?_, rfl, by simp, by simp⟩
        simp [binOp, Op.shift, shrI, show ¬ b < 0 by omega]
      · simp [hb] at h
    · rename_i k a k' b h1 h2
      split at h
      · rename_i hk
        subst hk
        obtain ⟨h3, h4⟩ := intOp_run P w h ⟨fun e => h1 e, fun e => h2 e⟩ t
        exact ⟨h3, h4, by simp, by simp⟩
      · cases h
    · obtain ⟨h3, h4⟩ := strOp_run P w h t
      exact ⟨h3, h4, by simp, by simp⟩
    · rename_i a b
      cases hb : isBoolT P t with
      | false => simp [hb, Eff.den] at h
      | true =>
        simp [hb, Eff.den] at h
        subst h
        have ht : P.underlying t = some .bool := by
          unfold isBoolT at hb
          split at hb
          · assumption
          · cases hb
        refine ⟨?_, rfl, by simp, by simp⟩
        simp [binOp, Op.equal, Op.maxDepth, run_equalIn_bool' w 9999 t a b ht]
    · rename_i a b
      cases hb : isBoolT P t with
      | false => simp [hb, Eff.den] at h
      | true =>
        simp [hb, Eff.den] at h
        subst h
        have ht : P.underlying t = some .bool := by
          unfold isBoolT at hb
          split at hb
          · assumption
          · cases hb
        refine ⟨?_, rfl, by simp, by simp⟩
        simp [binOp, Op.equal, Op.maxDepth, run_equalIn_bool' w 9999 t a b ht]
    · cases h
  refine ⟨?_, key.2.1⟩
  rw [Sem.run_bind, eqGuard_run P w op t p q x y key.2.2]
  exact key.1

theorem unV_run (P : Program) (w : World) {op : UnOp} {x v : Value} (h : unV op x = .ret v) : (Op.unary op x).run P w = .ok v w ∧ v.oneCell' = true := by
  unfold unV at h
  split at h <;> first
    | (injection h with h; subst h; exact ⟨by simp [Op.unary, Op.intArith, Op.intBits, ibits], rfl⟩)
    | cases h

end Go.Abs
