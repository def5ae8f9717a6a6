/- Every operation: what the evaluator says of it is so (all together). -/
import Derived.Test.YtcljanaleeapnaaDoorAbs23
set_option linter.unusedVariables false
set_option linter.unusedSimpArgs false
namespace Go.Abs
open Go

section
variable {C : Ctx} {I : Interp} {objs : Nat → Option Obj} {w : World}

theorem exec_value {P : Program} {ρ : Operand → Value} {o : Oper} {s : Sem Value} {v : Value} {w w' : World} (e : execOp ρ o = (do pure (.value (← s)))) (h : s.run P w = .ok v w') : (execOp ρ o).run P w = .ok (.value v) w' := by
  rw [e]
  simp [h]
theorem exec_unit {P : Program} {ρ : Operand → Value} {o : Oper} {s : Sem Unit} {w w' : World} (e : execOp ρ o = (do s; pure .skip)) (h : s.run P w = .ok () w') : (execOp ρ o).run P w = .ok .skip w' := by
  rw [e]
  simp [h]

theorem zeroLeaves_of {P : Program} {t : TypeId} {z : List Leaf} (h : zeroLeaves P t = some z) : ∃ i v, P.info? t = some i ∧ i.zero = some v ∧ z = v.cells.toList.map (fun x => Leaf.d (.v x)) ∧ v.cells.toList.all Value.oneCell' = true := by
  unfold zeroLeaves at h
  split at h
  · rename_i zd hzd
    obtain rfl := Option.some.inj h
    obtain ⟨i, v, hi, hv, rfl, hall⟩ := zeroD_of hzd
    exact ⟨i, v, hi, hv, by simp [List.map_map, Function.comp_def], hall⟩
  · cases h

theorem map_arr {α β : Type} (f : α → β) (a : Array α) : a.map f = (a.toList.map f).toArray := by
  cases a
  simp

theorem ret1_of {v : Val} {out : Out} (h : (ret1 v).den = some out) : out = ⟨v, [], []⟩ := (Option.some.inj h).symm

theorem op_sound (R : WRel C I objs w) (HP : ProcsOk C.E) {sl : Nat → Val} {a : Act} (S : SRel C I objs w sl a) {fr : Nat} {o : Oper} {out : Out} (h : (opE C.E sl objs fr o).den = some out) : Goes C I objs w o a out := by
  have ev : ∀ x, VRep I (Dom objs) w (badOf C I objs) (evalO C.E sl x) (a.eval x) := fun x => evalO_of R S x
  obtain ⟨dst, op, type, pos, after, guard⟩ := o
  have pureV : ∀ {z : Val} {v : Value} {s : Sem Value}, out = ⟨z, [], []⟩ → execOp a.eval ⟨dst, op, type, pos, after, guard⟩ = (do pure (.value (← s))) → s.run C.E.P w = .ok v w → VRep I (Dom objs) w (badOf C I objs) z v → Goes C I objs w ⟨dst, op, type, pos, after, guard⟩ a out := by
    intro z v s e he hr hz
    subst e
    exact Goes.value (exec_value he hr) (StepOk.pure R hz)
  cases op with
  | move x => 
    obtain rfl := ret1_of h
    exact Goes.value rfl (StepOk.pure R (ev x))
  | assign x =>
    obtain rfl := ret1_of h
    exact Goes.value rfl (StepOk.pure R (ev x))
  | pick c x y =>
    simp only [opE] at h
    split at h
    · rename_i t hc
      have := ev c
      rw [hc] at this
      refine Goes.value (v := if t = true then a.eval x else a.eval y) ?_ (pick_of R h (ev x) (ev y))
      simp [execOp, this.1, asBool]
    · cases h
  | alloc t =>
    simp only [opE] at h
    split at h
    · rename_i z hz
      cases hb : (Nat.beq (List.length z) 0 || !(isFree objs fr)) with
      | true => rw [hb] at h; cases h
      | false =>
        rw [hb] at h
        simp only [cond_false, Eff.den, Option.some.injEq] at h
        subst h
        simp only [Bool.or_eq_false_iff, Bool.not_eq_false'] at hb
        obtain ⟨i, v, hi, hv, rfl, hall⟩ := zeroLeaves_of hz
        have hpos : 0 < (v.cells.toList.map (fun x => Leaf.d (.v x))).length := Nat.pos_of_ne_zero fun e => by
          rw [show (v.cells.toList.map (fun x => Leaf.d (.v x))).length.beq 0 = true from by rw [e]; rfl] at hb
          exact absurd hb.1 (by decide)
        have := newBox R (isFree_of hb.2) hpos (F2.vals v.cells.toList hall) t
        refine Goes.value (exec_value rfl ?_) this
        simp [Instr.alloc, zeroValue, typeInfo, hi, hv, newVar, newRow]
    · cases h
  | box t x =>
    simp only [opE] at h
    split at h
    · rename_i av hx
      cases hb : (Nat.beq (List.length (avLeaves av)) 0 || !(isFree objs fr)) with
      | true => rw [hb] at h; cases h
      | false =>
        rw [hb] at h
        simp only [cond_false, Eff.den, Option.some.injEq] at h
        subst h
        simp only [Bool.or_eq_false_iff, Bool.not_eq_false'] at hb
        have hpos : 0 < (avLeaves av).length := Nat.pos_of_ne_zero fun e => by
          rw [show (avLeaves av).length.beq 0 = true from by rw [e]; rfl] at hb
          exact absurd hb.1 (by decide)
        have hv := ev x
        rw [hx] at hv
        have hc : F2 (LRep I (Dom objs) w (badOf C I objs)) (avLeaves av) (a.eval x).cells.toList := by
          cases av with
          | lf l =>
            have h1 : LRep I (Dom objs) w (badOf C I objs) l (a.eval x) := hv
            have h2 : (a.eval x).cells = #[a.eval x] := by
              have := LRep.one _ _ h1
              generalize a.eval x = u at this
              cases u <;> first | rfl | cases this
            rw [h2]
            exact ⟨h1, trivial⟩
          | ag ls =>
            obtain ⟨cs, e, hf⟩ := hv
            rw [e]
            exact hf
        have := newBox R (isFree_of hb.2) hpos hc t
        refine Goes.value (exec_value rfl ?_) this
        simp [Instr.box, newVar, newRow]
    · cases h
  | build t parts =>
    simp only [opE] at h
    split at h
    · rename_i z hz
      obtain rfl := ret1_of h
      simp only [Option.map_eq_some_iff] at hz
      obtain ⟨av, hb, rfl⟩ := hz
      obtain ⟨y, hy, hr⟩ := buildAv_of R S hb
      exact pureV rfl rfl (by simpa using hy) hr
    · cases h
  | buildSlice t len parts =>
    simp only [opE] at h
    split at h
    · rename_i r hr
      simp only [Eff.den, Option.some.injEq] at h
      subst h
      obtain ⟨y, w', hy, hs⟩ := litOut_of R S hr
      exact Goes.value (exec_value rfl (by simpa using hy)) hs
    · cases h
  | load t x =>
    simp only [opE] at h
    split at h
    · rename_i v rs hl
      obtain ⟨u, hu, hr⟩ := allOk_of R hl (ev x)
      simp only [Eff.den, Option.some.injEq] at h
      subst h
      exact Goes.value (exec_value rfl hu) (StepOk.pure R hr)
    · cases h
  | store t x y =>
    simp only [opE] at h
    split at h
    · rename_i r hr
      simp only [Eff.den, Option.some.injEq] at h
      subst h
      obtain ⟨w', hy, hs⟩ := storeOut_of R hr (ev x) (ev y)
      exact Goes.skip (exec_unit rfl hy) hs
    · cases h
  | nilCheck x =>
    simp only [opE] at h
    split at h
    · rename_i b off hx
      obtain rfl := ret1_of h
      have := ev x
      rw [hx] at this
      obtain ⟨hd, g, o, hv, e⟩ := this
      exact Goes.value (v := a.eval x) (by simp [execOp, e]) (StepOk.pure R (by exact ⟨hd, g, o, hv, e⟩))
    · rename_i r i off hx
      obtain rfl := ret1_of h
      have := ev x
      rw [hx] at this
      obtain ⟨hd, g, n, c, hv, hi, e⟩ := this
      exact Goes.value (v := a.eval x) (by simp [execOp, e]) (StepOk.pure R (by exact ⟨hd, g, n, c, hv, hi, e⟩))
    · rename_i cs hx
      obtain rfl := ret1_of h
      have := ev x
      rw [hx] at this
      obtain ⟨ad, vs, e, hf, hr⟩ := this
      exact Goes.value (v := a.eval x) (by simp [execOp, e]) (StepOk.pure R (by exact ⟨ad, vs, e, hf, hr⟩))
    · cases h
  | binOp op t x y p =>
    have hx := ev x
    have hy := ev y
    simp only [opE] at h
    split at h
    · rename_i u v hu hv
      rw [hu] at hx
      rw [hv] at hy
      have fin : ∀ z, (binV (isBoolT C.E.P t) op u v).den = some z → out = ⟨sc z, [], []⟩ → Goes C I objs w ⟨dst, .binOp op t x y p, type, pos, after, guard⟩ a out := by
        intro z hz e
        obtain ⟨h1, h2⟩ := binV_run C.E.P w hz x y
        refine pureV e rfl ?_ (sc_mk h2)
        rw [hx.1, hy.1]
        exact h1
      split at h
      · rename_i z hz
        exact fin z (by rw [hz]; rfl) (ret1_of h)
      · rename_i c z hz
        obtain ⟨hc, h⟩ := grd_of h
        exact fin z (by rw [hz, hc]; rfl) (ret1_of h)
      · cases h
    · rename_i ls ms hu hv
      rw [hu] at hx
      rw [hv] at hy
      obtain ⟨cx, ex, fx⟩ := hx
      obtain ⟨cy, ey, fy⟩ := hy
      cases hgg : (C.E.P.eqGuardType C.E.P.depth t || !(isAggT C.E.P t)) with
      | true => rw [hgg] at h; cases h
      | false =>
        rw [hgg] at h
        simp only [cond_false] at h
        simp only [Bool.or_eq_false_iff, Bool.not_eq_false'] at hgg
        obtain ⟨hg, hag⟩ := hgg
        have hgr : ∀ op', (eqGuard op' t x y (a.eval x) (a.eval y)).run C.E.P w = .ok () w := by
          intro op'
          rw [ex, ey]
          unfold eqGuard
          cases op' <;> simp [hg]
        have heq : ∀ q, eqT C.E.P 20 t ls ms = some q → (Op.equal t (a.eval x) (a.eval y)).run C.E.P w = .ok q w := by
          intro q hq
          have := eqT_run 20 Op.maxDepth (by decide) t ls ms q cx cy hq fx fy
          rw [valOf_agg hag, valOf_agg hag] at this
          rw [ex, ey]
          exact this
        split at h
        · rename_i q hq
          obtain rfl := ret1_of h
          refine pureV rfl rfl ?_ (sc_mk rfl)
          rw [Sem.run_bind, hgr, ex, ey]
          have := heq q hq
          rw [ex, ey] at this
          simp [binOp, this]
        · rename_i q hq
          obtain rfl := ret1_of h
          refine pureV rfl rfl ?_ (sc_mk rfl)
          rw [Sem.run_bind, hgr, ex, ey]
          have := heq q hq
          rw [ex, ey] at this
          simp [binOp, this]
        · cases h
    · cases h
  | unOp op t x =>
    simp only [opE] at h
    split at h
    · rename_i u hu
      have hx := ev x
      rw [hu] at hx
      split at h
      · rename_i z hz
        obtain ⟨h1, h2⟩ := unV_run C.E.P w hz
        exact pureV (ret1_of h) rfl (by rw [hx.1]; exact h1) (sc_mk h2)
      · cases h
    · cases h
  | convert s t x =>
    simp only [opE] at h
    split at h
    · rename_i k n hu
      have hx := ev x
      rw [hu] at hx
      split at h
      · rename_i k1 k2 h1 h2
        refine pureV (ret1_of h) rfl ?_ (sc_mk rfl)
        rw [hx.1]
        simp [convert, run_underlying h1, run_underlying h2, Conv.intToInt]
      · cases h
    · rename_i b hu
      have hx := ev x
      rw [hu] at hx
      split at h
      · rename_i h1 h2
        refine pureV (ret1_of h) rfl ?_ (sc_mk rfl)
        rw [hx.1]
        simp [convert, run_underlying h1, run_underlying h2]
      · cases h
    · cases h
  | makeFunc f first caps =>
    cases f with
    | func f =>
      simp only [opE] at h
      cases hb : first.isEmpty with
      | false => rw [hb] at h; cases h
      | true =>
        rw [hb] at h
        simp only [cond_true] at h
        split at h
        · rename_i l hl
          have : first = #[] := by simpa using hb
          subst this
          exact pureV (v := .func (.func f) #[] (caps.map a.eval)) (ret1_of h) rfl (by simp [Instr.makeFunc]) ⟨caps.toList.map a.eval, by rw [map_arr], capsOf_of R S hl⟩
        · cases h
    | _ => cases h
  | makeSlice t l c =>
    simp only [opE] at h
    have hl := ev l
    split at h
    · rename_i i j kk n hn
      rw [hn] at hl
      cases hb : Nat.beq i j with
      | false => rw [hb] at h; cases h
      | true =>
        rw [hb] at h
        have := Nat.eq_of_beq_eq_true hb
        subst this
        obtain ⟨y, w', hy, hs⟩ := makeOut_of (k := kk) (k' := kk) R h
        exact Goes.value (exec_value rfl (by rw [hl.1]; exact hy)) hs
    · rename_i v m n hn
      rw [hn] at hl
      cases hb : (m == n) with
      | false => rw [hb] at h; cases h
      | true =>
        rw [hb] at h
        have := eq_of_beq hb
        subst this
        obtain ⟨y, w', hy, hs⟩ := makeOut_of (k := .i64) (k' := .i64) R h
        exact Goes.value (exec_value rfl (by rw [hl.1]; exact hy)) hs
    · cases h
  | slice t x lo hi mx =>
    cases mx with
    | some _ => cases h
    | none =>
      simp only [opE] at h
      split at h
      · rename_i l hh h1 h2
        obtain ⟨y, hy, hs⟩ := sliceOut_of R h (optInt_of R S h1) (optInt_of R S h2) (ev x)
        exact Goes.value (exec_value rfl hy) hs
      · cases h
  | fieldAddr t x f =>
    simp only [opE] at h
    split at h
    · rename_i z hz
      obtain ⟨y, hy, hr⟩ := fieldE_of R hz (ev x)
      exact pureV (ret1_of h) rfl hy hr
    · cases h
  | field t x f =>
    simp only [opE] at h
    split at h
    · rename_i ls off n ft hx hpl
      have hv := ev x
      rw [hx] at hv
      obtain ⟨cs, e, hf⟩ := hv
      obtain ⟨fs, g, hu, hg, rfl, rfl, rfl⟩ := fieldPl_of hpl
      cases hb : (C.E.P.underlying g.type).isSome with
      | false => rw [hb] at h; cases h
      | true =>
        rw [hb] at h
        simp only [cond_true] at h
        split at h
        · rename_i c hc
          split at h
          · rename_i z hz
            simp only [Option.map_eq_some_iff] at hz
            obtain ⟨av, hav, rfl⟩ := hz
            obtain ⟨y, hy, hr⟩ := part_run hb hc hav hf
            refine pureV (ret1_of h) rfl ?_ hr
            rw [e]
            simp [Instr.field, run_underlying hu, hg, asAgg, hy]
          · cases h
        · cases h
    · cases h
  | indexAddr t x i =>
    simp only [opE] at h
    split at h
    · rename_i k n hi
      have hv := ev i
      rw [hi] at hv
      obtain ⟨y, hy, hr, hw⟩ := idxE_of (k := k) R h (ev x)
      refine Goes.value (exec_value rfl (by rw [hv.1]; exact hy)) ?_
      rw [hw]
      exact StepOk.pure R hr
    · cases h
  | index t x i =>
    simp only [opE] at h
    split at h
    · rename_i k n hi
      have hv := ev i
      rw [hi] at hv
      obtain ⟨y, hy, hs⟩ := indexV_of (k := k) R h (ev x)
      exact Goes.value (exec_value rfl (by rw [hv.1]; exact hy)) hs
    · cases h
  | extract t i =>
    simp only [opE] at h
    split at h
    · rename_i l hl
      have hv := ev t
      rw [hl] at hv
      obtain ⟨vs, e, hf⟩ := hv
      split at h
      · rename_i b hb
        obtain ⟨u, hu, hr⟩ := hf.pick hb
        refine pureV (ret1_of h) rfl ?_ hr
        rw [e]
        simp [Instr.extract, hu]
      · cases h
    · cases h
  | call c =>
    have hargs : F2 (VRep I (Dom objs) w (badOf C I objs)) (List.map (evalO C.E sl) c.args.toList) (List.map a.eval c.args.toList) := F2.mapL _ _ ev c.args.toList
    simp only [opE] at h
    split at h
    · rename_i b hb
      have hrun : ∃ cs, (execOp a.eval ⟨dst, .call c, type, pos, after, guard⟩) = builtin b c.argTypes type cs (c.args.map a.eval) := by
        refine ⟨c.args.map fun | .const _ => true | _ => false, ?_⟩
        simp [execOp, resolve, hb, invoke]
        rfl
      obtain ⟨cs, hrun⟩ := hrun
      have hat : c.argTypes = c.argTypes.toList.toArray := rfl
      rw [hat, map_arr] at hrun
      generalize List.map a.eval c.args.toList = us at hargs hrun
      generalize List.map (evalO C.E sl) c.args.toList = vs at hargs h
      generalize c.argTypes.toList = ts at h hrun
      unfold builtinE at h
      split at h
      · rename_i t ts' x
        match us, hargs with
        | [u], hargs =>
          split at h
          · rename_i r hr
            simp only [Eff.den, Option.some.injEq] at h
            subst h
            obtain ⟨y, hy, hs⟩ := lenOut_of (rt := type) (ts := ts') R hr hargs.1
            exact Goes.value (by rw [hrun]; simp [builtin, hy]) hs
          · cases h
      · rename_i t u ts' s x
        match us, hargs with
        | [v1, v2], hargs =>
          cases hb : Nat.beq t u with
          | false => rw [hb] at h; cases h
          | true =>
            rw [hb] at h
            have := Nat.eq_of_beq_eq_true hb
            subst this
            obtain ⟨y, w', hy, hs⟩ := appendOut_of (rt := type) R h hargs.1 hargs.2.1
            refine Goes.value ?_ hs
            rw [hrun]
            have : (Builtin.append_ (t :: t :: ts').toArray type #[v1, v2]) = Builtin.append_ #[t, t] type #[v1, v2] := rfl
            simp [builtin, this, hy]
      · rename_i x r
        match us, hargs with
        | u :: us, hargs =>
          split at h
          · rename_i v hv
            obtain ⟨h1, h2⟩ := foldV_max (P := C.E.P) hv hargs.2 hargs.1.2
            refine pureV (ret1_of h) (s := Builtin.max_ ts.toArray type (u :: us).toArray) (by rw [hrun]; rfl) ?_ (sc_mk h2)
            rw [hargs.1.1]
            simpa [Builtin.max_] using h1
          · cases h
      · rename_i x r
        match us, hargs with
        | u :: us, hargs =>
          split at h
          · rename_i v hv
            obtain ⟨h1, h2⟩ := foldV_min (P := C.E.P) hv hargs.2 hargs.1.2
            refine pureV (ret1_of h) (s := Builtin.min_ ts.toArray type (u :: us).toArray) (by rw [hrun]; rfl) ?_ (sc_mk h2)
            rw [hargs.1.1]
            simpa [Builtin.min_] using h1
          · cases h
      · cases h
    · rename_i f hf
      split at h
      · rename_i g caps hg
        have hv := ev f
        rw [hg] at hv
        obtain ⟨as, e, hcs⟩ := hv
        split at h
        · rename_i p hp
          refine goes_call R HP rfl hp (hargs.append (caps_vals hcs)) h ?_
          simp [execOp, resolve, hf, e, Deferred.ofValue, invoke, map_arr]
        · cases h
      · cases h
    · cases h
  | _ => cases h

end
end Go.Abs
