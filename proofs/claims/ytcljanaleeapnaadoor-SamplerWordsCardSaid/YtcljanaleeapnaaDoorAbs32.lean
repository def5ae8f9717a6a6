/- Pieces, loops, functions. -/
import Derived.Test.YtcljanaleeapnaaDoorAbs31
set_option linter.unusedVariables false
set_option linter.unusedSimpArgs false
namespace Go.Abs
open Go

/-! ### Loops -/
def iterS {I O : Type} (step : I → Option (I ⊕ O)) : Nat → I → Option O
  | 0, _ => none
  | n + 1, x =>
    match step x with
    | some (.inl y) => iterS step n y
    | some (.inr o) => some o
    | none => none

open Classical in
/-- What the loop comes to, if it ends. -/
noncomputable def loopF {I O : Type} (step : I → Option (I ⊕ O)) (x : I) : Option O :=
  if h : ∃ o, ∃ n, iterS step n x = some o then some (Classical.choose h) else none

theorem iterS_more {I O : Type} {step : I → Option (I ⊕ O)} : ∀ {n : Nat} {x : I} {o : O}, iterS step n x = some o → ∀ k, iterS step (n + k) x = some o
  | 0, _, _, h, _ => by cases h
  | n + 1, x, o, h, k => by
    rw [show n + 1 + k = (n + k) + 1 by omega]
    simp only [iterS] at h ⊢
    split at h
    · exact iterS_more h k
    · exact h
    · cases h
theorem iterS_one {I O : Type} {step : I → Option (I ⊕ O)} {n m : Nat} {x : I} {o o' : O} (h : iterS step n x = some o) (h' : iterS step m x = some o') : o = o' := by
  have h1 := iterS_more h m
  have h2 := iterS_more h' n
  rw [show m + n = n + m by omega, h1] at h2
  exact Option.some.inj h2
theorem loopF_of {I O : Type} {step : I → Option (I ⊕ O)} {n : Nat} {x : I} {o : O} (h : iterS step n x = some o) : loopF step x = some o := by
  have hex : ∃ o, ∃ n, iterS step n x = some o := ⟨o, n, h⟩
  unfold loopF
  rw [dif_pos hex]
  obtain ⟨m, hm⟩ := Classical.choose_spec hex
  rw [iterS_one hm h]
theorem loopF_ends {I O : Type} {step : I → Option (I ⊕ O)} {x : I} {o : O} (h : loopF step x = some o) : ∃ n, iterS step n x = some o := by
  unfold loopF at h
  split at h
  · rename_i hex
    obtain ⟨m, hm⟩ := Classical.choose_spec hex
    exact ⟨m, by rw [hm]; exact h⟩
  · cases h
/-- One round more. -/
theorem loopF_eq {I O : Type} (step : I → Option (I ⊕ O)) (x : I) : loopF step x = (match step x with
    | some (.inl y) => loopF step y
    | some (.inr o) => some o
    | none => none) := by
  have iff1 : ∀ o, loopF step x = some o ↔ (match step x with
    | some (.inl y) => loopF step y
    | some (.inr o) => some o
    | none => none) = some o := by
    intro o
    constructor
    · intro h
      obtain ⟨n, hn⟩ := loopF_ends h
      cases n with
      | zero => cases hn
      | succ n =>
        simp only [iterS] at hn
        split at hn
        · exact loopF_of hn
        · exact hn
        · cases hn
    · intro h
      split at h
      · rename_i y hy
        obtain ⟨n, hn⟩ := loopF_ends h
        exact loopF_of (n := n + 1) (by simp only [iterS, hy]; exact hn)
      · rename_i o' hy
        exact loopF_of (n := 1) (by simp only [iterS, hy]; exact h)
      · cases h
  cases h : loopF step x with
  | some o => exact ((iff1 o).1 h).symm
  | none =>
    cases h2 : (match step x with
      | some (.inl y) => loopF step y
      | some (.inr o) => some o
      | none => none) with
    | none => rfl
    | some o => rw [(iff1 o).2 h2] at h; cases h

/-! ### Ends -/
def WaysOk (l : List Way) : Prop := ∀ a ∈ l, ∀ x, a.post (a.un x) = x

theorem exEq_of {a b : Ex} (h : exEq a b = true) : a = b := by
  cases a <;> cases b <;> first | rfl | (cases h; done) | (simp only [exEq] at h; rw [Nat.eq_of_beq_eq_true h])

section
variable {C : Ctx}

theorem endL_rel : ∀ {outs : List Way} {e : Ex} {st : St} {y : SumT outs}, WaysOk outs → endL C.E.n0 outs e st = some y → ∀ {a : Act} {w : World}, Rel C st a w → (outAt outs y).1 = e ∧ Rel C (outAt outs y).2 a w
  | [], e, st, y, _, h, _, _, _ => by cases h
  | [p], e, st, y, hw, h, a, w, hr => by
    simp only [endL] at h
    cases hb : exEq p.ex e with
    | false => rw [hb] at h; cases h
    | true =>
      rw [hb] at h
      simp only [cond_true] at h
      split at h
      · rename_i x m hx
        simp only [Option.some.injEq] at h
        subst h
        refine ⟨exEq_of hb, ?_⟩
        show Rel C (ofC p.S (p.post (p.un x))) a w
        rw [hw p (by simp) x]
        exact hr.cut hx
      · cases h
  | p :: q :: r, e, st, y, hw, h, a, w, hr => by
    have hw' : WaysOk (q :: r) := fun b hb => hw b (List.mem_cons_of_mem _ hb)
    have tail : (match endL C.E.n0 (q :: r) e st with | some y => some (Sum.inr y) | none => none) = some y → (outAt (p :: q :: r) y).1 = e ∧ Rel C (outAt (p :: q :: r) y).2 a w := by
      intro h
      split at h
      · rename_i z hz
        simp only [Option.some.injEq] at h
        subst h
        exact endL_rel hw' hz hr
      · cases h
    simp only [endL] at h
    cases hb : exEq p.ex e with
    | false =>
      rw [hb] at h
      exact tail h
    | true =>
      rw [hb] at h
      simp only [cond_true] at h
      split at h
      · rename_i x m hx
        simp only [Option.some.injEq] at h
        subst h
        refine ⟨exEq_of hb, ?_⟩
        show Rel C (ofC p.S (p.post (p.un x))) a w
        rw [hw p (by simp) x]
        exact hr.cut hx
      · exact tail h
end

/-- A piece that is no loop. -/
theorem piece_sound {E : Env} (HP : ProcsOk E) {c : Code} {ann : Ann} (hs : SubsOk E c ann) {p : LProc} (hw : WaysOk p.outs) (h : ∀ x, peL E c ann p x = p.F x) : LProcSound E c p := by
  intro C hC x y hF a w hr Q hQ
  subst hC
  rw [← h x] at hF
  refine pe_sound HP c ann hs _ _ _ hF a w hr Q fun e st' a' w' hk hr' => ?_
  obtain ⟨h1, h2⟩ := endL_rel hw hk hr'
  rw [← h1]
  exact hQ a' w' h2

/-- A loop. -/
theorem loop_sound {E : Env} (HP : ProcsOk E) {c : Code} {ann : Ann} (hs : SubsOk E c ann) {I : Type} {inS : Shape} {un : Tup inS → I} {outs : List Way} (hw : WaysOk outs) {step : I → Option (I ⊕ SumT outs)} (h : ∀ x, peRound E c ann I inS un outs x = step (un x)) :
    LProcSound E (.loop c) ⟨inS, outs, fun x => loopF step (un x)⟩ := by
  intro C hC x y hF a w hr Q hQ
  subst hC
  obtain ⟨n, hn⟩ := loopF_ends hF
  refine wp_loop_rounds n ?_
  have key : ∀ n (x : Tup inS) a w, iterS step n (un x) = some y → Rel C (ofC inS x) a w → Code.rounds C.E.P c Q n a w := by
    intro n
    induction n with
    | zero => intro x a w hn _; cases hn
    | succ n ih =>
      intro x a w hn hr
      rw [rounds_succ]
      simp only [iterS] at hn
      split at hn
      · rename_i z hz
        have hz' := (h x).trans hz
        refine pe_sound HP c ann hs _ _ _ hz' a w hr _ fun e st' a' w' hk hr' => ?_
        cases e with
        | nrm =>
          simp only at hk
          split at hk
          · rename_i x' m hx'
            simp only [Option.some.injEq, Sum.inl.injEq] at hk
            subst hk
            exact ih x' a' w' hn (hr'.cut hx')
          · cases hk
        | ex i =>
          simp only at hk
          split at hk <;> simp at hk
        | rt =>
          simp only at hk
          split at hk <;> simp at hk
      · rename_i o hz
        simp only [Option.some.injEq] at hn
        subst hn
        have hz' := (h x).trans hz
        refine pe_sound HP c ann hs _ _ _ hz' a w hr _ fun e st' a' w' hk hr' => ?_
        cases e with
        | nrm =>
          simp only at hk
          split at hk <;> simp at hk
        | ex i =>
          simp only at hk
          split at hk
          · rename_i q hq
            simp only [Option.some.injEq, Sum.inr.injEq] at hk
            subst hk
            obtain ⟨h1, h2⟩ := endL_rel hw hq hr'
            rw [exit_then (by simp), ← h1]
            exact hQ a' w' h2
          · cases hk
        | rt =>
          simp only at hk
          split at hk
          · rename_i q hq
            simp only [Option.some.injEq, Sum.inr.injEq] at hk
            subst hk
            obtain ⟨h1, h2⟩ := endL_rel hw hq hr'
            rw [exit_then (by simp), ← h1]
            exact hQ a' w' h2
          · cases hk
      · cases hn
  exact key n x a w hn hr

/-! ### Functions -/
section
variable {C : Ctx}

theorem retSlots_length {E : Env} {st : St} : ∀ {rs : List ResultVar} {l : List Val}, retSlots E st rs = some l → l.length = rs.length
  | [], l, h => by
    simp only [retSlots, Option.some.injEq] at h
    subst h
    rfl
  | .tmp t :: rs, l, h => by
    simp only [retSlots] at h
    split at h
    · rename_i l' hl
      simp only [Option.some.injEq] at h
      subst h
      simp [retSlots_length hl]
    · cases h
  | .cell b t :: rs, l, h => by
    simp only [retSlots] at h
    split at h
    · rename_i v rd l' hv hl
      simp only [Option.some.injEq] at h
      subst h
      simp [retSlots_length hl]
    · cases h

def retOne (tmps : Array Value) : ResultVar → Sem Value
  | .tmp t => pure (tmps.getD t undef)
  | .cell b t => do loadVar t (← asAddr (tmps.getD b undef))

theorem ptr_of {objs : Nat → Option Obj} {I : Interp} {dom : Nat → Prop} {w : World} {bad : Bad} {P : Program} {t : TypeId} {x : Val} {r : AV × List Nat} {v : Value} (h : allOk objs P t x = some r) (hx : VRep I dom w bad x v) : ∃ ad, v = .pointer (some ad) := by
  unfold allOk at h
  split at h
  · obtain ⟨_, g, o, _, e⟩ := hx
    exact ⟨_, e⟩
  · obtain ⟨_, g, n, c, _, _, e⟩ := hx
    exact ⟨_, e⟩
  · obtain ⟨ad, vs, e, _⟩ := hx
    exact ⟨ad, e⟩
  · cases h

theorem retSlots_of {st : St} {a : Act} {w : World} {I : Interp} (R : WRel C I st.objs w) (S : SRel C I st.objs w st.slots a) : ∀ {rs : List ResultVar} {l : List Val}, retSlots C.E st rs = some l →
    ∃ vs, (rs.mapM (retOne a.tmps)).run C.E.P w = .ok vs w ∧ F2 (VRep I (Dom st.objs) w (badOf C I st.objs)) l vs
  | [], l, h => by
    simp only [retSlots, Option.some.injEq] at h
    subst h
    exact ⟨[], by simp, trivial⟩
  | .tmp t :: rs, l, h => by
    simp only [retSlots] at h
    split at h
    · rename_i l' hl
      simp only [Option.some.injEq] at h
      subst h
      obtain ⟨vs, h1, h2⟩ := retSlots_of R S hl
      exact ⟨a.tmps.getD t undef :: vs, by rw [List.mapM_cons]; simp [retOne, h1], S t, h2⟩
    · cases h
  | .cell b t :: rs, l, h => by
    simp only [retSlots] at h
    split at h
    · rename_i v rd l' hv hl
      simp only [Option.some.injEq] at h
      subst h
      obtain ⟨vs, h1, h2⟩ := retSlots_of R S hl
      obtain ⟨u, hu, hr⟩ := allOk_of R hv (S b)
      obtain ⟨ad, had⟩ := ptr_of hv (S b)
      refine ⟨u :: vs, ?_, hr, h2⟩
      have hld : (retOne a.tmps (.cell b t)).run C.E.P w = .ok u w := by
        rw [had] at hu
        simp only [retOne, had]
        exact hu
      rw [List.mapM_cons]
      simp [hld, h1]
    · cases h

def resV (vs : List Value) : Value :=
  match vs with
  | [v] => v
  | _ => .tuple vs.toArray

theorem results_run {fn : Func} {tmps : Array Value} {vs : List Value} {P : Program} {w : World} (h : (fn.results.toList.mapM (retOne tmps)).run P w = .ok vs w) :
    (Go.results fn tmps).run P w = .ok (resV vs) w := by
  have e : (Go.results fn tmps) = (do let vs ← fn.results.mapM (retOne tmps); pure (if h : vs.size = 1 then vs[0] else .tuple vs)) := by
    unfold Go.results
    rfl
  rw [e, Array.mapM_eq_mapM_toList]
  simp only [map_eq_pure_bind, bind_assoc, pure_bind, Sem.run_bind, h, Result.andThen_ok, Sem.run_pure]
  match vs with
  | [] => rfl
  | [v] => rfl
  | v :: u :: vs => simp [resV]

/-- The results, one behind the other. -/
theorem results_rep {I : Interp} {dom : Nat → Prop} {w : World} {bad : Bad} : ∀ {l : List (Nat × AS)} {y : TSlots l} {vs : List Value}, l.map (·.1) = List.range vs.length → (∀ i, VRep I dom w bad (lookupSlot (makeSlots id l y) i) (vs.getD i undef)) →
    VRep I dom w bad (results (makeSlots id l y)) (resV vs) := by
  have key : ∀ (l : List (Nat × AS)) (y : TSlots l) (vs : List Value) (k : Nat), l.map (·.1) = List.range' k vs.length → (∀ i, VRep I dom w bad (lookupSlot (makeSlots id l y) (k + i)) (vs.getD i undef)) → F2 (AVRep I dom w bad) ((makeSlots id l y).map (·.2)) vs := by
    intro l
    induction l with
    | nil =>
      intro y vs k hl _
      match vs, hl with
      | [], _ => trivial
      | _ :: _, hl => simp [List.range'] at hl
    | cons s ss ih =>
      intro y vs k hl hv
      match vs, hl with
      | [], hl => simp [List.range'] at hl
      | v :: vs, hl =>
        simp only [List.map_cons, List.length_cons, List.range'_succ, List.cons.injEq] at hl
        refine ⟨?_, ih y.2 vs (k + 1) hl.2 fun i => ?_⟩
        · have := hv 0
          simp only [makeSlots, lookupSlot, Nat.add_zero, hl.1, Nat.beq_refl, cond_true, List.getD_cons_zero] at this
          exact this
        · have := hv (i + 1)
          have hb : Nat.beq (k + (i + 1)) s.1 = false := by
            rw [hl.1]
            cases hb : Nat.beq (k + (i + 1)) k
            · rfl
            · have := Nat.eq_of_beq_eq_true hb; omega
          simp only [makeSlots, lookupSlot, hb, cond_false] at this
          rw [show k + 1 + i = k + (i + 1) by omega]
          simpa using this
  intro l y vs hl hv
  have hf := key l y vs 0 (by rw [hl, List.range_eq_range']) (fun i => by rw [Nat.zero_add]; exact hv i)
  match l, y, vs, hf with
  | [], _, [], _ => exact ⟨[], rfl, trivial⟩
  | [], _, _ :: _, hf => exact hf.elim
  | _ :: _, _, [], hf => exact hf.elim
  | [s], y, [v], hf => exact hf.1
  | [_], _, _ :: _ :: _, hf => exact hf.2.elim
  | _ :: _ :: _, _, [_], hf => exact hf.2.elim
  | s :: s' :: ss, y, v :: v' :: vs, hf => exact ⟨v :: v' :: vs, rfl, hf⟩

theorem WRel.env {I : Interp} {objs : Nat → Option Obj} {w : World} {C : Ctx} (R : WRel C I objs w) (E : Env) (hg : E.glob = C.E.glob) (h0 : E.n0 = C.E.n0) : WRel { C with E := E } I objs w :=
  ⟨R.ok, R.lt, R.disj, fun g cs h => R.globs g cs (by rw [← hg]; exact h), R.frame, R.within, R.noban, R.banlt, fun k hk => R.base k (by rw [← h0]; exact hk)⟩
end

/-- A function. -/
theorem fn_sound {E : Env} (HP : ProcsOk E) {f : FuncId} {fn : Func} {c : Code} {ann : Ann} {p : Proc} (hf : E.P.funcs[f]? = some fn) (hname : fn.name ≠ "runtime.NumGoroutine") (hb : fn.body = some c) (hn : fn.ntmps = E.ntmps) (h0 : E.n0 = p.n0) (ha : p.nargs ≤ fn.ntmps)
    (hs : SubsOk E c ann) (hpu : ∀ y, p.post (p.un y) = y) (hsl : p.outS.slots.map (·.1) = List.range fn.results.size) (h : ∀ x, peFn E fn ann p x = p.F x) : ProcSound E.P E.glob f p := by
  refine ⟨⟨fn, hf, hname, by rw [hb]; rfl⟩, ?_⟩
  intro C hP hg hn0 x r hF I args R hv hargs
  let D : Ctx := { C with E := E }
  have hfC : C.E.P.funcs[f]? = some fn := by rw [hP]; exact hf
  refine hP ▸ ?_
  refine calls_of_wp hfC hb ?_
  rw [hP]
  rw [← h x] at hF
  unfold peFn at hF
  rw [hb] at hF
  have R' : WRel D I (ofC p.inS x).objs C.w0 := R.env E hg.symm (h0.trans hn0.symm)
  have hrel : Rel D (ofC p.inS x) { tmps := args ++ Array.replicate (fn.ntmps - args.size) undef, defers := [] } C.w0 := by
    refine ⟨I, R', fun i => ?_, ?_, rfl⟩
    · have e : (args ++ Array.replicate (fn.ntmps - args.size) undef).getD i undef = args.getD i undef := by
        rcases Nat.lt_or_ge i args.size with hlt | hge
        · simp only [Array.getD_eq_getD_getElem?, Array.getElem?_append_left hlt]
        · simp only [Array.getD_eq_getD_getElem?, Array.getElem?_append_right hge, Array.getElem?_eq_none hge, Option.getD_none]
          rcases Nat.lt_or_ge (i - args.size) (fn.ntmps - args.size) with h1 | h1
          · simp [h1]
          · simp [Array.getElem?_eq_none, h1]
      simp only [e]
      exact hv i
    · show (args ++ Array.replicate (fn.ntmps - args.size) undef).size = E.ntmps
      rw [Array.size_append, Array.size_replicate, ← hn]
      omega
  refine pe_sound (C := D) HP c ann hs _ _ _ hF _ _ hrel _ fun e st a w hk hr => ?_
  split at hk
  · rename_i y hy
    simp only [Option.some.injEq] at hk
    subst hk
    have hend : ∃ l m, retSlots E st fn.results.toList = some l ∧ takeS p.outS E.n0 st.objs (numbered 0 l) = some (y, m) ∧ e ≠ .ex 0 ∧ (exitOf e = .normal ∨ exitOf e = .ret) := by
      unfold endF at hy
      split at hy
      · cases hy
      · rename_i hne
        split at hy
        · rename_i l hl
          split at hy
          · rename_i z m hz
            simp only [Option.some.injEq] at hy
            subst hy
            refine ⟨l, m, hl, hz, fun e0 => hne 0 e0, ?_⟩
            cases e with
            | nrm => exact .inl rfl
            | rt => exact .inr rfl
            | ex i => exact absurd rfl (hne i)
          · cases hy
        · cases hy
    obtain ⟨l, m, hl, hz, _, hex⟩ := hend
    obtain ⟨J, RJ, SJ, hsz, hdf⟩ := hr
    obtain ⟨vs, h1, h2⟩ := retSlots_of (C := D) RJ SJ hl
    have hlen : vs.length = fn.results.size := by
      rw [← h2.length, retSlots_length hl]
      simp
    have hz' : takeS p.outS D.E.n0 st.objs (numbered 0 l) = some (y, m) := hz
    obtain ⟨J', R1, V1⟩ := cut_rel (u := fun i => vs.getD i undef) hz' RJ (fun i => by
      have := numbered_of 0 h2 i
      rwa [Nat.zero_add] at this)
    have hres := results_rep (l := p.outS.slots) (y := y.1) (vs := vs) (by rw [hlen]; exact hsl) V1
    have hrun := results_run (fn := fn) h1
    have hout : ∃ I', WRel C I' (ofC p.outS (p.post (p.un y))).objs w ∧ VRep I' (Dom (ofC p.outS (p.post (p.un y))).objs) w (badOf C I' (ofC p.outS (p.post (p.un y))).objs) (results (makeSlots id p.outS.slots (p.post (p.un y)).1)) (resV vs) := by
      rw [hpu y]
      exact ⟨J', R1.env C.E hg (hn0.trans h0.symm), hres⟩
    rcases hex with he | he
    · rw [he]
      exact ⟨hdf, _, hrun, hout⟩
    · rw [he]
      exact ⟨hdf, _, hrun, hout⟩
  · cases hk

end Go.Abs
