/- A body of code, as the evaluator reads it. -/
import Derived.Test.YtcljanaleeapnaaDoorAbs30
import Derived.LoopN
set_option linter.unusedVariables false
set_option linter.unusedSimpArgs false
namespace Go.Abs
open Go

def exitOf : Ex → Exit
  | .nrm => .normal
  | .ex i => .exit i
  | .rt => .ret

def outAt : (l : List Way) → SumT l → Ex × St
  | [], x => x.elim
  | [a], x => (a.ex, ofC a.S (a.post x))
  | a :: _ :: _, .inl y => (a.ex, ofC a.S (a.post y))
  | _ :: b :: r, .inr z => outAt (b :: r) z

theorem outK_at {ρ : Type} (k : Ex → St → Option ρ) : ∀ (l : List Way) (x : SumT l), outK l x k = k (outAt l x).1 (outAt l x).2
  | [], x => x.elim
  | [a], x => rfl
  | a :: b :: r, .inl y => rfl
  | a :: b :: r, .inr z => outK_at k (b :: r) z

/-- What a piece's procedure says of the piece. -/
def LProcSound (E : Env) (c : Code) (p : LProc) : Prop :=
  ∀ (C : Ctx), C.E = E → ∀ (x : Tup p.inS) (y : SumT p.outs), p.F x = some y → ∀ (a : Act) (w : World), Rel C (ofC p.inS x) a w → ∀ (Q : Exit → Act → World → Prop),
    (∀ a' w', Rel C (outAt p.outs y).2 a' w' → Q (exitOf (outAt p.outs y).1) a' w') → c.wp E.P Q a w

def SubsOk (E : Env) : Code → Ann → Prop
  | c, .sub n => ∀ p, E.lproc n = some p → LProcSound E c p
  | .seq x y, .s p q => SubsOk E x p ∧ SubsOk E y q
  | .cond _ x y, .s p q => SubsOk E x p ∧ SubsOk E y q
  | .block _ x, .b p => SubsOk E x p
  | .loop x, .un _ p => SubsOk E x p
  | _, _ => True

theorem SubsOk_z (E : Env) (c : Code) : SubsOk E c .z := by
  cases c <;> exact trivial

theorem exit_then {next : Act → World → Prop} {Q : Exit → Act → World → Prop} {e : Ex} (he : e ≠ .nrm) (a : Act) (w : World) : Exit.then next Q (exitOf e) a w = Q (exitOf e) a w := by
  cases e with
  | nrm => exact absurd rfl he
  | ex i => rfl
  | rt => rfl

section
variable {C : Ctx}

/-- The state made anew out of its data. -/
theorem cut_rel {S : Shape} {I : Interp} {objs : Nat → Option Obj} {sl : Nat → Val} {u : Nat → Value} {x : Tup S} {m : Met} {w : World} (h : takeS S C.E.n0 objs sl = some (x, m)) (R : WRel C I objs w) (hS : ∀ i, VRep I (Dom objs) w (badOf C I objs) (sl i) (u i)) :
    ∃ J, WRel C J (ofC S x).objs w ∧ ∀ i, VRep J (Dom (ofC S x).objs) w (badOf C J (ofC S x).objs) ((ofC S x).slots i) (u i) := by
  obtain ⟨h1, h2, h3, h4, h5, h6, h7, h8, h9⟩ := takeS_rep R h hS C.ban (fun g o hb => .inl hb) C rfl
  have hmut : ∀ g o, MutOf (newI I S m) (ofC S x).objs g o → MutOf I objs g o := by
    rintro g o ⟨id, ob, ho, hc⟩
    obtain ⟨n, ob0, _, b, c⟩ := h2 id ob g o ho hc
    exact ⟨n, ob0, b, c⟩
  refine ⟨newI I S m, ⟨h1, fun g o hm => R.lt g o (hmut g o hm), h3, ?_, R.frame, fun g o hm => R.within g o (hmut g o hm), h4, R.banlt, ?_⟩, h5⟩
  · intro g cs hg
    obtain ⟨a, ws, e, hf, hr⟩ := R.globs g cs hg
    exact ⟨a, ws, e, hf.imp fun l v => DRep.mono h6 l v, fun i v hv => h6 _ _ (hr i v hv)⟩
  · intro k hk
    obtain ⟨_, b1, b2⟩ := R.base k hk
    refine ⟨h7 k _ (h9 k hk), ?_, ?_⟩
    · simp [newI, h9 k hk, b1]
    · simp [newI, h9 k hk, b2]
theorem Rel.cut {S : Shape} {st : St} {x : Tup S} {m : Met} {a : Act} {w : World} (h : takeS S C.E.n0 st.objs st.slots = some (x, m)) (hr : Rel C st a w) : Rel C (ofC S x) a w := by
  obtain ⟨I, R, hS, hsz, hdf⟩ := hr
  obtain ⟨J, h1, h2⟩ := cut_rel h R hS
  exact ⟨J, h1, h2, hsz, hdf⟩

theorem iterK_rounds {ρ : Type} {c : Code} {body : (Ex → St → Option ρ) → St → Option ρ} {k : Ex → St → Option ρ} {r : ρ} {P : Program} {Q : Exit → Act → World → Prop}
    (hbody : ∀ (k' : Ex → St → Option ρ) (st : St), body k' st = some r → ∀ a w, Rel C st a w → ∀ Q', (∀ e st' a' w', k' e st' = some r → Rel C st' a' w' → Q' (exitOf e) a' w') → c.wp P Q' a w)
    (hQ : ∀ e st' a' w', e ≠ .nrm → k e st' = some r → Rel C st' a' w' → Q (exitOf e) a' w') :
    ∀ n st, iterK body k n st = some r → ∀ a w, Rel C st a w → Code.rounds P c Q n a w
  | 0, st, h, a, w, _ => by cases h
  | n + 1, st, h, a, w, hr => by
    rw [rounds_succ]
    simp only [iterK] at h
    refine hbody _ st h a w hr _ fun e st' a' w' hk hr' => ?_
    cases e with
    | nrm => exact iterK_rounds hbody hQ n st' hk a' w' hr'
    | ex i => exact hQ (.ex i) st' a' w' (by simp) hk hr'
    | rt => exact hQ .rt st' a' w' (by simp) hk hr'

theorem sub_sound {ρ : Type} {c : Code} {n : Nat} (hs : ∀ p, C.E.lproc n = some p → LProcSound C.E c p) {k : Ex → St → Option ρ} {st : St} {r : ρ}
    (h : (match C.E.lproc n with
      | some p =>
        match takeS p.inS C.E.n0 st.objs st.slots with
        | some (x, _) => (p.F x).bind fun y => outK p.outs y k
        | none => none
      | none => none) = some r) {a : Act} {w : World} (hr : Rel C st a w) {Q : Exit → Act → World → Prop} (hQ : ∀ e st' a' w', k e st' = some r → Rel C st' a' w' → Q (exitOf e) a' w') : c.wp C.E.P Q a w := by
  split at h
  · rename_i p hp
    split at h
    · rename_i x m hx
      cases hF : p.F x with
      | none => rw [hF] at h; cases h
      | some y =>
        rw [hF] at h
        simp only [Option.bind_some, outK_at] at h
        exact hs p hp C rfl x y hF a w (hr.cut hx) Q fun a' w' hr' => hQ _ _ a' w' h hr'
    · cases h
  · cases h

theorem pe_sound {ρ : Type} (HP : ProcsOk C.E) : ∀ (c : Code) (ann : Ann), SubsOk C.E c ann → ∀ (k : Ex → St → Option ρ) (st : St) (r : ρ), pe C.E c ann k st = some r → ∀ (a : Act) (w : World), Rel C st a w → ∀ (Q : Exit → Act → World → Prop),
    (∀ e st' a' w', k e st' = some r → Rel C st' a' w' → Q (exitOf e) a' w') → c.wp C.E.P Q a w := by
  intro c
  induction c with
  | skip =>
    intro ann hs k st r h a w hr Q hQ
    cases ann with
    | sub n => exact sub_sound hs h hr hQ
    | _ => exact wp_skip (hQ .nrm st a w h hr)
  | region id ops draw =>
    intro ann hs k st r h a w hr Q hQ
    cases ann with
    | sub n => exact sub_sound hs h hr hQ
    | _ => exact region_sound HP h hr fun st' a' w' hk hr' => hQ .nrm st' a' w' hk hr'
  | exit id =>
    intro ann hs k st r h a w hr Q hQ
    cases ann with
    | sub n => exact sub_sound hs h hr hQ
    | _ => exact wp_exit (hQ (.ex id) st a w h hr)
  | ret =>
    intro ann hs k st r h a w hr Q hQ
    cases ann with
    | sub n => exact sub_sound hs h hr hQ
    | _ => exact wp_ret (hQ .rt st a w h hr)
  | seq x y ihx ihy =>
    intro ann hs k st r h a w hr Q hQ
    have key : ∀ l q, SubsOk C.E x l → SubsOk C.E y q → pe C.E x l (fun e st' => match e with | .nrm => pe C.E y q k st' | e => k e st') st = some r → (Code.seq x y).wp C.E.P Q a w := by
      intro l q hx hy h
      refine wp_seq (ihx l hx _ st r h a w hr _ fun e st' a' w' hk hr' => ?_)
      cases e with
      | nrm => exact ihy q hy k st' r hk a' w' hr' Q hQ
      | ex i => exact hQ (.ex i) st' a' w' hk hr'
      | rt => exact hQ .rt st' a' w' hk hr'
    cases ann with
    | sub n => exact sub_sound hs h hr hQ
    | s p q => exact key p q hs.1 hs.2 h
    | _ => exact key .z .z (SubsOk_z _ _) (SubsOk_z _ _) h
  | cond c x y ihx ihy =>
    intro ann hs k st r h a w hr Q hQ
    have key : ∀ l q, SubsOk C.E x l → SubsOk C.E y q → condK c st (evalO C.E st.slots c) (pe C.E x l k) (pe C.E y q k) = some r → (Code.cond c x y).wp C.E.P Q a w := by
      intro l q hx hy h
      obtain ⟨I, R, hS, hsz, hdf⟩ := hr
      unfold condK at h
      split at h
      · rename_i b hb
        have hv := evalO_of R hS c
        rw [hb] at hv
        have hv' : a.eval c = .bool b := hv.1
        have hr : Rel C st a w := ⟨I, R, hS, hsz, hdf⟩
        have h2 : (bif b then pe C.E x l k st else pe C.E y q k st) = some r := by
          cases c with
          | tmp d =>
            have hb' : st.slots d = sc (.bool b) := hb
            cases b with
            | true =>
              simp only [upd_self _ _ _ hb'] at h
              exact h
            | false =>
              simp only [upd_self _ _ _ hb'] at h
              exact h
          | _ => exact h
        refine wp_cond hv' ?_
        cases b with
        | true => exact ihx l hx k st r h2 a w hr Q hQ
        | false => exact ihy q hy k st r h2 a w hr Q hQ
      · cases h
    cases ann with
    | sub n => exact sub_sound hs h hr hQ
    | s p q => exact key p q hs.1 hs.2 h
    | _ => exact key .z .z (SubsOk_z _ _) (SubsOk_z _ _) h
  | block id x ih =>
    intro ann hs k st r h a w hr Q hQ
    have key : ∀ p, SubsOk C.E x p → pe C.E x p (fun e st' => match e with | .ex j => (bif Nat.beq j id then k .nrm st' else k (.ex j) st') | e => k e st') st = some r → (Code.block id x).wp C.E.P Q a w := by
      intro p hx h
      refine wp_block (ih p hx _ st r h a w hr _ fun e st' a' w' hk hr' => ?_)
      cases e with
      | nrm => exact hQ .nrm st' a' w' hk hr'
      | rt => exact hQ .rt st' a' w' hk hr'
      | ex j =>
        simp only at hk
        simp only [exitOf, Exit.inBlock]
        cases hb : Nat.beq j id with
        | true =>
          rw [hb] at hk
          rw [if_pos (Nat.eq_of_beq_eq_true hb)]
          exact hQ .nrm st' a' w' hk hr'
        | false =>
          rw [hb] at hk
          have : j ≠ id := fun e => by rw [e, Nat.beq_refl] at hb; cases hb
          rw [if_neg this]
          exact hQ (.ex j) st' a' w' hk hr'
    cases ann with
    | sub n => exact sub_sound hs h hr hQ
    | b p => exact key p hs h
    | _ => exact key .z (SubsOk_z _ _) h
  | loop x ih =>
    intro ann hs k st r h a w hr Q hQ
    cases ann with
    | sub n => exact sub_sound hs h hr hQ
    | un n p =>
      refine wp_loop_rounds n (iterK_rounds (C := C) (fun k' st hb a w hr Q' hQ' => ih p hs k' st r hb a w hr Q' hQ') (fun e st' a' w' _ hk hr' => hQ e st' a' w' hk hr') n st h a w hr)
    | _ => cases h
  | _ =>
    intro ann hs k st r h a w hr Q hQ
    cases ann with
    | sub n => exact sub_sound hs h hr hQ
    | _ => cases h

end
end Go.Abs
