/- The operations of a region, one behind the other, in any order that the text allows. -/
import Derived.Test.YtcljanaleeapnaaDoorAbs27
import Derived.Orders
set_option linter.unusedVariables false
set_option linter.unusedSimpArgs false
namespace Go.Abs
open Go

def guardOf (ops : Array Oper) (o : Oper) (sl : Nat → Val) : Option Bool :=
  match o.guard with
  | none => some true
  | some (j, want) =>
    match dstOf ops j with
    | some d =>
      match sl d with
      | .one (.lf (.d (.v (.bool b)))) => some (b == want)
      | _ => none
    | none => none

/-- What operation i would do here: the value, the writes, its line. -/
def actI (E : Env) (ops : Array Oper) (fr0 i : Nat) (o : Oper) (sl : Nat → Val) (get : Nat → Option Obj) : Option (Val × List (Nat × Obj) × List Line) :=
  match guardOf ops o sl with
  | none => none
  | some false => some (.undef, [], [])
  | some true => (opE E sl get (fr0 + opBase * i) o).den.map fun out => (out.val, out.wr, [⟨i, out.rd, List.map (·.1) out.wr⟩])

def stepI (E : Env) (ops : Array Oper) (fr0 i : Nat) (st : St) : Option (St × List Line) :=
  match ops[i]? with
  | none => none
  | some o =>
    match actI E ops fr0 i o st.slots st.objs with
    | none => none
    | some (v, wr, ls) =>
      match putVal E.ntmps st.slots o.dst v with
      | none => none
      | some s => some ({ st with slots := s, objs := putWr st.objs wr }, ls)

def runI (E : Env) (ops : Array Oper) (fr0 : Nat) : List Nat → St → Option (St × List Line)
  | [], st => some (st, [])
  | i :: r, st =>
    match stepI E ops fr0 i st with
    | none => none
    | some (st', ls) =>
      match runI E ops fr0 r st' with
      | none => none
      | some (st'', ls') => some (st'', ls ++ ls')

theorem upd_self {α : Type} (f : Nat → α) (i : Nat) (x : α) (h : f i = x) : upd f i x = f := by
  funext j
  by_cases e : j = i
  · subst e; rw [upd_same, h]
  · rw [upd_other _ _ _ _ e]

section
variable {ρ : Type} {E : Env} {ops : Array Oper} {fr0 : Nat}

theorem peOps_go {k : St → List Line → Option ρ} {i : Nat} {o : Oper} {rest : List (Nat × Oper)} {st : St} {log : List Line} {r : ρ} (hi : ops[i]? = some o) (hgd : guardOf ops o st.slots = some true)
    (h : ((opE E st.slots st.objs (fr0 + opBase * i) o).cps fun out =>
        match putVal E.ntmps st.slots o.dst out.val with
        | some s => peOps E ops fr0 k rest { st with slots := s, objs := putWr st.objs out.wr } (⟨i, out.rd, List.map (·.1) out.wr⟩ :: log)
        | none => none) = some r) : ∃ st' ls, stepI E ops fr0 i st = some (st', ls) ∧ peOps E ops fr0 k rest st' (ls.reverse ++ log) = some r := by
  rw [Eff.cps_den] at h
  cases ho : (opE E st.slots st.objs (fr0 + opBase * i) o).den with
  | none => rw [ho] at h; cases h
  | some out =>
    rw [ho] at h
    simp only [Option.bind_some] at h
    split at h
    · rename_i s hs
      exact ⟨_, _, by simp only [stepI, hi, actI, hgd, ho, Option.map_some, hs]; rfl, h⟩
    · cases h
theorem peOps_skip {k : St → List Line → Option ρ} {i : Nat} {o : Oper} {rest : List (Nat × Oper)} {st : St} {log : List Line} {r : ρ} (hi : ops[i]? = some o) (hgd : guardOf ops o st.slots = some false)
    (h : (match putVal E.ntmps st.slots o.dst .undef with
      | some s => peOps E ops fr0 k rest { st with slots := s } log
      | none => none) = some r) : ∃ st' ls, stepI E ops fr0 i st = some (st', ls) ∧ peOps E ops fr0 k rest st' (ls.reverse ++ log) = some r := by
  split at h
  · rename_i s hs
    exact ⟨_, _, by simp only [stepI, hi, actI, hgd, hs]; rfl, h⟩
  · cases h

theorem peOps_run {k : St → List Line → Option ρ} : ∀ {l : List (Nat × Oper)} {st : St} {log : List Line} {r : ρ}, (∀ p ∈ l, ops[p.1]? = some p.2) → peOps E ops fr0 k l st log = some r →
    ∃ st' ls, runI E ops fr0 (l.map (·.1)) st = some (st', ls) ∧ k st' (ls.reverse ++ log) = some r
  | [], st, log, r, _, h => ⟨st, [], rfl, h⟩
  | (i, o) :: rest, st, log, r, hl, h => by
    have hi : ops[i]? = some o := hl (i, o) (by simp)
    have key : ∃ st' ls, stepI E ops fr0 i st = some (st', ls) ∧ peOps E ops fr0 k rest st' (ls.reverse ++ log) = some r := by
      simp only [peOps] at h
      split at h
      · rename_i hg
        exact peOps_go hi (by simp only [guardOf, hg]) h
      · rename_i j want hg
        split at h
        · rename_i d hd
          split at h
          · rename_i b hb
            cases b with
            | true =>
              have hu := upd_self st.slots d (sc (.bool true)) hb
              cases want with
              | true =>
                simp only [cond_true, hu] at h
                exact peOps_go hi (by simp only [guardOf, hg, hd, hb]; rfl) h
              | false =>
                simp only [cond_true, cond_false, hu] at h
                exact peOps_skip hi (by simp only [guardOf, hg, hd, hb]; rfl) h
            | false =>
              have hu := upd_self st.slots d (sc (.bool false)) hb
              cases want with
              | true =>
                simp only [cond_true, cond_false, hu] at h
                exact peOps_skip hi (by simp only [guardOf, hg, hd, hb]; rfl) h
              | false =>
                simp only [cond_false, hu] at h
                exact peOps_go hi (by simp only [guardOf, hg, hd, hb]; rfl) h
          · cases h
        · cases h
    obtain ⟨st1, ls1, h1, h2⟩ := key
    obtain ⟨st2, ls2, h3, h4⟩ := peOps_run (l := rest) (fun p hp => hl p (List.mem_cons_of_mem _ hp)) h2
    refine ⟨st2, ls1 ++ ls2, ?_, ?_⟩
    · simp only [List.map_cons, runI, h1, h3]
    · rw [List.reverse_append, List.append_assoc]
      exact h4
end

/-! ### Two operations that stand apart -/
section
variable {E : Env} {ops : Array Oper} {fr0 : Nat}

theorem eval_uses {sl sl' : Nat → Val} {o : Oper} (h : ∀ t, t ∈ tmpsOf o → sl' t = sl t) : ∀ x ∈ o.op.operands, evalO E sl' x = evalO E sl x := by
  intro x hx
  cases x with
  | tmp t =>
    apply h
    have : t ∈ o.op.operands.toList.filterMap fun | .tmp t => some t | _ => none := List.mem_filterMap.2 ⟨.tmp t, by simpa using hx, rfl⟩
    unfold tmpsOf
    cases o.dst with
    | none => exact this
    | some d => exact List.mem_cons_of_mem _ this
  | _ => rfl

theorem actI_loc {i : Nat} {o : Oper} {sl sl' : Nat → Val} {get get' : Nat → Option Obj} {v : Val} {wr : List (Nat × Obj)} {ls : List Line} (h : actI E ops fr0 i o sl get = some (v, wr, ls))
    (hs : ∀ t, t ∈ usesOf ops o → sl' t = sl t) (hg : ∀ l ∈ ls, Agree get get' l.rd) : actI E ops fr0 i o sl' get' = some (v, wr, ls) := by
  have hgd : guardOf ops o sl' = guardOf ops o sl := by
    unfold guardOf
    cases hgu : o.guard with
    | none => rfl
    | some p =>
      obtain ⟨j, want⟩ := p
      cases hd : dstOf ops j with
      | none => simp only [hd]
      | some d =>
        simp only [hd]
        rw [hs d (by simp only [usesOf, hgu, hd]; simp)]
  have ht : ∀ t, t ∈ tmpsOf o → sl' t = sl t := by
    intro t htt
    apply hs
    unfold usesOf
    split
    · split
      · exact List.mem_cons_of_mem _ htt
      · exact htt
    · exact htt
  unfold actI at h ⊢
  rw [hgd]
  split at h
  · cases h
  · exact h
  · rw [opE_ev (eval_uses ht)]
    simp only [Option.map_eq_some_iff, Prod.mk.injEq] at h ⊢
    obtain ⟨out, ho, h1, h2, h3⟩ := h
    refine ⟨out, opE_get ho ?_, h1, h2, h3⟩
    have := hg _ (by rw [← h3]; simp : (⟨i, out.rd, List.map (·.1) out.wr⟩ : Line) ∈ ls)
    exact this

theorem putVal_other {N : Nat} {sl s : Nat → Val} {d : Option Tmp} {v : Val} (h : putVal N sl d v = some s) (t : Nat) (ht : d ≠ some t) : s t = sl t := by
  unfold putVal at h
  split at h
  · rename_i i
    cases hb : Nat.blt i N with
    | false => rw [hb] at h; cases h
    | true =>
      rw [hb] at h
      simp only [cond_true, Option.some.injEq] at h
      subst h
      exact upd_other _ _ _ _ (fun e => ht (by rw [e]))
  · simp only [Option.some.injEq] at h
    subst h
    rfl

theorem putVal_comm {N : Nat} {sl s1 s2 : Nat → Val} {d d' : Option Tmp} {v v' : Val} (h1 : putVal N sl d v = some s1) (h2 : putVal N s1 d' v' = some s2) (hd : ∀ t, d = some t → d' ≠ some t) :
    ∃ s3, putVal N sl d' v' = some s3 ∧ putVal N s3 d v = some s2 := by
  unfold putVal at *
  cases d with
  | none =>
    simp only [Option.some.injEq] at h1
    subst h1
    exact ⟨s2, h2, rfl⟩
  | some i =>
    cases d' with
    | none =>
      simp only [Option.some.injEq] at h2
      subst h2
      exact ⟨sl, rfl, h1⟩
    | some j =>
      have hne : i ≠ j := fun e => hd i rfl (by rw [e])
      simp only at h1 h2 ⊢
      cases hi : Nat.blt i N with
      | false => rw [hi] at h1; cases h1
      | true =>
        cases hj : Nat.blt j N with
        | false => rw [hj] at h2; cases h2
        | true =>
          rw [hi] at h1
          rw [hj] at h2
          simp only [cond_true, Option.some.injEq] at h1 h2 ⊢
          subst h1
          refine ⟨_, rfl, ?_⟩
          rw [← h2]
          funext k
          by_cases e1 : k = i
          · subst e1; rw [upd_same, upd_other _ _ _ _ hne, upd_same]
          · by_cases e2 : k = j
            · subst e2; rw [upd_other _ _ _ _ e1, upd_same, upd_same]
            · rw [upd_other _ _ _ _ e1, upd_other _ _ _ _ e2, upd_other _ _ _ _ e2, upd_other _ _ _ _ e1]

theorem putWr_comm (l m : List (Nat × Obj)) (objs : Nat → Option Obj) (h : ∀ i, i ∈ l.map (·.1) → i ∉ m.map (·.1)) : putWr (putWr objs l) m = putWr (putWr objs m) l := by
  funext i
  by_cases hl : i ∈ l.map (·.1)
  · rw [putWr_other m _ i (h i hl)]
    exact putWr_last l _ _ i hl
  · rw [putWr_other l _ i hl]
    by_cases hm : i ∈ m.map (·.1)
    · exact putWr_last m _ _ i hm
    · rw [putWr_other m _ i hm, putWr_other m _ i hm, putWr_other l _ i hl]
where
  putWr_last : ∀ (l : List (Nat × Obj)) (o1 o2 : Nat → Option Obj) (i : Nat), i ∈ l.map (·.1) → putWr o1 l i = putWr o2 l i
    | [], _, _, _, h => by simp at h
    | (j, o) :: l, o1, o2, i, h => by
      show putWr (upd o1 j (some o)) l i = putWr (upd o2 j (some o)) l i
      by_cases hl : i ∈ l.map (·.1)
      · exact putWr_last l _ _ i hl
      · have : i = j := by
          simp only [List.map_cons, List.mem_cons] at h
          exact h.resolve_right hl
        subst this
        rw [putWr_other l _ i hl, putWr_other l _ i hl, upd_same, upd_same]

theorem meetL_of {a b : List Nat} (h : meetL a b = false) : ∀ x, x ∈ a → x ∉ b := by
  intro x ha hb
  have : meetL a b = true := List.any_eq_true.2 ⟨x, ha, List.any_eq_true.2 ⟨x, hb, Nat.beq_refl x⟩⟩
  rw [this] at h
  cases h

theorem anyBeq {l : List Nat} {d : Nat} (h : l.any (Nat.beq d) = false) : d ∉ l := any_beq h

theorem tmpsApart_of {i j : Nat} {a b : Oper} (ha : ops[i]? = some a) (hb : ops[j]? = some b) (h : tmpsApart ops i j = true) :
    (∀ d, a.dst = some d → d ∉ usesOf ops b) ∧ (∀ d, b.dst = some d → d ∉ usesOf ops a) := by
  unfold tmpsApart at h
  rw [getL_eq, getL_eq, Array.getElem?_toList, Array.getElem?_toList, ha, hb] at h
  simp only [Bool.and_eq_true, Bool.not_eq_true'] at h
  refine ⟨fun d hd => ?_, fun d hd => ?_⟩
  · have := h.1
    rw [hd] at this
    exact anyBeq this
  · have := h.2
    rw [hd] at this
    exact anyBeq this

theorem dst_uses {o : Oper} {d : Nat} (h : o.dst = some d) : d ∈ usesOf ops o := by
  have : d ∈ tmpsOf o := by simp [tmpsOf, h]
  unfold usesOf
  split
  · split
    · exact List.mem_cons_of_mem _ this
    · exact this
  · exact this

theorem step_swap {i j : Nat} {st sj si : St} {li lj : List Line} (h1 : stepI E ops fr0 j st = some (sj, lj)) (h2 : stepI E ops fr0 i sj = some (si, li)) (ht : tmpsApart ops j i = true)
    (ha : ∀ k ∈ lj, ∀ l ∈ li, apartL k l = true) : ∃ s', stepI E ops fr0 i st = some (s', li) ∧ stepI E ops fr0 j s' = some (si, lj) := by
  unfold stepI at h1 h2
  split at h1
  · cases h1
  · rename_i oj hoj
    split at h2
    · cases h2
    · rename_i oi hoi
      obtain ⟨hd1, hd2⟩ := tmpsApart_of hoj hoi ht
      split at h1
      · cases h1
      · rename_i vj wj ls1 hact1
        split at h1
        · cases h1
        · rename_i s1 hput1
          simp only [Option.some.injEq, Prod.mk.injEq] at h1
          obtain ⟨rfl, rfl⟩ := h1
          split at h2
          · cases h2
          · rename_i vi wi ls2 hact2
            split at h2
            · cases h2
            · rename_i s2 hput2
              simp only [Option.some.injEq, Prod.mk.injEq] at h2
              obtain ⟨rfl, rfl⟩ := h2
              -- the lines tell the writes
              have hlw : ∀ {n : Nat} {o : Oper} {sl : Nat → Val} {get : Nat → Option Obj} {v : Val} {wr : List (Nat × Obj)} {ls : List Line}, actI E ops fr0 n o sl get = some (v, wr, ls) → (wr = [] ∧ ls = []) ∨ ∃ l ∈ ls, l.wr = wr.map (·.1) := by
                intro n o sl get v wr ls h
                unfold actI at h
                split at h
                · cases h
                · simp only [Option.some.injEq, Prod.mk.injEq] at h
                  exact .inl ⟨h.2.1.symm, h.2.2.symm⟩
                · simp only [Option.map_eq_some_iff, Prod.mk.injEq] at h
                  obtain ⟨out, _, _, h2, h3⟩ := h
                  exact .inr ⟨⟨n, out.rd, List.map (·.1) out.wr⟩, by rw [← h3]; simp, by rw [← h2]⟩
              have hap : ∀ k ∈ ls1, ∀ l ∈ ls2, (∀ x, x ∈ l.wr → x ∉ k.rd) ∧ (∀ x, x ∈ l.wr → x ∉ k.wr) ∧ ∀ x, x ∈ k.wr → x ∉ l.rd := by
                intro k hk l hl
                have := ha k hk l hl
                unfold apartL at this
                simp only [Bool.and_eq_true, Bool.not_eq_true'] at this
                exact ⟨meetL_of this.1, meetL_of this.2.1, meetL_of this.2.2⟩
              have w1 : ∀ l ∈ ls2, ∀ x, x ∈ l.rd → x ∉ wj.map (·.1) := by
                intro l hl x hx hxw
                rcases hlw hact1 with ⟨e, _⟩ | ⟨k, hk, e⟩
                · rw [e] at hxw; simp at hxw
                · rw [← e] at hxw
                  exact (hap k hk l hl).2.2 x hxw hx
              have w2 : ∀ k ∈ ls1, ∀ x, x ∈ k.rd → x ∉ wi.map (·.1) := by
                intro k hk x hx hxw
                rcases hlw hact2 with ⟨e, _⟩ | ⟨l, hl, e⟩
                · rw [e] at hxw; simp at hxw
                · rw [← e] at hxw
                  exact (hap k hk l hl).1 x hxw hx
              have w3 : ∀ x, x ∈ wj.map (·.1) → x ∉ wi.map (·.1) := by
                intro x hxj hxi
                rcases hlw hact1 with ⟨e, _⟩ | ⟨k, hk, e⟩
                · rw [e] at hxj; simp at hxj
                · rcases hlw hact2 with ⟨e', _⟩ | ⟨l, hl, e'⟩
                  · rw [e'] at hxi; simp at hxi
                  · rw [← e] at hxj
                    rw [← e'] at hxi
                    exact (hap k hk l hl).2.1 x hxi hxj
              have a2 : actI E ops fr0 i oi st.slots st.objs = some (vi, wi, ls2) := by
                refine actI_loc hact2 (fun t htt => ?_) fun l hl x hx => ?_
                · exact (putVal_other hput1 t (fun e => hd1 t e htt)).symm
                · exact (putWr_other wj st.objs x (w1 l hl x hx)).symm
              obtain ⟨s3, hp3, hp4⟩ := putVal_comm hput1 hput2 (fun t e e' => hd1 t e (dst_uses e'))
              have a1 : actI E ops fr0 j oj s3 (putWr st.objs wi) = some (vj, wj, ls1) := by
                refine actI_loc hact1 (fun t htt => ?_) fun k hk x hx => ?_
                · exact putVal_other hp3 t (fun e => hd2 t e htt)
                · exact putWr_other wi st.objs x (w2 k hk x hx)
              refine ⟨{ st with slots := s3, objs := putWr st.objs wi }, ?_, ?_⟩
              · simp only [stepI, hoi, a2, hp3]
              · simp only [stepI, hoj, a1, hp4, putWr_comm wj wi st.objs w3]

end
end Go.Abs
