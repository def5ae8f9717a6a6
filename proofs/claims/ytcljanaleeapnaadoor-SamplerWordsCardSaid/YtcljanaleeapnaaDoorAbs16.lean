/- len, min, max; parts of structs and arrays; '==' of structs; conversions. -/
import Derived.Test.YtcljanaleeapnaaDoorAbs15
set_option linter.unusedVariables false
set_option linter.unusedSimpArgs false
namespace Go.Abs
open Go

section
variable {C : Ctx} {I : Interp} {objs : Nat → Option Obj} {w : World}

theorem sliceLen_of (R : WRel C I objs w) {x : Leaf} {n : Nat} {rs : List Nat} {u : Value} (h : sliceLen objs x = some (n, rs)) (hx : LRep I (Dom objs) w (badOf C I objs) x u) : ∃ A c, u = .slice A n c := by
  unfold sliceLen at h
  split at h
  · rename_i v
    cases hb : isNilSlice v with
    | false => rw [hb] at h; cases h
    | true =>
      rw [hb] at h
      simp at h
      refine ⟨none, 0, ?_⟩
      rw [hx.1, isNil_of hb, ← h.1]
  · simp at h
    obtain ⟨A, c, es, e, _⟩ := hx
    simp at e
    exact ⟨A, c, by rw [e, h.1]⟩
  · rename_i r
    split at h
    · rename_i e t xs hr
      simp at h
      obtain ⟨_, cells, _, ho⟩ := R.ok r _ hr
      rcases ownsRow_shape ho with ⟨h1, h2⟩ | ⟨g, c, h1, _⟩
      · exact ⟨none, 0, by rw [hx.2.1, h1, ← h.1, h2]⟩
      · exact ⟨_, c, by rw [hx.2.1, h1, ← h.1]⟩
    · rename_i t xs hr
      simp at h
      obtain ⟨A, c, es, e, _⟩ := (R.ok r _ hr).2
      simp at e
      exact ⟨A, c, by rw [hx.2.1, e, h.1]⟩
    · cases h
  · cases h

theorem lenOut_of (R : WRel C I objs w) {t rt : TypeId} {ts : List TypeId} {x : Val} {out : Out} {u : Value} (h : lenOut objs C.E.P t x = some out) (hx : VRep I (Dom objs) w (badOf C I objs) x u) :
    ∃ y, (Builtin.len_ (t :: ts).toArray rt #[u]).run C.E.P w = .ok y w ∧ StepOk C I objs w out.val out.wr y w := by
  unfold lenOut at h
  split at h
  · rename_i hu
    split at h
    · rename_i s
      obtain rfl := Option.some.inj h
      have hu' : u = .string s := hx.1
      subst hu'
      exact ⟨_, by simp [Builtin.len_, run_underlying hu, goInt], StepOk.pure R ⟨rfl, rfl⟩⟩
    · cases h
  · rename_i n e hu
    obtain rfl := Option.some.inj h
    exact ⟨_, by simp [Builtin.len_, run_underlying hu, goInt], StepOk.pure R ⟨rfl, rfl⟩⟩
  · rename_i e hu
    split at h
    · rename_i l
      split at h
      · rename_i n rs hl
        obtain rfl := Option.some.inj h
        obtain ⟨A, c, rfl⟩ := sliceLen_of R hl hx
        exact ⟨_, by simp [Builtin.len_, run_underlying hu, goInt], StepOk.pure R ⟨rfl, rfl⟩⟩
      · cases h
    · cases h
  · cases h

theorem foldV_max {P : Program} {dom : Nat → Prop} {bad : Bad} : ∀ {xs : List Val} {us : List Value} {x v : Value}, foldV maxV x xs = some v → F2 (VRep I dom w bad) xs us → x.oneCell' = true → (us.foldlM Builtin.max2 x).run P w = .ok v w ∧ v.oneCell' = true
  | [], [], x, v, h, _, h1 => by simp [foldV] at h; subst h; exact ⟨rfl, h1⟩
  | [], _ :: _, _, _, _, h, _ => h.elim
  | _ :: _, [], _, _, _, h, _ => h.elim
  | a :: xs, u :: us, x, v, h, hf, h1 => by
    unfold foldV at h
    split at h
    · rename_i heq
      cases heq
    · rename_i y r heq
      simp only [List.cons.injEq] at heq
      obtain ⟨rfl, rfl⟩ := heq
      split at h
      · rename_i z hz
        have hu : u = y := hf.1.1
        subst hu
        unfold maxV at hz
        split at hz
        · rename_i k a k' b
          obtain rfl := Option.some.inj hz
          obtain ⟨h2, h3⟩ := foldV_max (P := P) h hf.2 rfl
          refine ⟨?_, h3⟩
          rw [List.foldlM_cons, Sem.run_bind]
          have : (Builtin.max2 (.int k a) (.int k' b)).run P w = .ok (.int k (bif decide (b > a) then b else a)) w := by
            simp only [Builtin.max2, Sem.run_pure]
            congr 2
            by_cases hb : b > a <;> simp [hb]
          rw [this]
          exact h2
        · cases hz
      · cases h
    · cases h
theorem foldV_min {P : Program} {dom : Nat → Prop} {bad : Bad} : ∀ {xs : List Val} {us : List Value} {x v : Value}, foldV minV x xs = some v → F2 (VRep I dom w bad) xs us → x.oneCell' = true → (us.foldlM Builtin.min2 x).run P w = .ok v w ∧ v.oneCell' = true
  | [], [], x, v, h, _, h1 => by simp [foldV] at h; subst h; exact ⟨rfl, h1⟩
  | [], _ :: _, _, _, _, h, _ => h.elim
  | _ :: _, [], _, _, _, h, _ => h.elim
  | a :: xs, u :: us, x, v, h, hf, h1 => by
    unfold foldV at h
    split at h
    · rename_i heq
      cases heq
    · rename_i y r heq
      simp only [List.cons.injEq] at heq
      obtain ⟨rfl, rfl⟩ := heq
      split at h
      · rename_i z hz
        have hu : u = y := hf.1.1
        subst hu
        unfold minV at hz
        split at hz
        · rename_i k a k' b
          obtain rfl := Option.some.inj hz
          obtain ⟨h2, h3⟩ := foldV_min (P := P) h hf.2 rfl
          refine ⟨?_, h3⟩
          rw [List.foldlM_cons, Sem.run_bind]
          have : (Builtin.min2 (.int k a) (.int k' b)).run P w = .ok (.int k (bif decide (b < a) then b else a)) w := by
            simp only [Builtin.min2, Sem.run_pure]
            congr 2
            by_cases hb : b < a <;> simp [hb]
          rw [this]
          exact h2
        · cases hz
      · cases h
    · cases h

/-! ### Parts -/
theorem part_run {dom : Nat → Prop} {bad : Bad} {P : Program} {t : TypeId} {ls c : List Leaf} {cs : List Value} {off : Nat} {av : AV} (hu : (P.underlying t).isSome = true) (hcut : cutN ls off (P.cellsOf t) = some c) (hv : asVal (isAggT P t) c = some av) (hf : F2 (LRep I dom w bad) ls cs) :
    ∃ y, (part t cs.toArray off).run P w = .ok y w ∧ AVRep I dom w bad av y := by
  obtain ⟨i, hi⟩ := info_of_underlying hu
  obtain ⟨rfl, hcl, hle⟩ := cutN_of hcut
  have hlen := hf.length
  have hf' := (hf.drop off).take (P.cellsOf t)
  have hav := asVal_of hv hf'
  unfold part
  rw [Sem.run_bind, isAgg_run P w t hu]
  simp only [Result.andThen_ok]
  cases hg : isAggT P t with
  | true =>
    rw [hg] at hav
    refine ⟨_, ?_, hav⟩
    simp only [if_true, Sem.run_bind, sizeOf_run hi, Result.andThen_ok, Sem.run_pure]
    congr 2
    rw [cellsOf_info hi]
    simp
  | false =>
    rw [hg] at hav hv
    unfold asVal at hv
    split at hv
    · rename_i hh; cases hh
    · rename_i l hh heq
      have h1 : P.cellsOf t = 1 := by rw [← hcl, heq]; rfl
      refine ⟨_, ?_, hav⟩
      have hlt : off < cs.length := by omega
      simp only [Bool.false_eq_true, if_false]
      rw [List.getElem?_toArray, List.getElem?_eq_getElem hlt]
      simp only [Sem.run_pure]
      congr 1
      rw [h1]
      simp [List.getD, List.getElem?_take, hlt]
    · cases hv

theorem strsOf_of {bad : Bad} : ∀ {ds : List DLeaf} {ns : List ByteArray} {vs : List Value}, strsOf ds = some ns → F2 (DRep w bad) ds vs → vs = ns.map (.string ·)
  | [], ns, [], h, _ => by simp [strsOf] at h; subst h; rfl
  | [], ns, _ :: _, _, hf => hf.elim
  | d :: ds, ns, [], _, hf => hf.elim
  | .dat _ _ :: ds, ns, _ :: _, h, _ => by simp [strsOf] at h
  | .v x :: ds, ns, v :: vs, h, hf => by
    cases x <;> try (simp [strsOf] at h; done)
    rename_i s
    simp only [strsOf] at h
    split at h
    · rename_i l hl
      obtain rfl := Option.some.inj h
      rw [strsOf_of hl hf.2, hf.1.1]
      rfl
    · cases h

theorem indexV_of (R : WRel C I objs w) {t : TypeId} {x : Val} {n : Int} {out : Out} {u : Value} {k : IntKind} (h : (indexV C.E.P t x n).den = some out) (hx : VRep I (Dom objs) w (badOf C I objs) x u) :
    ∃ y, (Instr.index t u (.int k n)).run C.E.P w = .ok y w ∧ StepOk C I objs w out.val out.wr y w := by
  unfold indexV at h
  split at h
  · rename_i s
    obtain ⟨hs, h⟩ := bif_true h
    obtain ⟨h0, h⟩ := grd_of h
    obtain ⟨h1, h⟩ := grd_of h
    simp only [Eff.den, Option.some.injEq] at h
    subst h
    have hu : u = .string s := hx.1
    subst hu
    have h0' := of_decide_eq_true h0
    have h1' := of_decide_eq_true h1
    have hlt : n.toNat < s.size := by omega
    refine ⟨_, ?_, StepOk.pure R ⟨rfl, rfl⟩⟩
    have hlt' : n.toNat < s.data.size := hlt
    simp only [Instr.index, Sem.run_bind, asIntOf, Sem.run_pure, Result.andThen_ok, run_underlying (isStrT_of hs), if_pos h0']
    have : s[n.toNat]? = some s[n.toNat] := by simp [hlt]
    rw [this]
    simp only [Sem.run_pure, btI]
    congr 3
    simp [Array.getD, hlt']
    rw [dif_pos hlt]
    rfl
  · rename_i ls
    obtain ⟨cs, rfl, hf⟩ := hx
    split at h
    · rename_i m e he
      obtain ⟨hu, i, hi, hsz⟩ := arrElem_of he
      have sel : (C.E.P.underlying e).isSome = true → (selE n (fun j => match cutN ls (j * C.E.P.cellsOf e) (C.E.P.cellsOf e) with
          | some c => (asVal (isAggT C.E.P e) c).map fun a => (⟨.one a, [], []⟩ : Out)
          | none => none) 0 m).den = some out → ∃ y, (Instr.index t (.agg cs.toArray) (.int k n)).run C.E.P w = .ok y w ∧ StepOk C I objs w out.val out.wr y w := by
        intro hue h
        obtain ⟨j, _, hj, rfl, hs⟩ := selE_of h
        split at hs
        · rename_i c hcut
          cases hav : asVal (isAggT C.E.P e) c with
          | none => rw [hav] at hs; cases hs
          | some av =>
            rw [hav] at hs
            obtain rfl := Option.some.inj hs
            obtain ⟨y, hy, hr⟩ := part_run (I := I) (dom := Dom objs) hue hcut hav hf
            refine ⟨y, ?_, StepOk.pure R hr⟩
            simp only [Instr.index, Sem.run_bind, asIntOf, Sem.run_pure, Result.andThen_ok, run_underlying hu]
            rw [if_pos (by omega)]
            simp only [Sem.run_bind, sizeOf_run hi, Result.andThen_ok, Int.toNat_natCast]
            rw [← hsz]
            exact hy
        · cases hs
      split at h
      · split at h
        · rename_i ds hds
          split at h
          · rename_i ss hss
            obtain ⟨hc, h⟩ := bif_true h
            simp only [Bool.and_eq_true] at hc
            obtain ⟨h0, h⟩ := grd_of h
            obtain ⟨h1, h⟩ := grd_of h
            simp only [Eff.den, Option.some.injEq] at h
            subst h
            have h0' := of_decide_eq_true h0
            have h1' := of_decide_eq_true h1
            have hs1 := Nat.eq_of_beq_eq_true hc.1.1.1
            have hs2 := Nat.eq_of_beq_eq_true hc.1.1.2
            have hng : isAggT C.E.P e = false := by simpa using hc.1.2
            obtain ⟨hfd, _⟩ := dLeaves_of hds hf
            have hv := strsOf_of hss hfd
            have hlt : n.toNat < ss.length := by omega
            have hget : cs[n.toNat]? = some (.string (ss.getD n.toNat ⟨#[]⟩)) := by
              rw [hv, List.getElem?_map, getD_of ⟨#[]⟩ hlt]
              rfl
            refine ⟨_, ?_, StepOk.pure R ⟨rfl, rfl⟩⟩
            simp only [Instr.index, Sem.run_bind, asIntOf, Sem.run_pure, Result.andThen_ok, run_underlying hu]
            rw [if_pos ⟨h0', h1'⟩]
            simp only [Sem.run_bind, sizeOf_run hi, Result.andThen_ok]
            unfold part
            rw [Sem.run_bind, isAgg_run C.E.P w e hc.2, hng, ← hsz, hs1, Nat.mul_one]
            simp only [Result.andThen_ok, Bool.false_eq_true, if_false]
            rw [List.getElem?_toArray, hget]
            rfl
          · cases h
        · cases h
      · rename_i k' z rest
        split at h
        · rename_i ds hds
          split at h
          · rename_i ns hns
            obtain ⟨hc, h⟩ := bif_true h
            simp only [Bool.and_eq_true] at hc
            obtain ⟨h0, h⟩ := grd_of h
            obtain ⟨h1, h⟩ := grd_of h
            simp only [Eff.den, Option.some.injEq] at h
            subst h
            have h0' := of_decide_eq_true h0
            have h1' := of_decide_eq_true h1
            have hs1 := Nat.eq_of_beq_eq_true hc.1.1.1
            have hs2 := Nat.eq_of_beq_eq_true hc.1.1.2
            have hng : isAggT C.E.P e = false := by simpa using hc.1.2
            obtain ⟨hfd, _⟩ := dLeaves_of hds hf
            have hv := intsOf_of hns hfd
            have hlt : n.toNat < ns.length := by omega
            have hget : cs[n.toNat]? = some (.int k' (ns.getD n.toNat 0)) := by
              rw [hv, List.getElem?_map, getD_of 0 hlt]
              rfl
            refine ⟨_, ?_, StepOk.pure R ⟨rfl, rfl⟩⟩
            simp only [Instr.index, Sem.run_bind, asIntOf, Sem.run_pure, Result.andThen_ok, run_underlying hu]
            rw [if_pos ⟨h0', h1'⟩]
            simp only [Sem.run_bind, sizeOf_run hi, Result.andThen_ok]
            unfold part
            rw [Sem.run_bind, isAgg_run C.E.P w e hc.2, hng, ← hsz, hs1, Nat.mul_one]
            simp only [Result.andThen_ok, Bool.false_eq_true, if_false]
            rw [List.getElem?_toArray, hget]
            rfl
          · cases h
        · cases h
      · obtain ⟨hue, h⟩ := bif_true h
        exact sel hue h
    · cases h
  · cases h

end
end Go.Abs
