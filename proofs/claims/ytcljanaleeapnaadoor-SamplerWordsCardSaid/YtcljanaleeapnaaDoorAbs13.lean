/- Cuts, append, make, literals, copy, len: what each leaves. -/
import Derived.Test.YtcljanaleeapnaaDoorAbs12
set_option linter.unusedVariables false
set_option linter.unusedSimpArgs false
namespace Go.Abs
open Go

section
variable {C : Ctx} {I : Interp} {objs : Nat → Option Obj} {w : World}

theorem zeroD_of {P : Program} {t : TypeId} {z : List DLeaf} (h : zeroD P t = some z) : ∃ i v, P.info? t = some i ∧ i.zero = some v ∧ z = v.cells.toList.map .v ∧ v.cells.toList.all Value.oneCell' = true := by
  unfold zeroD at h
  split at h
  · rename_i i hi
    split at h
    · rename_i v hv
      cases hb : v.cells.toList.all Value.oneCell' with
      | false => rw [hb] at h; cases h
      | true =>
        rw [hb] at h
        exact ⟨i, v, hi, hv, (Option.some.inj h).symm, hb⟩
    · cases h
  · cases h
theorem F2.valsD {bad : Bad} : ∀ (l : List Value), l.all Value.oneCell' = true → F2 (DRep w bad) (l.map .v) l
  | [], _ => trivial
  | v :: l, h => by
    simp only [List.all_cons, Bool.and_eq_true] at h
    exact ⟨⟨rfl, h.1⟩, F2.valsD l h.2⟩
theorem zeroFits_of {P : Program} {e : TypeId} (h : zeroFits P e = true) : ∃ i z, P.info? e = some i ∧ i.zero = some z ∧ z.cells.size = i.size := by
  unfold zeroFits at h
  split at h
  · rename_i i hi
    split at h
    · rename_i z hz
      exact ⟨i, z, hi, hz, Nat.eq_of_beq_eq_true h⟩
    · cases h
  · cases h
theorem lim_of {P : Program} {e : TypeId} {i : TypeInfo} (hi : P.info? e = some i) {n : Nat} (h : n < limOf P e) : n * i.bytes ≤ 140737488355328 ∧ n ≤ maxLen := by
  unfold limOf at h
  rw [bytesOf_info hi] at h
  have h1 := Nat.div_mul_le_self 140737488355328 i.bytes
  have h2 : n * i.bytes ≤ 140737488355328 / i.bytes * i.bytes := Nat.mul_le_mul_right _ (by omega)
  have h3 := Nat.div_le_self 140737488355328 i.bytes
  refine ⟨by omega, ?_⟩
  simp only [maxLen]
  omega

theorem isNil_of {v : Value} (h : isNilSlice v = true) : v = .slice none 0 0 := by
  unfold isNilSlice at h
  split at h
  · rfl
  · cases h

theorem src_dat {bad : Bad} {t : Ty} {xs : List (El t)} {u : Value} (h : CellsOk w bad (.slc t) xs [u]) : Src w bad t xs u := by
  obtain ⟨A, c, es, e, hc, hr, hp⟩ := h
  exact ⟨A, c, es, by simpa using e, hc, hr, hp.imp id fun ⟨ad, ha, hrow⟩ => ⟨ad, ha, fun j v hj => (hrow j v hj).1⟩⟩
theorem src_row {bad : Bad} {e : TypeId} {t : Ty} {xs : List (El t)} {v : Value} {cells : List Value} (hr : Rows (CellsOk w bad t) xs cells) (ho : w.ownsRow 0 e (nleaf t) v xs.length cells) : Src w bad t xs v := by
  rcases ho.2 with ⟨hv, h0⟩ | ⟨g, cap, cur, hv, hb, hh, hc1, hc2, hsz, htk⟩
  · have hx : xs = [] := List.eq_nil_of_length_eq_zero h0
    subst hx
    exact ⟨none, 0, [], hv, Nat.le_refl _, rfl, .inl rfl⟩
  · refine ⟨some ⟨g, 0, none⟩, cap, cells, hv, hc1, hr, .inr ⟨_, rfl, fun i v' hi => ?_⟩⟩
    rw [addr_add]
    refine cell_of hh ?_
    rw [← htk, List.getElem?_take] at hi
    split at hi
    · simpa using hi
    · cases hi

theorem sliceOf_of (R : WRel C I objs w) {x : Leaf} {sd : SD} {rs : List Nat} {u : Value} (h : sliceOf objs x = some (sd, rs)) (hx : LRep I (Dom objs) w (badOf C I objs) x u) :
    (sd = .nil ∧ u = .slice none 0 0) ∨ ∃ t xs, sd = .dat t xs ∧ Src w (badOf C I objs) t xs u := by
  unfold sliceOf at h
  split at h
  · rename_i v
    cases hb : isNilSlice v with
    | false => rw [hb] at h; cases h
    | true =>
      rw [hb] at h
      simp at h
      exact .inl ⟨h.1.symm, by rw [hx.1]; exact isNil_of hb⟩
  · simp at h
    exact .inr ⟨_, _, h.1.symm, src_dat hx⟩
  · rename_i r
    split at h
    · rename_i e t xs hr
      simp at h
      obtain ⟨_, cells, hrow, ho⟩ := R.ok r _ hr
      refine .inr ⟨_, _, h.1.symm, ?_⟩
      rw [hx.2.1]
      exact src_row hrow ho
    · rename_i t xs hr
      simp at h
      refine .inr ⟨_, _, h.1.symm, ?_⟩
      rw [hx.2.1]
      exact src_dat (R.ok r _ hr).2
    · cases h
  · cases h

theorem appendOut_of (R : WRel C I objs w) {fr : Nat} {t rt : TypeId} {s x : Leaf} {out : Out} {u v : Value} (h : (appendOut objs C.E.P fr t s x).den = some out) (hs : LRep I (Dom objs) w (badOf C I objs) s v) (hx : LRep I (Dom objs) w (badOf C I objs) x u) :
    ∃ y w', (Builtin.append_ #[t, t] rt #[v, u]).run C.E.P w = .ok y w' ∧ StepOk C I objs w out.val out.wr y w' := by
  unfold appendOut at h
  split at h
  · rename_i e he
    have ht := sliceElem_of he
    split at h
    · -- nil, and data
      rename_i x0 t' ys rs hsl
      cases hb : (isNilSlice x0 && Nat.beq (nleaf t') (C.E.P.cellsOf e) && isFree objs fr && zeroFits C.E.P e) with
      | false => rw [hb] at h; cases h
      | true =>
        rw [hb] at h
        simp only [Bool.and_eq_true] at hb
        obtain ⟨hlim, h⟩ := grd_of h
        simp only [Eff.den, Option.some.injEq] at h
        subst h
        have hv : v = .slice none 0 0 := by rw [hs.1]; exact isNil_of hb.1.1.1
        subst hv
        obtain ⟨i, z, hi, hz, hzs⟩ := zeroFits_of hb.2
        rcases sliceOf_of R hsl hx with ⟨h1, _⟩ | ⟨t2, xs2, h1, hsrc⟩
        · cases h1
        · cases h1
          have hn := Nat.eq_of_beq_eq_true hb.1.1.2
          obtain ⟨hl1, hl2⟩ := lim_of hi (of_decide_eq_true hlim)
          obtain ⟨v', w', cells', h1, h2, h3, h4, h5⟩ := append_core (ty := t') ht hn hi hz hzs (xs := []) (cells := []) (bad := badOf C I objs) rfl (World.ownsRow_nil w 0 e (nleaf t')) hsrc (by simpa using hl1) (by simpa using hl2) rt
          exact ⟨v', w', h1, ownNew R (isFree_of hb.1.2) none (fun r hr => by cases hr) h4 h2 h3 (fun k hk => (h5 k hk).imp id (fun hh => by cases hh))⟩
    · -- nil, nil
      rename_i x0 rs hsl
      cases hb : (isNilSlice x0 && zeroFits C.E.P e) with
      | false => rw [hb] at h; cases h
      | true =>
        rw [hb] at h
        simp only [Bool.and_eq_true] at hb
        simp only [cond_true, Eff.den, Option.some.injEq] at h
        subst h
        have hv : v = .slice none 0 0 := by rw [hs.1]; exact isNil_of hb.1
        subst hv
        rcases sliceOf_of R hsl hx with ⟨_, hu⟩ | ⟨t2, xs2, h1, hsrc⟩
        · subst hu
          obtain ⟨i, _, hi, _⟩ := zeroFits_of hb.2
          refine ⟨.slice none 0 0, w, ?_, StepOk.pure R hs⟩
          simp [Builtin.append_, run_underlying ht, sizeOf_run hi, Builtin.lenOf, Builtin.firstCells]
        · cases h1
    · -- a row, nil
      rename_i r rs hsl
      split at h
      · rename_i e' t' xs hr
        cases hb : zeroFits C.E.P e with
        | false => rw [hb] at h; cases h
        | true =>
        rw [hb] at h
        simp only [cond_true, Eff.den, Option.some.injEq] at h
        subst h
        rcases sliceOf_of R hsl hx with ⟨_, hu⟩ | ⟨t2, xs2, h1, hsrc⟩
        · subst hu
          obtain ⟨i, _, hi, _⟩ := zeroFits_of hb
          obtain ⟨_, cells, hrow, ho⟩ := R.ok r _ hr
          rw [← hs.2.1] at ho
          refine ⟨v, w, ?_, StepOk.pure R hs⟩
          rcases ho.2 with ⟨rfl, h0⟩ | ⟨g, cap, cur, rfl, _, _, hc1, _⟩
          · simp [Builtin.append_, run_underlying ht, sizeOf_run hi, Builtin.lenOf, Builtin.firstCells]
          · simp [Builtin.append_, run_underlying ht, sizeOf_run hi, Builtin.lenOf, Builtin.firstCells, hc1, storeCells]
        · cases h1
      · cases h
    · -- a row, and data
      rename_i r t' ys rs hsl
      split at h
      · rename_i e' ty xs hr
        split at h
        · rename_i ys' hys
          obtain ⟨ety, hys'⟩ := castL_eq hys
          subst ety
          subst hys'
          cases hb : (Nat.beq e e' && Nat.beq (nleaf t') (C.E.P.cellsOf e) && !(rs.any (Nat.beq r)) && isFree objs fr && zeroFits C.E.P e) with
          | false => rw [hb] at h; cases h
          | true =>
            rw [hb] at h
            simp only [Bool.and_eq_true] at hb
            obtain ⟨hlim, h⟩ := grd_of h
            simp only [Eff.den, Option.some.injEq] at h
            subst h
            have hee : e = e' := Nat.eq_of_beq_eq_true hb.1.1.1.1
            subst hee
            obtain ⟨i, z, hi, hz, hzs⟩ := zeroFits_of hb.2
            obtain ⟨_, cells, hrow, ho⟩ := R.ok r _ hr
            rcases sliceOf_of R hsl hx with ⟨h1, _⟩ | ⟨t2, xs2, h1, hsrc⟩
            · cases h1
            · cases h1
              have hn := Nat.eq_of_beq_eq_true hb.1.1.1.2
              obtain ⟨hl1, hl2⟩ := lim_of hi (of_decide_eq_true hlim)
              rw [hs.2.1]
              obtain ⟨v', w', cells', h1, h2, h3, h4, h5⟩ := append_core (ty := t') ht hn hi hz hzs (bad := badOf C I objs) hrow ho hsrc hl1 hl2 rt
              exact ⟨v', w', h1, ownNew R (isFree_of hb.1.2) (some r) (fun r' hr' => by cases hr'; exact ⟨_, _, _, hr⟩) h4 h2 h3 h5⟩
        · cases h
      · cases h
    · cases h
  · cases h

end
end Go.Abs
