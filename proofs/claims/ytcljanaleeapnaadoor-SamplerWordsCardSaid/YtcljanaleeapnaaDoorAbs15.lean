/- Slice literals; cuts of slices; len, min, max; elements of array values. -/
import Derived.Test.YtcljanaleeapnaaDoorAbs14
set_option linter.unusedVariables false
set_option linter.unusedSimpArgs false
namespace Go.Abs
open Go

section
variable {C : Ctx} {I : Interp} {objs : Nat → Option Obj} {w : World}

theorem rep_of {α β : Type} {R : α → β → Prop} {l : List α} {m : List β} (h : F2 R l m) : ∀ n, F2 R (repN l n) (List.flatten (List.replicate n m))
  | 0 => trivial
  | n + 1 => by
    rw [List.replicate_succ, List.flatten_cons]
    exact h.append (rep_of h n)

theorem froz_none {objs objs1 : Nat → Option Obj} (h : Froz objs objs1) {i : Nat} (hi : objs i = none) : objs1 i = none := by
  rcases h i with h1 | ⟨e, t, xs, h1, _⟩
  · rw [h1]; exact hi
  · rw [hi] at h1; cases h1

theorem litOut_of (R : WRel C I objs w) {sl : Nat → Val} {a : Act} (S : SRel C I objs w sl a) {fr : Nat} {t : TypeId} {len : Nat} {parts : List (Nat × Operand)} {out : Out} (h : litOut objs C.E (evalO C.E sl) fr t len parts = some out) :
    ∃ y w', (Instr.buildSlice t len (parts.toArray.map fun (i, x) => (i, a.eval x))).run C.E.P w = .ok y w' ∧ StepOk C I objs w out.val out.wr y w' := by
  unfold litOut at h
  split at h
  · rename_i e hu
    split at h
    · rename_i ty z ps hty hz hps
      cases hb : (Nat.beq (nleaf ty) (C.E.P.cellsOf e) && zeroFits C.E.P e && Nat.ble (len * C.E.P.cellsOf e) 16777216) with
      | false => rw [hb] at h; cases h
      | true =>
        rw [hb] at h
        simp only [Bool.and_eq_true] at hb
        simp only [cond_true] at h
        have hn := Nat.eq_of_beq_eq_true hb.1.1
        obtain ⟨i0, v0, hi0, hv0, hzs0⟩ := zeroFits_of hb.1.2
        have hpos : 1 ≤ C.E.P.cellsOf e := by rw [← hn]; exact nleaf_pos ty
        have hmax := Nat.le_of_ble_eq_true hb.2
        unfold zeroLeaves at hz
        split at hz
        · rename_i zd hzd
          obtain rfl := Option.some.inj hz
          obtain ⟨i, v, hi, hv, rfl, hall⟩ := zeroD_of hzd
          have hsz := cellsOf_info hi
          have hzf : F2 (LRep I (Dom objs) w (badOf C I objs)) (List.map Leaf.d (List.map DLeaf.v v.cells.toList)) v.cells.toList := (F2.valsD _ hall).toD
          split at h
          · rename_i ls hfill
            split at h
            · rename_i ds rs hds
              split at h
              · rename_i xs hxs
                cases hfr : isFree objs fr with
                | false => rw [hfr] at h; cases h
                | true =>
                  rw [hfr] at h
                  simp only [cond_true, Option.some.injEq] at h
                  subst h
                  have hlist : (parts.toArray.map fun (i, x) => (i, a.eval x)).toList = parts.map fun p => (p.1, a.eval p.2) := by simp
                  have hrep := rep_of hzf len
                  obtain ⟨c', h1, h2, h3⟩ := fill_of (c := (List.flatten (List.replicate len v.cells.toList)).toArray) (pl' := fun i' => some (i' * i.size, i.size)) hfill (partsOf_of R S hps) (by simpa using hrep) (fun j x hx => by rw [← hsz]; exact hx)
                  obtain ⟨hF, R1, K1, hz1, hz2⟩ := freezes_self R rs
                  have hfd := dOfs_of R1 K1 hF hds hz1 h2
                  obtain ⟨hrow, hlen⟩ := elemsOf_of ty len ds xs _ hxs hfd
                  have hnew := newRow_of R1 (fr := fr) (froz_none hF (isFree_of hfr)) (e := e) hrow (by
                    simp only [maxLen]
                    have : len * 1 ≤ len * C.E.P.cellsOf e := Nat.mul_le_mul_left _ hpos
                    omega)
                  rw [hlen] at hnew
                  refine ⟨_, _, ?_, hnew.after rfl K1⟩
                  have hzl : v.cells.size = i.size := by
                    rw [hi0] at hi
                    cases hi
                    rw [hv0] at hv
                    cases hv
                    exact hzs0
                  have he : c'.toList.toArray = c' := by simp
                  rw [he]
                  rw [hsz] at hmax
                  unfold Instr.buildSlice
                  simp only [Sem.run_bind, run_underlying hu, Result.andThen_ok, sizeOf_run hi, Sem.run_ite]
                  rw [if_neg (by omega)]
                  by_cases h0 : len * i.size = 0
                  · have hl0 : len = 0 := by
                      rcases Nat.eq_zero_or_pos len with h | h
                      · exact h
                      · have := Nat.mul_pos h (show 0 < i.size by omega); omega
                    subst hl0
                    have hm : ((Array.range (0 * i.size)).map ((#[] : Array Value)[· % (#[] : Array Value).size]!)) = (List.flatten (List.replicate 0 v.cells.toList)).toArray := by simp
                    rw [if_pos h0]
                    simp only [Sem.run_pure, Result.andThen_ok, hlist, hm, h1]
                    rfl
                  · have hm : (Array.range (len * i.size)).map (v.cells[· % v.cells.size]!) = (List.flatten (List.replicate len v.cells.toList)).toArray := by
                      apply Array.ext'
                      rw [← hzl]
                      exact made_list v.cells (by omega) len
                    rw [if_neg h0]
                    have hzv : (zeroValue e).run C.E.P w = .ok v w := by simp [zeroValue, typeInfo, hi, hv]
                    simp only [Sem.run_pure, Sem.run_bind, Result.andThen_ok, hzv, hlist, hm, h1]
                    rfl
              · cases h
            · cases h
          · cases h
        · cases hz
    · cases h
  · cases h

/-- A box of data from now on stays as it is. -/
theorem dLeaves_of {dom : Nat → Prop} {bad : Bad} : ∀ {ls : List Leaf} {ds : List DLeaf} {vs : List Value}, dLeaves ls = some ds → F2 (LRep I dom w bad) ls vs → F2 (DRep w bad) ds vs ∧ ds.length = ls.length
  | [], ds, [], h, _ => by simp [dLeaves] at h; subst h; exact ⟨trivial, rfl⟩
  | [], ds, _ :: _, h, hf => hf.elim
  | l :: ls, ds, [], h, hf => hf.elim
  | .d x :: ls, ds, v :: vs, h, hf => by
    simp only [dLeaves] at h
    split at h
    · rename_i l hl
      obtain rfl := Option.some.inj h
      obtain ⟨h1, h2⟩ := dLeaves_of hl hf.2
      exact ⟨⟨hf.1, h1⟩, by simp [h2]⟩
    · cases h
  | .own _ :: _, _, _ :: _, h, _ => by simp [dLeaves] at h
  | .bp _ _ :: _, _, _ :: _, h, _ => by simp [dLeaves] at h
  | .ep _ _ _ :: _, _, _ :: _, h, _ => by simp [dLeaves] at h
  | .dp _ :: _, _, _ :: _, h, _ => by simp [dLeaves] at h
  | .fn _ _ :: _, _, _ :: _, h, _ => by simp [dLeaves] at h

theorem freezeBox (R : WRel C I objs w) {b : Nat} {ls : List Leaf} {ds : List DLeaf} (h : objs b = some (.box ls)) (hds : dLeaves ls = some ds) :
    WRel C I (upd objs b (some (.fbox ds))) w ∧ Keep I (Dom objs) w (badOf C I objs) I (Dom (upd objs b (some (.fbox ds)))) w (badOf C I (upd objs b (some (.fbox ds)))) := by
  refine R.upd (fun _ _ => False) (fun id => id = b) (Fr.refl _ _) (fun _ _ h => h.elim) (fun _ _ => ⟨rfl, rfl⟩) (fun id hd => dom_upd hd) (fun id h => upd_other _ _ _ _ h) ?_ (fun id id' _ _ _ _ h h' _ _ _ _ => h.trans h'.symm) ?_
  · intro id ob' hc ho g o hcell
    subst hc
    rw [upd_same] at ho
    obtain rfl := Option.some.inj ho
    exact hcell.elim
  · intro K id ob' hc ho
    subst hc
    rw [upd_same] at ho
    obtain rfl := Option.some.inj ho
    obtain ⟨hpos, g, o, c, e, vs, hv, hh, hf, hcell⟩ := R.ok id _ h
    obtain ⟨hfd, hlen⟩ := dLeaves_of hds (hf.imp K.lrep)
    have hlv := hf.length
    refine ⟨g, o, vs, hv, hfd, fun i v hi => ⟨?_, ?_⟩⟩
    · rw [addr_add]
      exact cell_of hh (hcell i v hi)
    · rw [addr_add]
      intro hbad
      have hil : i < ls.length := by rw [hlv]; exact (List.getElem?_eq_some_iff.1 hi).1
      have hcl : cellsOf I id (.box ls) g (o + i) := ⟨o, hv, by omega, by omega⟩
      rcases hbad with hb1 | ⟨id2, ob2, h2, h3⟩
      · exact R.noban g (o + i) ⟨id, _, h, hcl⟩ hb1
      · by_cases e2 : id2 = id
        · subst e2
          rw [upd_same] at h2
          obtain rfl := Option.some.inj h2
          exact h3
        · rw [upd_other _ _ _ _ e2] at h2
          exact e2 (R.disj id2 id ob2 _ g _ h2 h h3 hcl)

theorem arrayOf_run (P : Program) (w : World) {t e : TypeId} {n : Nat} (h : arrayOf P t = some (n, e)) {i : TypeInfo} (hi : P.info? e = some i) (a : Addr) {l hh : Nat} {lo hi' : Option Value} (hb : (Instr.sliceBounds false n n lo hi' none).run P w = .ok (l, hh, n) w) :
    (Instr.sliceAt t (.pointer (some a)) lo hi' none).run P w = .ok (.slice (if n = l then some a else (some a).map (·.add (l * i.size))) (hh - l) (n - l)) w := by
  have hif : (some (if n = l then a else a.add (l * i.size)) : Option Addr) = if n = l then some a else (some a).map (·.add (l * i.size)) := by
    split <;> rfl
  unfold arrayOf at h
  split at h
  · rename_i n' e' hu
    simp only [Option.some.injEq, Prod.mk.injEq] at h
    obtain ⟨rfl, rfl⟩ := h
    simp only [Instr.sliceAt, Sem.run_bind, run_underlying hu, Result.andThen_ok, Instr.sureAddr, Sem.run_pure, hb, sizeOf_run hi, hif]
  · rename_i ar hu
    split at h
    · rename_i n' e' hu2
      simp only [Option.some.injEq, Prod.mk.injEq] at h
      obtain ⟨rfl, rfl⟩ := h
      simp only [Instr.sliceAt, Sem.run_bind, run_underlying hu, Result.andThen_ok, Instr.slice, asAddr, Sem.run_pure, run_underlying hu2, hb, sizeOf_run hi, hif]
    · cases h
  · cases h

theorem isStrT_of {P : Program} {t : TypeId} (h : isStrT P t = true) : P.underlying t = some .string := by
  unfold isStrT at h
  split at h
  · assumption
  · cases h

theorem bif_true {α : Type} {b : Bool} {e : Eff α} {r : α} (h : (bif b then e else Eff.fail).den = some r) : b = true ∧ e.den = some r := by
  cases b
  · cases h
  · exact ⟨rfl, h⟩

theorem sliceOut_of (R : WRel C I objs w) {t : TypeId} {x : Val} {lo hi : Option Int} {vlo vhi : Option Value} {out : Out} {u : Value} (h : (sliceOut objs C.E t x lo hi).den = some out) (hlo : BoundIs vlo lo) (hhi : BoundIs vhi hi) (hx : VRep I (Dom objs) w (badOf C I objs) x u) :
    ∃ y, (Instr.sliceAt t u vlo vhi none).run C.E.P w = .ok y w ∧ StepOk C I objs w out.val out.wr y w := by
  unfold sliceOut at h
  split at h
  · rename_i s
    obtain ⟨hs, h⟩ := bif_true h
    obtain ⟨he, l, hh, hlh, hhn, h1, h2, h3, h4⟩ := cutGrd_of h
    simp only [Eff.den, Option.some.injEq] at he
    subst he
    have hu : u = .string s := hx.1
    subst hu
    have hb := bounds_run C.E.P w (isS := false) (n := s.size) (cap := s.size) hlo hhi hlh hhn (Nat.le_refl _) h1 h2 h3 h4
    refine ⟨_, sliceStr_run C.E.P w (isStrT_of hs) hb, StepOk.pure R ?_⟩
    have hc : cutStr s lo hi = s.extract l hh := by
      unfold cutStr
      congr 1
      · cases lo with
        | none => exact (h1 rfl).symm
        | some x => exact (h2 x rfl).2
      · cases hi with
        | none => exact (h3 rfl).symm
        | some x => exact (h4 x rfl).2
    rw [hc]
    exact ⟨rfl, rfl⟩
  · rename_i ty xs
    obtain ⟨hf, h⟩ := bif_true h
    obtain ⟨he, y, hy, hr⟩ := sliceDat_of (C := C) (I := I) (dom := Dom objs) hx hf h hlo hhi
    simp only [Eff.den, Option.some.injEq] at he
    subst he
    exact ⟨y, hy, StepOk.pure R hr⟩
  · rename_i r
    split at h
    · rename_i e ty xs hr
      obtain ⟨hf, h⟩ := bif_true h
      obtain ⟨R1, K1⟩ := freeze1 R hr
      have hfo := (R1.ok r _ (upd_same _ _ _)).2
      rw [← hx.2.1] at hfo
      obtain ⟨he, y, hy, hr'⟩ := sliceDat_of (C := C) (I := I) (dom := Dom (upd objs r (some (.frow ty xs)))) hfo hf h hlo hhi
      simp only [Eff.den, Option.some.injEq] at he
      subst he
      exact ⟨y, hy, I, R1, K1, hr'⟩
    · rename_i ty xs hr
      obtain ⟨hf, h⟩ := bif_true h
      have hfo := (R.ok r _ hr).2
      rw [← hx.2.1] at hfo
      obtain ⟨he, y, hy, hr'⟩ := sliceDat_of (C := C) (I := I) (dom := Dom objs) hfo hf h hlo hhi
      simp only [Eff.den, Option.some.injEq] at he
      subst he
      exact ⟨y, hy, StepOk.pure R hr'⟩
    · cases h
  · rename_i b
    split at h
    · rename_i n e ha
      split at h
      · rename_i ty ls hty hb
        split at h
        · rename_i ds hds
          split at h
          · rename_i xs hxs
            obtain ⟨hn, h⟩ := bif_true h
            obtain ⟨he, l, hh, hlh, hhn, h1, h2, h3, h4⟩ := cutGrd_of h
            simp only [Eff.den, Option.some.injEq] at he
            subst he
            obtain ⟨R1, K1⟩ := freezeBox R hb hds
            obtain ⟨g, o, vs, hv, hfd, hrow⟩ := R1.ok b _ (upd_same _ _ _)
            obtain ⟨hd, g', o', hv', hu⟩ := hx
            rw [hv] at hv'
            injection hv' with hv'; injection hv' with hv'; injection hv' with hg ho
            subst hg; subst ho
            subst hu
            obtain ⟨hrows, hlen⟩ := elemsOf_of ty n ds xs vs hxs hfd
            obtain ⟨i, hi', hsz⟩ := info_of_size (Nat.eq_of_beq_eq_true hn)
            have hbd := bounds_run C.E.P w (isS := false) (n := n) (cap := n) hlo hhi hlh hhn (Nat.le_refl _) h1 h2 h3 h4
            refine ⟨_, arrayOf_run C.E.P w ha hi' ⟨g, o + 0, none⟩ hbd, I, R1, K1, ?_⟩
            have hdat : CellsOk w (badOf C I (upd objs b (some (.fbox ds)))) (.slc ty) xs [.slice (some ⟨g, o, none⟩) xs.length n] := ⟨_, _, vs, rfl, by omega, hrows, .inr ⟨_, rfl, hrow⟩⟩
            have hcut := cutData hdat (l := l) (h := hh) hlh (by omega)
            rw [hsz]
            show CellsOk _ _ _ _ _
            rw [cutList_eq (by omega) h1 h2 (fun e => by rw [hlen]; exact h3 e) h4]
            exact hcut
          · cases h
        · cases h
      · cases h
    · cases h
  · cases h

end
end Go.Abs
