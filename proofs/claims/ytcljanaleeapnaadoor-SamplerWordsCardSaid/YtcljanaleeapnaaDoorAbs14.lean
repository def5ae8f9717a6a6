/- Cuts, make, literals, copy: what each leaves. -/
import Derived.Test.YtcljanaleeapnaaDoorAbs13
set_option linter.unusedVariables false
set_option linter.unusedSimpArgs false
namespace Go.Abs
open Go

section
variable {C : Ctx} {I : Interp} {objs : Nat → Option Obj} {w : World}

/-! ### make -/
theorem made_list (z : Array Value) (hz : 0 < z.size) : ∀ n : Nat, ((Array.range (n * z.size)).map (z[· % z.size]!)).toList = List.flatten (List.replicate n z.toList) := by
  intro n
  apply List.ext_getElem?
  intro j
  have hr : ∀ (n : Nat) (l : List Value) (j : Nat), l ≠ [] → (List.flatten (List.replicate n l))[j]? = if j < n * l.length then l[j % l.length]? else none := by
    intro n l
    induction n with
    | zero => intro j hl; simp
    | succ n ih =>
      intro j hl
      have hpos : 0 < l.length := by cases l; exact absurd rfl hl; simp
      rw [List.replicate_succ, List.flatten_cons]
      by_cases hj : j < l.length
      · rw [List.getElem?_append_left hj, if_pos (by rw [Nat.succ_mul]; omega), Nat.mod_eq_of_lt hj]
      · rw [List.getElem?_append_right (by omega), ih (j - l.length) hl]
        have : (j - l.length) % l.length = j % l.length := by
          rw [← Nat.mod_eq_sub_mod (by omega)]
        rw [this]
        by_cases h2 : j - l.length < n * l.length
        · rw [if_pos h2, if_pos (by rw [Nat.succ_mul]; omega)]
        · rw [if_neg h2, if_neg (by rw [Nat.succ_mul]; omega)]
  rw [hr n z.toList j (by intro h; have : z.size = 0 := by rw [← Array.length_toList, h]; rfl
                          omega)]
  simp only [Array.length_toList]
  by_cases hj : j < n * z.size
  · rw [if_pos hj]
    have hm : j % z.size < z.size := Nat.mod_lt _ hz
    simp [hj, hm]
  · rw [if_neg hj]
    simp
    omega

theorem flat_length {α : Type} (l : List α) : ∀ n, (List.flatten (List.replicate n l)).length = n * l.length
  | 0 => by simp
  | n + 1 => by rw [List.replicate_succ, List.flatten_cons, List.length_append, flat_length l n, Nat.succ_mul, Nat.add_comm]

/-- A new block that holds just these elements. -/
theorem newRow_of (R : WRel C I objs w) {fr : Nat} (hfr : objs fr = none) {e : TypeId} {t : Ty} {xs : List (El t)} {cells : List Value} (hr : Rows (CellsOk w (badOf C I objs) t) xs cells) (hm : xs.length ≤ maxLen) :
    StepOk C I objs w (lf1 (.own fr)) [(fr, .row e t xs)] (.slice (some ⟨w.heap.size, 0, none⟩) xs.length xs.length) (w.alloc (.cells cells.toArray e)) := by
  have hlen := hr.length (CellsOk.length t)
  have h := ownNew R hfr none (e := e) (t := t) (xs := xs) (v' := .slice (some ⟨w.heap.size, 0, none⟩) xs.length xs.length) (w' := w.alloc (.cells cells.toArray e)) (cells := cells) (fun r hr => by cases hr)
    (World.grownBy_alloc w _ _) hr
    ⟨hlen, .inr ⟨w.heap.size, xs.length, cells.toArray, rfl, Nat.zero_le _, heap_alloc_new w _, Nat.le_refl _, hm, by simp [hlen], by rw [← hlen]; simp⟩⟩
    (fun k hk => by
      left
      simp [Value.ownBlock] at hk
      omega)
  exact h

theorem makeOut_of (R : WRel C I objs w) {fr : Nat} {t : TypeId} {n : Int} {out : Out} {k k' : IntKind} (h : (makeOut objs C.E fr t n).den = some out) :
    ∃ y w', (Instr.makeSlice t (.int k n) (.int k' n)).run C.E.P w = .ok y w' ∧ StepOk C I objs w out.val out.wr y w' := by
  unfold makeOut at h
  split at h
  · rename_i e he
    have ht := sliceElem_of he
    split at h
    · rename_i ty z hty hz
      obtain ⟨i, v, hi, hv, rfl, hall⟩ := zeroD_of hz
      split at h
      · rename_i x hx
        obtain ⟨hrow, _⟩ := elemsOf_of (w := w) (bad := badOf C I objs) ty 1 _ _ _ hx (F2.valsD _ hall)
        obtain ⟨c1, c2, hc, h1, h2⟩ := hrow
        simp [Rows] at h2
        subst h2
        rw [List.append_nil] at hc
        subst hc
        cases hb : (Nat.beq (nleaf ty) (C.E.P.cellsOf e) && Nat.ble 1 (C.E.P.cellsOf e) && isFree objs fr) with
        | false => rw [hb] at h; cases h
        | true =>
          rw [hb] at h
          simp only [Bool.and_eq_true] at hb
          obtain ⟨h0, h⟩ := grd_of h
          obtain ⟨hlim, h⟩ := grd_of h
          simp only [Eff.den, Option.some.injEq] at h
          subst h
          have h0' := of_decide_eq_true h0
          have hlim' := of_decide_eq_true hlim
          have hsz : i.size = nleaf ty := by rw [Nat.eq_of_beq_eq_true hb.1.1, cellsOf_info hi]
          have hzs := CellsOk.length ty _ _ h1
          rw [bytesOf_info hi] at hlim'
          have hd1 := Nat.div_mul_le_self 140737488355328 i.bytes
          have hd2 : n.toNat * i.bytes ≤ 140737488355328 / i.bytes * i.bytes := Nat.mul_le_mul_right _ hlim'
          have hd3 := Nat.div_le_self 140737488355328 i.bytes
          have hbytes : (i.bytes : Int) * n ≤ 281474976710656 := by
            have h1 : n.toNat * i.bytes ≤ 140737488355328 := by omega
            have h2 := Int.ofNat_le.2 h1
            rw [Int.natCast_mul, Int.toNat_of_nonneg h0', Int.mul_comm] at h2
            omega
          have hrun := run_make (P := C.E.P) w t e i v ht hi hv k k' n n h0' (by omega) hbytes (by omega)
          have hzs' : v.cells.size = i.size := by rw [hsz, ← hzs]; exact Array.length_toList.symm
          have hcells : madeCells v.cells (n.toNat * i.size) = (List.flatten (List.replicate n.toNat v.cells.toList)).toArray := by
            rw [← hzs']
            apply Array.ext'
            exact made_list v.cells (by rw [hzs', hsz]; exact nleaf_pos ty) n.toNat
          rw [hcells] at hrun
          have hnew := newRow_of R (isFree_of hb.2) (e := e) (t := ty) (xs := List.replicate n.toNat x) (Rows.replicate x _ h1 n.toNat) (by rw [List.length_replicate]; simp only [maxLen]; omega)
          rw [List.length_replicate] at hnew
          exact ⟨_, _, hrun, hnew⟩
      · cases h
    · cases h
  · cases h

/-! ### Literals -/
theorem partsOf_of (R : WRel C I objs w) {sl : Nat → Val} {a : Act} (S : SRel C I objs w sl a) : ∀ {l : List (Nat × Operand)} {ps : List (Nat × AV)}, partsOf (evalO C.E sl) l = some ps →
    F2 (fun p q => p.1 = q.1 ∧ AVRep I (Dom objs) w (badOf C I objs) p.2 q.2) ps (l.map fun p => (p.1, a.eval p.2))
  | [], ps, h => by simp [partsOf] at h; subst h; trivial
  | (i, x) :: r, ps, h => by
    simp only [partsOf] at h
    split at h
    · rename_i av l hx hl
      obtain rfl := Option.some.inj h
      refine ⟨⟨rfl, ?_⟩, partsOf_of R S hl⟩
      have he := evalO_of R S x
      unfold avOfVal at hx
      split at hx
      · rename_i a' ha
        obtain rfl := Option.some.inj hx
        rw [ha] at he
        exact he
      · cases hx
    · cases h

theorem foldl_put (cs : List Value) (c : Array Value) (off : Nat) : ∀ (l : List Value) (k : Nat) (c : Array Value), off + k + l.length ≤ c.size →
    ((l.zipIdx k).foldl (fun cs (p : Value × Nat) => cs.setIfInBounds (off + p.2) p.1) c).toList = putN c.toList (off + k) l
  | [], k, c, h => by simp [putN_eq]
  | v :: l, k, c, h => by
    simp only [List.length_cons] at h
    rw [List.zipIdx_cons, List.foldl_cons, foldl_put cs c off l (k + 1) _ (by simp; omega)]
    apply List.ext_getElem?
    intro j
    have e1 : off + (k + 1) + l.length ≤ (c.setIfInBounds (off + k) v).toList.length := by
      have hc := @Array.length_toList _ (c.setIfInBounds (off + k) v)
      have hs := @Array.size_setIfInBounds _ c (off + k) v
      omega
    have e2 : off + k + (v :: l).length ≤ c.toList.length := by
      have hc := @Array.length_toList _ c
      simp only [List.length_cons]
      omega
    rw [putN_get e1, putN_get e2]
    simp only [List.length_cons]
    by_cases h1 : off + (k + 1) ≤ j ∧ j < off + (k + 1) + l.length
    · rw [if_pos h1, if_pos (by omega), show j - (off + k) = (j - (off + (k + 1))) + 1 by omega, List.getElem?_cons_succ]
    · rw [if_neg h1]
      by_cases h2 : j = off + k
      · subst h2
        rw [if_pos (by omega), Array.toList_setIfInBounds, List.getElem?_set_self (by have := @Array.length_toList _ c; omega)]
        simp
      · rw [if_neg (by omega)]
        rw [Array.toList_setIfInBounds, List.getElem?_set_ne (by omega)]

theorem fill_of {dom : Nat → Prop} {bad : Bad} {pl pl' : Nat → Option (Nat × Nat)} : ∀ {ps : List (Nat × AV)} {qs : List (Nat × Value)} {ls r : List Leaf} {c : Array Value}, fillN pl ps ls = some r →
    F2 (fun p q => p.1 = q.1 ∧ AVRep I dom w bad p.2 q.2) ps qs → F2 (LRep I dom w bad) ls c.toList → (∀ i x, pl i = some x → pl' i = some x) → ∃ c', Instr.fill pl' c qs = some c' ∧ F2 (LRep I dom w bad) r c'.toList ∧ c'.size = c.size
  | [], [], ls, r, c, h, _, hf, _ => by simp [fillN] at h; subst h; exact ⟨c, rfl, hf, rfl⟩
  | [], _ :: _, _, _, _, _, h, _, _ => h.elim
  | _ :: _, [], _, _, _, _, h, _, _ => h.elim
  | (i, av) :: ps, (j, v) :: qs, ls, r, c, h, ⟨⟨hij, hav⟩, hps⟩, hf, hpl => by
    simp only at hij hav
    subst hij
    simp only [fillN] at h
    split at h
    · rename_i off size hp
      cases hb : Nat.beq (List.length (avLeaves av)) size with
      | false => rw [hb] at h; cases h
      | true =>
        rw [hb] at h
        simp only [cond_true] at h
        have hsz := Nat.eq_of_beq_eq_true hb
        split at h
        · rename_i cc hcut
          obtain ⟨_, hcl, hle⟩ := cutN_of hcut
          have hfa := avLeaves_of hav
          have hla := hfa.length
          have hlc := hf.length
          have hvs : v.cells.toList.length = v.cells.size := by simp
          have hcs : c.toList.length = c.size := by simp
          have hpos : off + v.cells.size ≤ c.size := by omega
          have hput := foldl_put [] c off v.cells.toList 0 c (by omega)
          rw [Nat.add_zero] at hput
          have harr : (v.cells.zipIdx.foldl (fun cs (p : Value × Nat) => cs.setIfInBounds (off + p.2) p.1) c).toList = putN c.toList off v.cells.toList := by
            rw [← hput]
            rw [← Array.foldl_toList]
            simp
          obtain ⟨c', h1, h2, h3⟩ := fill_of (c := v.cells.zipIdx.foldl (fun cs (p : Value × Nat) => cs.setIfInBounds (off + p.2) p.1) c) h hps (by rw [harr]; exact hf.put off hfa) hpl
          refine ⟨c', ?_, h2, ?_⟩
          · simp only [Instr.fill, hpl i _ hp]
            rw [if_neg (by simp; omega)]
            exact h1
          · rw [h3, ← Array.length_toList, harr, putN_length (by omega)]
            simp
        · cases h
    · cases h

theorem place_struct {P : Program} {fs : Array Field} : ∀ (w : World), (∀ f ∈ fs.toList, ∃ i, P.info? f.type = some i) →
    (fs.mapM fun f => do pure (f.offset, ← sizeOf f.type) : Sem (Array (Nat × Nat))).run P w = .ok (fs.map fun f => (f.offset, P.cellsOf f.type)) w := by
  intro w h
  rw [← Array.toArray_toList (xs := fs), List.mapM_toArray]
  have : ∀ l : List Field, (∀ f ∈ l, ∃ i, P.info? f.type = some i) → (l.mapM fun f => do pure (f.offset, ← sizeOf f.type) : Sem (List (Nat × Nat))).run P w = .ok (l.map fun f => (f.offset, P.cellsOf f.type)) w := by
    intro l
    induction l with
    | nil => intro _; rfl
    | cons f l ih =>
      intro h
      obtain ⟨i, hi⟩ := h f (by simp)
      have hc := cellsOf_info hi
      rw [List.mapM_cons]
      simp only [Sem.run_bind, sizeOf_run hi, Result.andThen_ok, Sem.run_pure]
      rw [ih (fun g hg => h g (by simp [hg]))]
      simp [hc]
  rw [Sem.run_map, this fs.toList h]
  simp only [Result.andThen_ok]
  congr 1
  exact Array.ext' (by simp)

theorem getL_eq {α : Type} : ∀ (l : List α) (i : Nat), getL l i = l[i]?
  | [], i => by simp [getL]
  | x :: r, 0 => by simp [getL]
  | x :: r, i + 1 => by simp [getL, getL_eq r i]

theorem buildAv_of (R : WRel C I objs w) {sl : Nat → Val} {a : Act} (S : SRel C I objs w sl a) {t : TypeId} {parts : List (Nat × Operand)} {av : AV} (h : buildAv C.E.P (evalO C.E sl) t parts = some av) :
    ∃ y, (Instr.build t (parts.toArray.map fun (i, x) => (i, a.eval x))).run C.E.P w = .ok y w ∧ AVRep I (Dom objs) w (badOf C I objs) av y := by
  unfold buildAv at h
  split at h
  · rename_i z ps hz hps
    unfold zeroLeaves at hz
    split at hz
    · rename_i zd hzd
      obtain rfl := Option.some.inj hz
      obtain ⟨i, v, hi, hv, rfl, hall⟩ := zeroD_of hzd
      have hzf : F2 (LRep I (Dom objs) w (badOf C I objs)) (List.map Leaf.d (List.map DLeaf.v v.cells.toList)) v.cells.toList := (F2.valsD _ hall).toD
      have hpf := partsOf_of R S hps
      have hzero : (zeroValue t).run C.E.P w = .ok v w := by simp [zeroValue, typeInfo, hi, hv]
      have hlist : (parts.toArray.map fun (i, x) => (i, a.eval x)).toList = parts.map fun p => (p.1, a.eval p.2) := by simp
      split at h
      · rename_i fs hu
        cases hfi : fs.toList.all fun f => (C.E.P.info? f.type).isSome with
        | false => rw [hfi] at h; cases h
        | true =>
        rw [hfi] at h
        simp only [cond_true] at h
        cases hf : fillN (fun i => (fieldPl C.E.P t i).map fun p => (p.1, p.2.1)) ps (List.map Leaf.d (List.map DLeaf.v v.cells.toList)) with
        | none => rw [hf] at h; cases h
        | some r =>
          rw [hf] at h
          obtain rfl := Option.some.inj h
          have hinfo : ∀ f ∈ fs.toList, ∃ i, C.E.P.info? f.type = some i := fun f hf => Option.isSome_iff_exists.1 (List.all_eq_true.1 hfi f hf)
          obtain ⟨c', h1, h2, h3⟩ := fill_of (pl' := fun i => (fs.map fun f => (f.offset, C.E.P.cellsOf f.type))[i]?) hf hpf hzf (fun i x hx => by
            cases hfp : fieldPl C.E.P t i with
            | none => rw [hfp] at hx; cases hx
            | some q =>
              rw [hfp] at hx
              obtain ⟨off, n, ft⟩ := q
              obtain ⟨fs', g, hu', hg, rfl, rfl, rfl⟩ := fieldPl_of hfp
              rw [hu] at hu'
              cases hu'
              rw [← Option.some.inj hx, Array.getElem?_map, hg]
              rfl)
          refine ⟨.agg c', ?_, ?_⟩
          · unfold Instr.build
            simp only [Sem.run_bind, hzero, Result.andThen_ok, run_underlying hu]
            rw [place_struct w hinfo]
            simp only [Result.andThen_ok, hlist, h1, Sem.run_pure]
          · exact ⟨c'.toList, by simp, h2⟩
      · rename_i n e hu
        cases hie : (C.E.P.info? e).isSome with
        | false => rw [hie] at h; cases h
        | true =>
        rw [hie] at h
        simp only [cond_true] at h
        obtain ⟨ie, hie'⟩ := Option.isSome_iff_exists.1 hie
        have hce := cellsOf_info hie'
        cases hf : fillN (fun i => some (i * C.E.P.cellsOf e, C.E.P.cellsOf e)) ps (List.map Leaf.d (List.map DLeaf.v v.cells.toList)) with
        | none => rw [hf] at h; cases h
        | some r =>
          rw [hf] at h
          obtain rfl := Option.some.inj h
          obtain ⟨c', h1, h2, h3⟩ := fill_of (pl' := fun i => some (i * ie.size, ie.size)) hf hpf hzf (fun i x hx => by rw [← hce]; exact hx)
          refine ⟨.agg c', ?_, c'.toList, by simp, h2⟩
          unfold Instr.build
          simp only [Sem.run_bind, hzero, Result.andThen_ok, run_underlying hu, sizeOf_run hie', hlist, h1, Sem.run_pure]
      · cases h
    · cases hz
  · cases h

end
end Go.Abs
