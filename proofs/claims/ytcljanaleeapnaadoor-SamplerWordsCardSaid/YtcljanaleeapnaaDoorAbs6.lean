/- Operations on memory: variables, loads, stores, addresses. -/
import Derived.Test.YtcljanaleeapnaaDoorAbs5
set_option linter.unusedVariables false
set_option linter.unusedSimpArgs false
namespace Go.Abs
open Go

/-- How an operation goes on: whatever it leaves, the relation holds. -/
def Goes (C : Ctx) (I : Interp) (objs : Nat → Option Obj) (w : World) (o : Oper) (a : Act) (out : Out) : Prop :=
  ∀ (next : Act → World → Prop) (Q : Exit → Act → World → Prop), (∀ v w', StepOk C I objs w out.val out.wr v w' → next (a.put o.dst v) w') → o.wp C.E.P a w next Q

theorem Goes.value {C : Ctx} {I : Interp} {objs : Nat → Option Obj} {w : World} {o : Oper} {a : Act} {out : Out} {v : Value} {w' : World} (h : (execOp a.eval o).run C.E.P w = .ok (.value v) w') (s : StepOk C I objs w out.val out.wr v w') : Goes C I objs w o a out := by
  intro next Q k
  unfold Oper.wp
  rw [h]
  exact k v w' s
theorem Goes.skip {C : Ctx} {I : Interp} {objs : Nat → Option Obj} {w : World} {o : Oper} {a : Act} {out : Out} {w' : World} (h : (execOp a.eval o).run C.E.P w = .ok .skip w') (s : StepOk C I objs w out.val out.wr undef w') : Goes C I objs w o a out := by
  intro next Q k
  unfold Oper.wp
  rw [h]
  exact k undef w' s

theorem addr_add (g o n : Nat) : (⟨g, o, none⟩ : Addr).add n = ⟨g, o + n, none⟩ := by
  unfold Addr.add
  split
  · rename_i h; subst h; rfl
  · rfl
theorem addr_add_add (a : Addr) (i j : Nat) : (a.add i).add j = a.add (i + j) := by
  unfold Addr.add
  by_cases hi : i = 0 <;> by_cases hj : j = 0 <;> simp [hi, hj, Nat.add_assoc]
theorem addr_add_zero (a : Addr) : a.add 0 = a := by simp [Addr.add]

theorem putWr_nil (objs : Nat → Option Obj) : putWr objs [] = objs := rfl
theorem putWr_one (objs : Nat → Option Obj) (i : Nat) (o : Obj) : putWr objs [(i, o)] = upd objs i (some o) := rfl
theorem upd_same {α : Type} (f : Nat → α) (i : Nat) (x : α) : upd f i x i = x := by simp [upd]
theorem upd_other {α : Type} (f : Nat → α) (i j : Nat) (x : α) (h : j ≠ i) : upd f i x j = f j := by
  unfold upd
  cases hb : Nat.beq j i
  · rfl
  · exact absurd (Nat.eq_of_beq_eq_true hb) h

theorem isFree_of {objs : Nat → Option Obj} {i : Nat} (h : isFree objs i = true) : objs i = none := by
  unfold isFree at h
  split at h
  · assumption
  · cases h

theorem cutN_of {α : Type} {l : List α} {off n : Nat} {c : List α} (h : cutN l off n = some c) : c = (l.drop off).take n ∧ c.length = n ∧ off + n ≤ l.length := by
  unfold cutN at h
  cases hb : Nat.ble (off + n) (List.length l)
  · rw [hb] at h; cases h
  · rw [hb] at h
    have hl := Nat.le_of_ble_eq_true hb
    obtain rfl := Option.some.inj h
    refine ⟨rfl, ?_, hl⟩
    rw [List.length_take, List.length_drop]
    omega

theorem asVal_of {I : Interp} {dom : Nat → Prop} {w : World} {bad : Bad} {agg : Bool} {ls : List Leaf} {vs : List Value} {av : AV} (h : asVal agg ls = some av) (hf : F2 (LRep I dom w bad) ls vs) :
    AVRep I dom w bad av (if agg = true then .agg vs.toArray else vs.getD 0 undef) := by
  unfold asVal at h
  split at h
  · obtain rfl := Option.some.inj h
    exact ⟨vs, by simp, hf⟩
  · obtain rfl := Option.some.inj h
    match vs, hf with
    | [v], hf => simpa [AVRep] using hf.1
    | v :: _ :: _, hf => exact hf.2.elim
  · cases h

theorem isAgg_run (P : Program) (w : World) (t : TypeId) (h : (P.underlying t).isSome = true) : (isAgg t).run P w = .ok (isAggT P t) w := by
  obtain ⟨d, hd⟩ := Option.isSome_iff_exists.1 h
  unfold isAgg isAggT
  rw [Sem.run_bind, run_underlying hd, hd]
  cases d <;> rfl

theorem info_of_underlying {P : Program} {t : TypeId} (h : (P.underlying t).isSome = true) : ∃ i, P.info? t = some i := by
  unfold Program.underlying at h
  cases hi : P.info? t with
  | none => simp [hi] at h
  | some i => exact ⟨i, rfl⟩
theorem cellsOf_info {P : Program} {t : TypeId} {i : TypeInfo} (h : P.info? t = some i) : P.cellsOf t = i.size := by simp [Program.cellsOf, h]
theorem bytesOf_info {P : Program} {t : TypeId} {i : TypeInfo} (h : P.info? t = some i) : P.bytesOf t = i.bytes := by simp [Program.bytesOf, h]
theorem info_of_cells {P : Program} {t : TypeId} (h : P.cellsOf t ≠ 0) : ∃ i, P.info? t = some i := by
  unfold Program.cellsOf at h
  cases hi : P.info? t with
  | none => simp [hi] at h
  | some i => exact ⟨i, rfl⟩
theorem sizeOf_run {P : Program} {t : TypeId} {i : TypeInfo} (h : P.info? t = some i) (w : World) : (sizeOf t).run P w = .ok i.size w := by
  simp [sizeOf, typeInfo, h]

/-- The cells at an address, as a variable of type t. -/
theorem loadVar_run (P : Program) (w : World) (t : TypeId) (a : Addr) (vs : List Value) (hu : (P.underlying t).isSome = true) (hl : vs.length = P.cellsOf t) (hc : ∀ i v, vs[i]? = some v → w.cell? (a.add i) = some v)
    (h1 : isAggT P t = false → vs.length = 1) :
    (loadVar t a).run P w = .ok (if isAggT P t = true then .agg vs.toArray else vs.getD 0 undef) w := by
  obtain ⟨i, hi⟩ := info_of_underlying hu
  unfold loadVar
  rw [Sem.run_bind, isAgg_run P w t hu]
  simp only [Result.andThen_ok]
  cases hg : isAggT P t with
  | true =>
    rw [cellsOf_info hi] at hl
    simp only [Sem.run_bind, sizeOf_run hi, Result.andThen_ok, if_true]
    rw [← hl, run_loadCells_list w a vs hc]
    simp
  | false =>
    match vs, h1 hg with
    | [v], _ =>
      have := hc 0 v (by simp)
      rw [addr_add_zero] at this
      simp [run_load, this]

theorem storeCells_run (P : Program) (g : Nat) (e : TypeId) : ∀ (vs : List Value) (o i : Nat) (c : Array Value) (w : World), w.heap[g]? = some (.cells c e (0, 0)) → o + i + vs.length ≤ c.size → (∀ v ∈ vs, v.oneCell' = true) →
    ∃ c' w', (storeCells ⟨g, o, none⟩ vs i).run P w = .ok () w' ∧ w'.heap[g]? = some (.cells c' e (0, 0)) ∧ c'.size = c.size ∧ (∀ j : Nat, c'[j]? = if o + i ≤ j ∧ j < o + i + vs.length then vs[j - (o + i)]? else c[j]?) ∧
      w'.os = w.os ∧ w'.tape = w.tape ∧ w'.output = w.output ∧ w'.heap.size = w.heap.size ∧ ∀ k, k ≠ g → w'.heap[k]? = w.heap[k]?
  | [], o, i, c, w, h, _, _ => ⟨c, w, rfl, h, rfl, fun j => by rw [if_neg (by simp only [List.length_nil]; omega)], rfl, rfl, rfl, rfl, fun _ _ => rfl⟩
  | v :: vs, o, i, c, w, h, hl, h1 => by
    have hlen : o + i < c.size := by simp only [List.length_cons] at hl; omega
    have hcell : w.cell? ⟨g, o + i, none⟩ = some c[o + i] := cell_of h (by simp [hlen])
    have hfr : w.frozen? ⟨g, o + i, none⟩ = false := by simp [World.frozen?, h]
    have hw1 : (w.setCell ⟨g, o + i, none⟩ v).heap[g]? = some (.cells (c.setIfInBounds (o + i) v) e (0, 0)) := by
      simp [World.setCell, Array.getElem?_modify, h]
    obtain ⟨c', w', hr, h2, h3, h4, h5, h6, h7, h8, h9⟩ := storeCells_run P g e vs o (i + 1) (c.setIfInBounds (o + i) v) (w.setCell ⟨g, o + i, none⟩ v) hw1 (by simp only [List.length_cons] at hl; simp; omega) (fun u hu => h1 u (by simp [hu]))
    refine ⟨c', w', ?_, h2, by rw [h3]; simp, ?_, h5, h6, h7, by rw [h8]; simp, ?_⟩
    · unfold storeCells
      rw [Sem.run_bind, addr_add, run_store P w _ _ _ (h1 v (by simp))]
      simp only [hcell, hfr, Bool.false_eq_true, if_false, Result.andThen_ok]
      exact hr
    · intro j
      rw [h4 j]
      by_cases hj : o + (i + 1) ≤ j ∧ j < o + (i + 1) + vs.length
      · rw [if_pos hj, if_pos (by simp only [List.length_cons]; omega)]
        rw [show j - (o + i) = (j - (o + (i + 1))) + 1 by omega, List.getElem?_cons_succ]
      · rw [if_neg hj]
        by_cases hj2 : j = o + i
        · subst hj2
          rw [if_pos (by simp only [List.length_cons]; omega)]
          simp [hlen]
        · rw [if_neg (by simp only [List.length_cons]; omega)]
          rw [Array.getElem?_setIfInBounds_ne (by omega)]
    · intro k hk
      rw [h9 k hk]
      exact RowKit.Below.heap_setCell w ⟨g, o + i, none⟩ v k hk

theorem storeVar_run (P : Program) (w : World) (t : TypeId) (g o : Nat) (x : Value) (c : Array Value) (e : TypeId) (hx : x.cells.size = P.cellsOf t) (h0 : P.cellsOf t ≠ 0) (h : w.heap[g]? = some (.cells c e (0, 0))) (hl : o + x.cells.size ≤ c.size) (h1 : ∀ v ∈ x.cells.toList, v.oneCell' = true) :
    ∃ c' w', (storeVar t ⟨g, o, none⟩ x).run P w = .ok () w' ∧ w'.heap[g]? = some (.cells c' e (0, 0)) ∧ c'.size = c.size ∧ (∀ j : Nat, c'[j]? = if o ≤ j ∧ j < o + x.cells.size then x.cells.toList[j - o]? else c[j]?) ∧
      w'.os = w.os ∧ w'.tape = w.tape ∧ w'.output = w.output ∧ w'.heap.size = w.heap.size ∧ ∀ k, k ≠ g → w'.heap[k]? = w.heap[k]? := by
  obtain ⟨i, hi⟩ := info_of_cells h0
  obtain ⟨c', w', hr, h2, h3, h4, h5⟩ := storeCells_run P g e x.cells.toList o 0 c w h (by simpa using hl) h1
  refine ⟨c', w', ?_, h2, h3, ?_, h5⟩
  · unfold storeVar
    rw [cellsOf_info hi] at hx
    simp only [Sem.run_bind, sizeOf_run hi, Result.andThen_ok, hx, ne_eq, not_true_eq_false, if_false, Sem.run_pure]
    exact hr
  · intro j
    rw [h4 j]
    simp

/-- An object that is new: a block of its own. -/
theorem newBox {C : Ctx} {I : Interp} {objs : Nat → Option Obj} {w : World} (R : WRel C I objs w) {fr : Nat} (hfr : objs fr = none) {ls : List Leaf} {vs : List Value} (h0 : 0 < ls.length) (hf : F2 (LRep I (Dom objs) w (badOf C I objs)) ls vs) (e : TypeId) :
    StepOk C I objs w (lf1 (.bp fr 0)) [(fr, .box ls)] (.pointer (some ⟨w.heap.size, 0, none⟩)) (w.alloc (.cells vs.toArray e)) := by
  let I' : Interp := ⟨upd I.v fr (.pointer (some ⟨w.heap.size, 0, none⟩)), I.sz⟩
  have hlen := hf.length
  have hne : ∀ id, Dom objs id → id ≠ fr := by
    intro id hd e
    subst e
    simp [Dom, hfr] at hd
  have hU := R.upd (I' := I') (objs' := upd objs fr (some (.box ls))) (w' := w.alloc (.cells vs.toArray e)) (fun _ _ => False) (fun id => id = fr)
    ⟨rfl, rfl, rfl, by simp, fun g hg => .inr (.inl (RowKit.Below.heap_alloc w _ g hg))⟩
    (fun _ _ h => h.elim)
    (fun id hd => ⟨upd_other _ _ _ _ (hne id hd), rfl⟩)
    (fun id hd => by simp only [Dom, upd_other _ _ _ _ (hne id hd)]; exact hd)
    (fun id h => upd_other _ _ _ _ h)
    (fun id ob' h ho g o hc => by
      subst h
      rw [upd_same] at ho
      obtain rfl := Option.some.inj ho
      obtain ⟨o0, hv, _⟩ := hc
      simp only [I', upd_same, Value.pointer.injEq, Option.some.injEq, Addr.mk.injEq] at hv
      refine ⟨.inr (by omega), by simp; omega⟩)
    (fun id id' _ _ _ _ h h' _ _ _ _ => h.trans h'.symm)
    (fun K id ob' h ho => by
      subst h
      rw [upd_same] at ho
      obtain rfl := Option.some.inj ho
      refine ⟨h0, w.heap.size, 0, vs.toArray, e, vs, by simp only [I', upd_same], heap_alloc_new w _, hf.imp K.lrep, fun i v hi => by simpa using hi⟩)
  refine ⟨I', hU.1, hU.2, ?_, w.heap.size, 0, by simp only [I', upd_same], rfl⟩
  simp [Dom, putWr, upd_same]

end Go.Abs
