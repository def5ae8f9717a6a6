/- Other numbers for the objects: what is handed back. -/
import Derived.Test.YtcljanaleeapnaaDoorAbs19
set_option linter.unusedVariables false
set_option linter.unusedSimpArgs false
namespace Go.Abs
open Go

section
variable {I J : Interp} {dom dom' : Nat → Prop} {w : World} {bad bad' : Bad} {ρ : Nat → Nat}

/-- The objects' numbers turned by ρ; data are kept only where there are any. -/
structure Ren (I : Interp) (dom : Nat → Prop) (J : Interp) (dom' : Nat → Prop) (ρ : Nat → Nat) : Prop where
  hd : ∀ o, dom o → dom' (ρ o)
  hv : ∀ o, dom o → J.v (ρ o) = I.v o
  hs : ∀ o, dom o → J.sz (ρ o) = I.sz o

theorem scLeaf_any {t : Ty} {x : El t} {v : Value} (hs : ∀ t', t ≠ .slc t') (h : DRep w bad (scLeaf t x) v) : DRep w bad' (scLeaf t x) v := by
  cases t with
  | slc t' => exact absurd rfl (hs t')
  | int k => exact h
  | bool => exact h
  | str => exact h
  | pair a b => exact h

theorem LS.ren (N : Ren I dom J dom' ρ) (l : LS) (y : l.T) (v : Value) (hA : hasDat [l] = true → ∀ a v, At w bad a v → At w bad' a v) (h : LRep I dom w bad (l.make id y) v) : LRep J dom' w bad' (l.make ρ y) v := by
  cases l with
  | sc t =>
    cases t with
    | slc t' => exact DRep.mono (hA rfl) (.dat t' y) v h
    | int k => exact h
    | bool => exact h
    | str => exact h
    | pair a b => exact h
  | dat t => exact CellsOk.mono (hA rfl) (.slc t) y [v] h
  | own o => exact ⟨N.hd o h.1, by rw [N.hv o h.1]; exact h.2.1, h.2.2⟩
  | bp o off =>
    obtain ⟨hd, g, o', hv, hx⟩ := h
    exact ⟨N.hd o hd, g, o', by rw [N.hv o hd]; exact hv, hx⟩
  | cst x => exact h
  | fn f caps =>
    obtain ⟨as, hv, hf⟩ := h
    refine ⟨as, hv, ?_⟩
    rw [List.map_id] at hf
    exact hf.map ρ (fun b x ⟨hd, g, o, h1, h2⟩ => ⟨N.hd b hd, g, o, by rw [N.hv b hd]; exact h1, h2⟩)

theorem hasDat_cons (l : LS) (ls : List LS) : hasDat (l :: ls) = (hasDat [l] || hasDat ls) := by
  cases l with
  | sc t => cases t <;> simp [hasDat]
  | _ => simp [hasDat]

theorem makeLs_ren (N : Ren I dom J dom' ρ) : ∀ (ls : List LS) (y : TLs ls) (vs : List Value), (hasDat ls = true → ∀ a v, At w bad a v → At w bad' a v) → F2 (LRep I dom w bad) (makeLs id ls y) vs → F2 (LRep J dom' w bad') (makeLs ρ ls y) vs
  | [], _, [], _, _ => trivial
  | [], _, _ :: _, _, h => h.elim
  | l :: ls, y, [], _, h => h.elim
  | l :: ls, y, v :: vs, hA, h => by
    rw [hasDat_cons] at hA
    exact ⟨LS.ren N l y.1 v (fun h => hA (by rw [h]; rfl)) h.1, makeLs_ren N ls y.2 vs (fun h => hA (by rw [h]; simp)) h.2⟩

theorem makeLs_length (ρ ρ' : Nat → Nat) : ∀ (ls : List LS) (y : TLs ls), (makeLs ρ ls y).length = (makeLs ρ' ls y).length
  | [], _ => rfl
  | l :: ls, y => by simp [makeLs, makeLs_length ρ ρ' ls y.2]

theorem AS.ren (N : Ren I dom J dom' ρ) (s : AS) (y : s.T) (v : Value) (hA : slotsDat [(0, s)] = true → ∀ a v, At w bad a v → At w bad' a v) (h : AVRep I dom w bad (s.make id y) v) : AVRep J dom' w bad' (s.make ρ y) v := by
  cases s with
  | lf l => exact LS.ren N l y v (fun h => hA (by simp [slotsDat, h])) h
  | ag ls =>
    obtain ⟨cs, e, hf⟩ := h
    exact ⟨cs, e, makeLs_ren N ls y cs (fun h => hA (by simp [slotsDat, h])) hf⟩

theorem slotsDat_cons (s : Nat × AS) (ss : List (Nat × AS)) : slotsDat (s :: ss) = (slotsDat [(0, s.2)] || slotsDat ss) := by
  obtain ⟨i, s⟩ := s
  cases s <;> simp [slotsDat]

theorem makeSlots_ren (N : Ren I dom J dom' ρ) : ∀ (l : List (Nat × AS)) (y : TSlots l) (vs : List Value), (slotsDat l = true → ∀ a v, At w bad a v → At w bad' a v) → F2 (AVRep I dom w bad) ((makeSlots id l y).map (·.2)) vs → F2 (AVRep J dom' w bad') ((makeSlots ρ l y).map (·.2)) vs
  | [], _, [], _, _ => trivial
  | [], _, _ :: _, _, h => h.elim
  | s :: ss, y, [], _, h => h.elim
  | s :: ss, y, v :: vs, hA, h => by
    rw [slotsDat_cons] at hA
    exact ⟨AS.ren N s.2 y.1 v (fun h => hA (by rw [h]; rfl)) h.1, makeSlots_ren N ss y.2 vs (fun h => hA (by rw [h]; simp)) h.2⟩

theorem results_ren (N : Ren I dom J dom' ρ) (l : List (Nat × AS)) (y : TSlots l) (v : Value) (hA : slotsDat l = true → ∀ a v, At w bad a v → At w bad' a v) (h : VRep I dom w bad (results (makeSlots id l y)) v) : VRep J dom' w bad' (results (makeSlots ρ l y)) v := by
  match l, y, h with
  | [], y, h =>
    obtain ⟨vs, e, hf⟩ := h
    match vs, hf with
    | [], _ => exact ⟨[], e, trivial⟩
  | [s], y, h =>
    have h1 : F2 (AVRep I dom w bad) ((makeSlots id [s] y).map (·.2)) [v] := ⟨h, trivial⟩
    exact (makeSlots_ren N [s] y [v] hA h1).1
  | s :: s' :: ss, y, h =>
    obtain ⟨vs, e, hf⟩ := h
    exact ⟨vs, e, makeSlots_ren N (s :: s' :: ss) y vs hA hf⟩

theorem objsDat_cons (o : OS) (os : List OS) : objsDat (o :: os) = (objsDat [o] || objsDat os) := by
  cases o <;> simp [objsDat, Bool.or_assoc]

theorem CellsOk_scalar : ∀ {t : Ty} {x : El t} {cs : List Value}, isDatT t = false → CellsOk w bad t x cs → CellsOk w bad' t x cs
  | .int _, _, _, _, h => h
  | .bool, _, _, _, h => h
  | .str, _, _, _, h => h
  | .slc _, _, _, h, _ => by cases h
  | .pair _ _, _, _, h, _ => by cases h

theorem OS.ren (N : Ren I dom J dom' ρ) (s : OS) (y : s.T) (o : Nat) (hd : dom o) (ob ob' : Obj) (hA : objsDat [s] = true → ∀ a v, At w bad a v → At w bad' a v) (h1 : s.make id y = some ob) (h2 : s.make ρ y = some ob') (h : ObjOk I dom w bad o ob) :
    ObjOk J dom' w bad' (ρ o) ob' ∧ ∀ g p, cellsOf J (ρ o) ob' g p ↔ cellsOf I o ob g p := by
  cases s with
  | row e t =>
    obtain rfl := Option.some.inj h1
    obtain rfl := Option.some.inj h2
    obtain ⟨hs, cells, hr, ho⟩ := h
    refine ⟨⟨by rw [N.hs o hd]; exact hs, cells, ?_, by rw [N.hv o hd]; exact ho⟩, fun g p => by simp only [cellsOf, N.hv o hd]⟩
    by_cases hsc : isDatT t = false
    · exact hr.imp fun x c hc => CellsOk_scalar hsc hc
    · have : objsDat [.row e t] = true := by
        simp only [objsDat, Bool.or_false]
        simpa using hsc
      exact hr.imp fun x c hc => CellsOk.mono (hA this) t x c hc
  | box ls =>
    obtain rfl := Option.some.inj h1
    obtain rfl := Option.some.inj h2
    obtain ⟨hpos, g, o', c, e, vs, hv, hh, hf, hc⟩ := h
    have hl := makeLs_length id ρ ls y
    refine ⟨⟨by rw [← hl]; exact hpos, g, o', c, e, vs, by rw [N.hv o hd]; exact hv, hh, makeLs_ren N ls y vs (fun h => hA (by simp [objsDat, h])) hf, hc⟩, fun g p => by simp only [cellsOf, N.hv o hd, hl]⟩
  | dead => cases h1

end
end Go.Abs
