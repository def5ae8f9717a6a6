/- Loads, stores, addresses, literals, slices: one operation each. -/
import Derived.Test.YtcljanaleeapnaaDoorAbs6
set_option linter.unusedVariables false
set_option linter.unusedSimpArgs false
namespace Go.Abs
open Go

section
variable {C : Ctx} {I : Interp} {objs : Nat → Option Obj} {w : World}

theorem getD_of {α : Type} {l : List α} {i : Nat} (d : α) (h : i < l.length) : l[i]? = some (l.getD i d) := by
  simp [List.getD, List.getElem?_eq_getElem h]

/-- An element of a slice that is read. -/
theorem datElem {bad : Bad} {t : Ty} {xs : List (El t)} {v : Value} (h : CellsOk w bad (.slc t) xs [v]) {i : Nat} (hi : i < xs.length) :
    ∃ ad c es, v = .slice (some ad) xs.length c ∧ CellsOk w bad t (xs.getD i (dflt t)) es ∧ RowAt w bad (ad.add (i * nleaf t)) es := by
  obtain ⟨A, c, es, e, hc, hr, hp⟩ := h
  have hlen := hr.length (CellsOk.length t)
  have hge := hr.get (CellsOk.length t) i _ (getD_of (dflt t) hi)
  have hpos := nleaf_pos t
  have hbig : i * nleaf t + nleaf t ≤ es.length := by
    rw [hlen, ← Nat.succ_mul]
    exact Nat.mul_le_mul_right _ hi
  rcases hp with hp | ⟨ad, rfl, hrow⟩
  · subst hp
    simp at hbig
    omega
  · refine ⟨ad, c, _, by simpa using e, hge, fun k u hk => ?_⟩
    rw [addr_add_add]
    apply hrow
    rw [List.getElem?_take] at hk
    split at hk
    · rwa [List.getElem?_drop] at hk
    · cases hk

/-- An element of a row of one's own. -/
theorem rowElem {bad : Bad} {e : TypeId} {t : Ty} {xs : List (El t)} {v : Value} {cells : List Value} (hr : Rows (CellsOk w bad t) xs cells) (ho : w.ownsRow 0 e (nleaf t) v xs.length cells) {i : Nat} (hi : i < xs.length) :
    ∃ g c cur es, v = .slice (some ⟨g, 0, none⟩) xs.length c ∧ w.heap[g]? = some (.cells cur e (0, 0)) ∧ CellsOk w bad t (xs.getD i (dflt t)) es ∧ (∀ k u, es[k]? = some u → cur[i * nleaf t + k]? = some u) ∧ i * nleaf t + nleaf t ≤ cur.size := by
  have hlen := hr.length (CellsOk.length t)
  have hge := hr.get (CellsOk.length t) i _ (getD_of (dflt t) hi)
  have hbig : i * nleaf t + nleaf t ≤ xs.length * nleaf t := by
    rw [← Nat.succ_mul]
    exact Nat.mul_le_mul_right _ hi
  rcases ho.2 with ⟨_, h2⟩ | ⟨g, cap, cur, rfl, hb, hh, hc1, hc2, hs, ht⟩
  · omega
  · refine ⟨g, cap, cur, _, rfl, hh, hge, fun k u hk => ?_, ?_⟩
    · rw [List.getElem?_take] at hk
      split at hk
      · rw [List.getElem?_drop, ← ht, List.getElem?_take] at hk
        split at hk
        · simpa using hk
        · cases hk
      · cases hk
    · rw [hs]
      exact Nat.le_trans hbig (Nat.mul_le_mul_right _ hc1)

theorem avLeaves_of {I : Interp} {dom : Nat → Prop} {bad : Bad} {av : AV} {v : Value} (h : AVRep I dom w bad av v) : F2 (LRep I dom w bad) (avLeaves av) v.cells.toList := by
  cases av with
  | lf l =>
    have h1 := LRep.one l v h
    have : v.cells = #[v] := by cases v <;> simp_all [Value.cells, Value.oneCell']
    rw [this]
    exact ⟨h, trivial⟩
  | ag ls =>
    obtain ⟨cs, rfl, hf⟩ := h
    exact hf
theorem F2.ones {I : Interp} {dom : Nat → Prop} {bad : Bad} {ls : List Leaf} {vs : List Value} (h : F2 (LRep I dom w bad) ls vs) : ∀ u ∈ vs, u.oneCell' = true := by
  intro u hu
  obtain ⟨i, hi⟩ := List.mem_iff_getElem?.1 hu
  obtain ⟨l, _, hl⟩ := h.get' i u hi
  exact LRep.one l u hl
theorem F2.toD {I : Interp} {dom : Nat → Prop} {bad : Bad} {ds : List DLeaf} {vs : List Value} (h : F2 (DRep w bad) ds vs) : F2 (LRep I dom w bad) (ds.map .d) vs := h.map Leaf.d (fun _ _ h => h)

theorem loadAv_of {dom : Nat → Prop} {bad : Bad} {P : Program} {t : TypeId} {ls : List Leaf} {off : Nat} {av : AV} {vs : List Value} (h : loadAv P t ls off = some av) (hf : F2 (LRep I dom w bad) ls vs) (a : Addr)
    (hc : ∀ i v, vs[i]? = some v → w.cell? (a.add i) = some v) : ∃ x, (loadVar t (a.add off)).run P w = .ok x w ∧ AVRep I dom w bad av x := by
  unfold loadAv at h
  cases hu : (P.underlying t).isSome with
  | false => rw [hu] at h; cases h
  | true =>
    rw [hu] at h
    simp only [cond_true] at h
    split at h
    · rename_i c hcut
      obtain ⟨rfl, hcl, hle⟩ := cutN_of hcut
      have hlen := hf.length
      have hf' := (hf.drop off).take (P.cellsOf t)
      have hl' : ((vs.drop off).take (P.cellsOf t)).length = P.cellsOf t := by rw [← hf'.length, hcl]
      refine ⟨_, loadVar_run P w t (a.add off) ((vs.drop off).take (P.cellsOf t)) hu hl' (fun i v hi => ?_) (fun hg => ?_), asVal_of h hf'⟩
      · rw [List.getElem?_take] at hi
        split at hi
        · rw [List.getElem?_drop] at hi
          rw [addr_add_add]
          exact hc _ _ hi
        · cases hi
      · rw [hg] at h
        unfold asVal at h
        split at h
        · rename_i hh; cases hh
        · rename_i l hh heq
          rw [hl', ← hcl, heq]
          rfl
        · cases h
    · cases h

theorem mapPair {α β : Type} {x : Option α} {r b : β} {a : α} (h : x.map (fun y => (y, r)) = some (a, b)) : x = some a := by
  cases x with
  | none => cases h
  | some y => simp at h; rw [h.1]

theorem allOk_of (R : WRel C I objs w) {t : TypeId} {x : Val} {av : AV} {rs : List Nat} {v : Value} (h : allOk objs C.E.P t x = some (av, rs)) (hx : VRep I (Dom objs) w (badOf C I objs) x v) :
    ∃ u, (Instr.loadAt t v).run C.E.P w = .ok u w ∧ AVRep I (Dom objs) w (badOf C I objs) av u := by
  have fin : ∀ (a : Addr) (ls : List Leaf) (vs : List Value) (off : Nat), loadAv C.E.P t ls off = some av → F2 (LRep I (Dom objs) w (badOf C I objs)) ls vs → (∀ i v, vs[i]? = some v → w.cell? (a.add i) = some v) → v = .pointer (some (a.add off)) →
      ∃ u, (Instr.loadAt t v).run C.E.P w = .ok u w ∧ AVRep I (Dom objs) w (badOf C I objs) av u := by
    intro a ls vs off h1 h2 h3 h4
    subst h4
    obtain ⟨u, hu, hr⟩ := loadAv_of h1 h2 a h3
    exact ⟨u, by simpa [Instr.loadAt, Instr.sureAddr] using hu, hr⟩
  unfold allOk at h
  split at h
  · rename_i b off
    obtain ⟨hd, g, o, hv, hx⟩ := hx
    split at h
    · rename_i ls hb
      have h1 : loadAv C.E.P t ls off = some av := mapPair h
      obtain ⟨h0, g', o', c, e, vs, hv', hh, hf, hc⟩ := R.ok b _ hb
      rw [hv] at hv'
      injection hv' with hv'; injection hv' with hv'; injection hv' with hg ho
      subst hg; subst ho
      exact fin ⟨g, o, none⟩ ls vs off h1 hf (fun i v hi => by rw [addr_add]; exact cell_of hh (hc i v hi)) (by rw [addr_add]; exact hx)
    · rename_i ls hb
      have h1 : loadAv C.E.P t (List.map .d ls) off = some av := mapPair h
      obtain ⟨g', o', vs, hv', hf, hc⟩ := R.ok b _ hb
      rw [hv] at hv'
      injection hv' with hv'; injection hv' with hv'; injection hv' with hg ho
      subst hg; subst ho
      exact fin ⟨g, o, none⟩ _ vs off h1 hf.toD (fun i v hi => (hc i v hi).1) (by rw [addr_add]; exact hx)
    · cases h
  · rename_i r i off
    obtain ⟨hd, g, n, c, hv, hi, hx⟩ := hx
    split at h
    · rename_i e t' xs hb
      have h1 : loadAv C.E.P t (List.map .d (leaves t' (xs.getD i (dflt t')))) off = some av := mapPair h
      obtain ⟨hsz, cells, hr, ho⟩ := R.ok r _ hb
      have hn : n = xs.length := by
        rcases ownsRow_shape ho with ⟨h2, _⟩ | ⟨g2, c2, h2, _⟩
        · rw [hv] at h2; cases h2
        · rw [hv] at h2; injection h2
      subst hn
      obtain ⟨g', c', cur, es, hv', hh, hce, hcell, _⟩ := rowElem hr ho hi
      rw [hv] at hv'
      injection hv' with hv' _ _; injection hv' with hv'; injection hv' with hg
      subst hg
      exact fin ⟨g, i * nleaf t', none⟩ _ es off h1 (leaves_of t' _ _ hce).toD (fun k u hk => by rw [addr_add]; exact cell_of hh (hcell k u hk)) (by rw [addr_add, ← hsz]; exact hx)
    · rename_i t' xs hb
      have h1 : loadAv C.E.P t (List.map .d (leaves t' (xs.getD i (dflt t')))) off = some av := mapPair h
      obtain ⟨hsz, hcs⟩ := R.ok r _ hb
      have hn : n = xs.length := by
        obtain ⟨A, c2, es, e, _⟩ := hcs
        rw [hv] at e
        simp at e
        exact e.2.1
      subst hn
      obtain ⟨ad, c', es, hv', hce, hcell⟩ := datElem hcs hi
      rw [hv] at hv'
      injection hv' with hv' _ _; injection hv' with hv'
      subst hv'
      refine fin ((⟨g, 0, none⟩ : Addr).add (i * nleaf t')) _ es off h1 (leaves_of t' _ _ hce).toD (fun k u hk => (hcell k u hk).1) ?_
      rw [hx, addr_add, addr_add, hsz, Nat.zero_add]
    · cases h
  · rename_i cs
    have h1 : loadAv C.E.P t (List.map .d cs) 0 = some av := mapPair h
    obtain ⟨a, vs, hx, hf, hc⟩ := hx
    exact fin a _ vs 0 h1 hf.toD (fun i v hi => (hc i v hi).1) (by rw [addr_add_zero]; exact hx)
  · cases h

end
end Go.Abs
