/- A reading of loaded code as plain functions, and its proof: part B. -/
import Derived.Test.YtanopckddijfcaaGreatDoorAbsA
import Derived.Maps.AppendAt
import Derived.Lib.AppendStr
set_option linter.unusedVariables false
set_option linter.unusedSimpArgs false
/- Addresses, cuts of slices, new rows, append. -/
namespace Go.Abs
open Go

section
variable {C : Ctx} {I : Interp} {objs : Nat → Option Obj} {w : World}

theorem sliceElem_of {P : Program} {t e : TypeId} (h : sliceElem P t = some e) : P.underlying t = some (.slice e) := by
  unfold sliceElem at h
  split at h
  · rename_i hh
    obtain rfl := Option.some.inj h
    exact hh
  · cases h

theorem ptr_rep {cs : List DLeaf} {vs : List Value} {bad : Bad} {dom : Nat → Prop} {a : Addr} (hf : F2 (DRep w bad) cs vs) (hr : RowAt w bad a vs) : VRep I dom w bad (lf1 (.dp cs)) (.pointer (some a)) := ⟨a, vs, rfl, hf, hr⟩

theorem RowAt.drop {bad : Bad} {a : Addr} {vs : List Value} (h : RowAt w bad a vs) (k : Nat) : RowAt w bad (a.add k) (vs.drop k) := by
  intro i v hi
  rw [addr_add_add]
  rw [List.getElem?_drop] at hi
  exact h _ _ hi
theorem RowAt.take {bad : Bad} {a : Addr} {vs : List Value} (h : RowAt w bad a vs) (k : Nat) : RowAt w bad a (vs.take k) := by
  intro i v hi
  rw [List.getElem?_take] at hi
  split at hi
  · exact h _ _ hi
  · cases hi

/-! fieldAddr -/
theorem fieldPl_of {P : Program} {t : TypeId} {f off n : Nat} {ft : TypeId} (h : fieldPl P t f = some (off, n, ft)) : ∃ (fs : Array Field) (g : Field), P.underlying t = some (.struct fs) ∧ fs[f]? = some g ∧ g.offset = off ∧ P.cellsOf g.type = n ∧ g.type = ft := by
  unfold fieldPl at h
  split at h
  · rename_i fs hfs
    split at h
    · rename_i g hg
      simp only [Option.some.injEq, Prod.mk.injEq] at h
      refine ⟨fs, g, hfs, ?_, h.1, h.2.1, h.2.2⟩
      have : ∀ (l : List Field) (i : Nat), getL l i = l[i]? := by
        intro l
        induction l with
        | nil => intro i; simp [getL]
        | cons x r ih => intro i; cases i <;> simp [getL, ih]
      rw [this] at hg
      simpa using hg
    · cases h
  · cases h

theorem fieldE_of (R : WRel C I objs w) {t : TypeId} {x v : Val} {f : Nat} {u : Value} (h : fieldE C.E.P t x f = some v) (hx : VRep I (Dom objs) w (badOf C I objs) x u) :
    ∃ y, (Instr.fieldAt t u f).run C.E.P w = .ok y w ∧ VRep I (Dom objs) w (badOf C I objs) v y := by
  unfold fieldE at h
  split at h
  · rename_i off n ft hpl
    obtain ⟨fs, g, hu, hg, rfl, rfl, rfl⟩ := fieldPl_of hpl
    cases hn : Nat.beq (C.E.P.cellsOf g.type) 0 with
    | true => rw [hn] at h; cases h
    | false =>
      rw [hn] at h
      simp only [cond_false] at h
      have hn0 : C.E.P.cellsOf g.type ≠ 0 := by
        intro e
        rw [e] at hn
        cases hn
      obtain ⟨i, hi⟩ := info_of_cells hn0
      have key : ∀ a : Addr, u = .pointer (some a) → (Instr.fieldAt t u f).run C.E.P w = .ok (.pointer (some (a.add g.offset))) w := by
        intro a e
        subst e
        rw [cellsOf_info hi] at hn0
        simp [Instr.fieldAt, run_underlying hu, hg, Instr.sureAddr, fieldPlace, sizeOf_run hi, hn0]
      split at h
      · rename_i b o
        obtain rfl := Option.some.inj h
        obtain ⟨hd, g', o', hv, hx⟩ := hx
        exact ⟨_, key _ hx, hd, g', o', hv, by rw [addr_add, Nat.add_assoc]⟩
      · rename_i r i' o
        obtain rfl := Option.some.inj h
        obtain ⟨hd, g', b', n', c', hv, hi', hx⟩ := hx
        exact ⟨_, key _ hx, hd, g', b', n', c', hv, hi', by rw [addr_add, Nat.add_assoc]⟩
      · rename_i cs
        obtain rfl := Option.some.inj h
        obtain ⟨a, vs, hx, hf, hr⟩ := hx
        exact ⟨_, key _ hx, ptr_rep (hf.drop g.offset) (hr.drop g.offset)⟩
      · cases h
  · cases h

/-! indexAddr -/
theorem indexAt_slice (P : Program) (w : World) {t e : TypeId} (ht : P.underlying t = some (.slice e)) {i : TypeInfo} (hi : P.info? e = some i) (a : Addr) (n c : Nat) (k : IntKind) (x : Int) (h0 : 0 ≤ x) (h1 : x < n) :
    (Instr.indexAt t (.slice (some a) n c) (.int k x)).run P w = .ok (.pointer (some (a.add (x.toNat * i.size)))) w := by
  simp [Instr.indexAt, asIntOf, run_underlying ht, sizeOf_run hi, h0, h1]
theorem indexAt_array (P : Program) (w : World) {t e : TypeId} {n : Nat} (ht : P.underlying t = some (.array n e)) {i : TypeInfo} (hi : P.info? e = some i) (a : Addr) (k : IntKind) (x : Int) (h0 : 0 ≤ x) (h1 : x < n) :
    (Instr.indexAt t (.pointer (some a)) (.int k x)).run P w = .ok (.pointer (some (a.add (x.toNat * i.size)))) w := by
  simp [Instr.indexAt, asIntOf, run_underlying ht, Instr.sureAddr, sizeOf_run hi, h0, h1]

theorem selE_of {α : Type} {i : Int} {f : Nat → Option α} : ∀ {n j : Nat} {r : α}, (selE i f j n).den = some r → ∃ k, j ≤ k ∧ k < j + n ∧ i = (k : Int) ∧ f k = some r
  | 0, j, r, h => by simp [selE, Eff.den] at h
  | n + 1, j, r, h => by
    simp only [selE, Eff.den] at h
    cases hb : (i == (j : Int)) with
    | true =>
      rw [hb] at h
      simp only [cond_true] at h
      refine ⟨j, Nat.le_refl _, by omega, by simpa using hb, ?_⟩
      split at h
      · rename_i a ha
        simp only [Eff.den, Option.some.injEq] at h
        rw [ha, h]
      · cases h
    | false =>
      rw [hb] at h
      simp only [cond_false] at h
      obtain ⟨k, h1, h2, h3, h4⟩ := selE_of h
      exact ⟨k, by omega, by omega, h3, h4⟩

theorem intsOf_of {bad : Bad} {k : IntKind} : ∀ {ds : List DLeaf} {ns : List Int} {vs : List Value}, intsOf k ds = some ns → F2 (DRep w bad) ds vs → vs = ns.map (.int k ·)
  | [], ns, [], h, _ => by simp [intsOf] at h; subst h; rfl
  | [], ns, _ :: _, _, hf => hf.elim
  | d :: ds, ns, [], _, hf => hf.elim
  | .dat _ _ :: ds, ns, _ :: _, h, _ => by simp [intsOf] at h
  | .v x :: ds, ns, v :: vs, h, hf => by
    cases x <;> try (simp [intsOf] at h; done)
    rename_i k' n
    simp only [intsOf] at h
    split at h
    · rename_i hk
      subst hk
      split at h
      · rename_i l hl
        obtain rfl := Option.some.inj h
        rw [intsOf_of hl hf.2, hf.1.1]
        rfl
      · cases h
    · cases h

theorem arrElem_of {P : Program} {t : TypeId} {n : Nat} {e : TypeId} (h : arrElem P t = some (n, e)) : P.underlying t = some (.array n e) ∧ ∃ i, P.info? e = some i ∧ P.cellsOf e = i.size := by
  unfold arrElem at h
  split at h
  · rename_i m e' hu
    cases hb : Nat.ble 1 (P.cellsOf e') with
    | false => rw [hb] at h; cases h
    | true =>
      rw [hb] at h
      simp only [cond_true, Option.some.injEq, Prod.mk.injEq] at h
      obtain ⟨rfl, rfl⟩ := h
      have := Nat.le_of_ble_eq_true hb
      obtain ⟨i, hi⟩ := info_of_cells (P := P) (t := e') (by omega)
      exact ⟨hu, i, hi, cellsOf_info hi⟩
  · cases h

theorem info_of_size {P : Program} {e : TypeId} {t : Ty} (h : nleaf t = P.cellsOf e) : ∃ i, P.info? e = some i ∧ i.size = nleaf t := by
  have h0 : P.cellsOf e ≠ 0 := by have := nleaf_pos t; omega
  obtain ⟨i, hi⟩ := info_of_cells h0
  exact ⟨i, hi, by rw [h, cellsOf_info hi]⟩

theorem bif_some {P : Program} {t : TypeId} {ty : Ty} (h : elemFits P t ty = true) : ∃ e, P.underlying t = some (.slice e) ∧ nleaf ty = P.cellsOf e := by
  unfold elemFits at h
  split at h
  · rename_i e he
    exact ⟨e, sliceElem_of he, Nat.eq_of_beq_eq_true h⟩
  · cases h

theorem grd_of {α : Type} {c : Bool} {k : Eff α} {r : α} (h : (Eff.grd c k).den = some r) : c = true ∧ k.den = some r := by
  simp only [Eff.den] at h
  cases c
  · cases h
  · exact ⟨rfl, h⟩

theorem idxE_of (R : WRel C I objs w) {t : TypeId} {x : Val} {n : Int} {out : Out} {u : Value} {k : IntKind} (h : (idxE objs C.E t x n).den = some out) (hx : VRep I (Dom objs) w (badOf C I objs) x u) :
    ∃ y, (Instr.indexAt t u (.int k n)).run C.E.P w = .ok y w ∧ VRep I (Dom objs) w (badOf C I objs) out.val y ∧ out.wr = [] := by
  have datCase : ∀ (ty : Ty) (xs : List (El ty)) (rs : List Nat), CellsOk w (badOf C I objs) (.slc ty) xs [u] → (∃ e, C.E.P.underlying t = some (.slice e) ∧ nleaf ty = C.E.P.cellsOf e) → 0 ≤ n → n < (xs.length : Int) →
      ∃ y, (Instr.indexAt t u (.int k n)).run C.E.P w = .ok y w ∧ VRep I (Dom objs) w (badOf C I objs) (lf1 (.dp (leaves ty (xs.getD n.toNat (dflt ty))))) y := by
    intro ty xs rs hc ⟨e, he, hn⟩ h0 h1
    obtain ⟨i, hi, hsz⟩ := info_of_size hn
    obtain ⟨ad, c, es, hu, hce, hrow⟩ := datElem hc (i := n.toNat) (by omega)
    subst hu
    refine ⟨_, indexAt_slice _ _ he hi ad _ c k n h0 h1, ?_⟩
    rw [hsz]
    exact ptr_rep (leaves_of ty _ _ hce) hrow
  have datE : ∀ (ty : Ty) (xs : List (El ty)) (rd : List Nat), CellsOk w (badOf C I objs) (.slc ty) xs [u] → (idxDat C.E.P t ty xs n rd).den = some out →
      ∃ y, (Instr.indexAt t u (.int k n)).run C.E.P w = .ok y w ∧ VRep I (Dom objs) w (badOf C I objs) out.val y ∧ out.wr = [] := by
    intro ty xs rd hc h
    unfold idxDat at h
    cases hb : elemFits C.E.P t ty with
    | false => rw [hb] at h; cases h
    | true =>
      rw [hb] at h
      obtain ⟨h0, h⟩ := grd_of h
      obtain ⟨h1, h⟩ := grd_of h
      simp only [Eff.den, Option.some.injEq] at h
      subst h
      obtain ⟨y, hy, hr⟩ := datCase ty xs [] hc (bif_some hb) (of_decide_eq_true h0) (of_decide_eq_true h1)
      exact ⟨y, hy, hr, rfl⟩
  unfold idxE at h
  split at h
  · exact datE _ _ _ hx h
  · rename_i r
    split at h
    · rename_i e' ty xs hr
      cases hb : elemFits C.E.P t ty with
      | false => rw [hb] at h; cases h
      | true =>
        rw [hb] at h
        obtain ⟨h0, h⟩ := grd_of h
        obtain ⟨h1, h⟩ := grd_of h
        simp only [Eff.den, Option.some.injEq] at h
        subst h
        obtain ⟨e, he, hn⟩ := bif_some hb
        obtain ⟨i, hi, hsz⟩ := info_of_size hn
        obtain ⟨hs, cells, hrow, ho⟩ := R.ok r _ hr
        have h0' := of_decide_eq_true h0
        have h1' := of_decide_eq_true h1
        rcases ownsRow_shape ho with ⟨_, _, h2⟩ | ⟨g2, b2, c2, h2, _⟩
        · omega
        · rw [hx.2.1, h2]
          exact ⟨_, indexAt_slice _ _ he hi ⟨g2, b2, none⟩ _ c2 k n h0' h1', ⟨hx.1, g2, b2, xs.length, c2, h2, by omega, by rw [addr_add, hsz, hs, Nat.add_zero]⟩, rfl⟩
    · rename_i ty xs hr
      have := (R.ok r _ hr).2
      rw [← hx.2.1] at this
      exact datE _ _ _ this h
    · cases h
  · rename_i b off
    split at h
    · rename_i m e he
      obtain ⟨j, _, hj, rfl, hf⟩ := selE_of h
      obtain rfl := Option.some.inj hf
      obtain ⟨hd, g, o, hv, rfl⟩ := hx
      obtain ⟨hu, i, hi, hsz⟩ := arrElem_of he
      refine ⟨_, indexAt_array _ _ hu hi ⟨g, o + off, none⟩ k (j : Int) (by omega) (by omega), ⟨hd, g, o, hv, ?_⟩, rfl⟩
      rw [addr_add, Int.toNat_natCast, Nat.add_assoc, hsz]
    · cases h
  · rename_i r i' off
    split at h
    · rename_i m e he
      obtain ⟨j, _, hj, rfl, hf⟩ := selE_of h
      obtain rfl := Option.some.inj hf
      obtain ⟨hd, g, b, n', c', hv, hi', rfl⟩ := hx
      obtain ⟨hu, i, hi, hsz⟩ := arrElem_of he
      refine ⟨_, indexAt_array _ _ hu hi ⟨g, b + i' * I.sz r + off, none⟩ k (j : Int) (by omega) (by omega), ⟨hd, g, b, n', c', hv, hi', ?_⟩, rfl⟩
      rw [addr_add, Int.toNat_natCast, Nat.add_assoc, hsz]
    · cases h
  · rename_i cs
    split at h
    · rename_i m e he
      obtain ⟨a, vs, rfl, hf, hr⟩ := hx
      obtain ⟨hu, i, hi, hsz⟩ := arrElem_of he
      have sel : (selE n (fun j => some (⟨lf1 (.dp (List.drop (j * C.E.P.cellsOf e) cs)), [], []⟩ : Out)) 0 m).den = some out →
          ∃ y, (Instr.indexAt t (.pointer (some a)) (.int k n)).run C.E.P w = .ok y w ∧ VRep I (Dom objs) w (badOf C I objs) out.val y ∧ out.wr = [] := by
        intro h
        obtain ⟨j, _, hj, rfl, hf2⟩ := selE_of h
        obtain rfl := Option.some.inj hf2
        refine ⟨_, indexAt_array _ _ hu hi a k (j : Int) (by omega) (by omega), ?_, rfl⟩
        rw [Int.toNat_natCast, ← hsz]
        exact ptr_rep (hf.drop _) (hr.drop _)
      unfold idxTab at h
      split at h
      · rename_i k' z rest
        split at h
        · rename_i ns hns
          cases hb : (Nat.beq (C.E.P.cellsOf e) 1 && Nat.beq (List.length ns) m) with
          | false => rw [hb] at h; exact sel h
          | true =>
            rw [hb] at h
            simp only [Bool.and_eq_true] at hb
            have hb1 := Nat.eq_of_beq_eq_true hb.1
            have hb2 := Nat.eq_of_beq_eq_true hb.2
            obtain ⟨h0, h⟩ := grd_of h
            obtain ⟨h1, h⟩ := grd_of h
            simp only [Eff.den, Option.some.injEq] at h
            subst h
            have h0' := of_decide_eq_true h0
            have h1' := of_decide_eq_true h1
            have hv := intsOf_of hns (hf.take m)
            have hlt : n.toNat < ns.length := by omega
            have hget : vs[n.toNat]? = some (.int k' (ns.getD n.toNat 0)) := by
              have : (vs.take m)[n.toNat]? = some (.int k' (ns.getD n.toNat 0)) := by
                rw [hv, List.getElem?_map, getD_of 0 hlt]
                rfl
              rw [List.getElem?_take] at this
              split at this
              · exact this
              · cases this
            refine ⟨_, indexAt_array _ _ hu hi a k n h0' h1', ?_, rfl⟩
            rw [← hsz, hb1, Nat.mul_one]
            refine ⟨_, [.int k' (ns.getD n.toNat 0)], rfl, ⟨⟨rfl, rfl⟩, trivial⟩, fun q v hq => ?_⟩
            match q with
            | 0 =>
              simp at hq
              subst hq
              rw [addr_add_zero]
              exact hr _ _ (by simpa using hget)
            | q + 1 => simp at hq
        · exact sel h
      · exact sel h
    · cases h
  · cases h

end
end Go.Abs

/- Cuts of slices and strings; new rows; append; copy. -/
namespace Go.Abs
open Go

section
variable {C : Ctx} {I : Interp} {objs : Nat → Option Obj} {w : World}

/-! ### Bounds -/
theorem cutGrd_of {α : Type} {n : Nat} {lo hi : Option Int} {e : Eff α} {r : α} (h : (cutGrd (n : Int) lo hi e).den = some r) :
    e.den = some r ∧ ∃ l h : Nat, l ≤ h ∧ h ≤ n ∧ (lo = none → l = 0) ∧ (∀ x, lo = some x → 0 ≤ x ∧ x.toNat = l) ∧ (hi = none → h = n) ∧ (∀ x, hi = some x → 0 ≤ x ∧ x.toNat = h) := by
  unfold cutGrd at h
  split at h
  · exact ⟨h, 0, n, Nat.zero_le _, Nat.le_refl _, fun _ => rfl, fun x e => (by cases e), fun _ => rfl, fun x e => (by cases e)⟩
  · rename_i l
    obtain ⟨h0, h⟩ := grd_of h
    obtain ⟨h1, h⟩ := grd_of h
    have h0' := of_decide_eq_true h0
    have h1' := of_decide_eq_true h1
    exact ⟨h, l.toNat, n, by omega, Nat.le_refl _, fun e => (by cases e), fun x e => (by cases e; exact ⟨h0', rfl⟩), fun _ => rfl, fun x e => (by cases e)⟩
  · rename_i hh
    obtain ⟨h0, h⟩ := grd_of h
    obtain ⟨h1, h⟩ := grd_of h
    have h0' := of_decide_eq_true h0
    have h1' := of_decide_eq_true h1
    exact ⟨h, 0, hh.toNat, Nat.zero_le _, by omega, fun _ => rfl, fun x e => (by cases e), fun e => (by cases e), fun x e => (by cases e; exact ⟨h0', rfl⟩)⟩
  · rename_i l hh
    obtain ⟨h0, h⟩ := grd_of h
    obtain ⟨h1, h⟩ := grd_of h
    obtain ⟨h2, h⟩ := grd_of h
    have h0' := of_decide_eq_true h0
    have h1' := of_decide_eq_true h1
    have h2' := of_decide_eq_true h2
    exact ⟨h, l.toNat, hh.toNat, by omega, by omega, fun e => (by cases e), fun x e => (by cases e; exact ⟨h0', rfl⟩), fun e => (by cases e), fun x e => (by cases e; exact ⟨by omega, rfl⟩)⟩

/-- An operand that is a bound. -/
def BoundIs (o : Option Value) (x : Option Int) : Prop :=
  match o, x with
  | none, none => True
  | some v, some n => ∃ k, v = .int k n
  | _, _ => False

theorem bounds_run (P : Program) (w : World) {isS : Bool} {n cap : Nat} {lo hi : Option Value} {lo' hi' : Option Int} {l h : Nat} (hlo : BoundIs lo lo') (hhi : BoundIs hi hi') (hlh : l ≤ h) (hhn : h ≤ n) (hnc : n ≤ cap)
    (h1 : lo' = none → l = 0) (h2 : ∀ x, lo' = some x → 0 ≤ x ∧ x.toNat = l) (h3 : hi' = none → h = n) (h4 : ∀ x, hi' = some x → 0 ≤ x ∧ x.toNat = h) :
    (Instr.sliceBounds isS n cap lo hi none).run P w = .ok (l, h, cap) w := by
  have hbd : ∀ (k : IntKind) (x : Int) (y : Nat) (c : BoundsCode), 0 ≤ x → x.toNat ≤ y → (Instr.sliceBound (.int k x) y c).run P w = .ok x.toNat w := fun k x y c a b => run_sliceBound (w := w) k x y c a (by omega)
  match lo, lo', hi, hi' with
  | none, none, none, none =>
    rw [h1 rfl, h3 rfl]
    simp [Instr.sliceBounds]
  | some v, some x, none, none =>
    obtain ⟨k, rfl⟩ := hlo
    obtain ⟨a, rfl⟩ := h2 x rfl
    rw [h3 rfl] at hlh ⊢
    simp [Instr.sliceBounds, hbd k x n _ a hlh]
  | none, none, some v, some x =>
    obtain ⟨k, rfl⟩ := hhi
    obtain ⟨a, rfl⟩ := h4 x rfl
    rw [h1 rfl]
    simp [Instr.sliceBounds, hbd k x cap _ a (by omega)]
  | some v, some x, some u, some y =>
    obtain ⟨k, rfl⟩ := hlo
    obtain ⟨k', rfl⟩ := hhi
    obtain ⟨a, rfl⟩ := h2 x rfl
    obtain ⟨b, rfl⟩ := h4 y rfl
    simp [Instr.sliceBounds, hbd k' y cap _ b (by omega), hbd k x y.toNat _ a hlh]
  | none, some _, _, _ => exact hlo.elim
  | some _, none, _, _ => exact hlo.elim
  | _, _, none, some _ => exact hhi.elim
  | _, _, some _, none => exact hhi.elim

theorem cutList_eq {α : Type} {xs : List α} {lo hi : Option Int} {l h : Nat} (hlen : h ≤ xs.length) (h1 : lo = none → l = 0) (h2 : ∀ x, lo = some x → 0 ≤ x ∧ x.toNat = l) (h3 : hi = none → h = xs.length) (h4 : ∀ x, hi = some x → 0 ≤ x ∧ x.toNat = h) :
    cutList xs lo hi = (xs.take h).drop l := by
  match lo, hi with
  | none, none => rw [h1 rfl, h3 rfl]; simp [cutList]
  | some x, none => rw [h3 rfl, ← (h2 x rfl).2]; simp [cutList]
  | none, some y => rw [h1 rfl, ← (h4 y rfl).2]; simp [cutList]
  | some x, some y => rw [← (h2 x rfl).2, ← (h4 y rfl).2]; simp [cutList]

theorem cutData {bad : Bad} {t : Ty} {xs : List (El t)} {A : Option Addr} {c : Nat} (hc : CellsOk w bad (.slc t) xs [.slice A xs.length c]) {l h : Nat} (hlh : l ≤ h) (hhn : h ≤ xs.length) :
    CellsOk w bad (.slc t) ((xs.take h).drop l) [.slice (if c = l then A else A.map (·.add (l * nleaf t))) (h - l) (c - l)] := by
  obtain ⟨A', c', es, e, hcap, hr, hp⟩ := hc
  simp at e
  obtain ⟨rfl, rfl⟩ := e
  have hlen := hr.length (CellsOk.length t)
  refine ⟨_, _, (es.take (h * nleaf t)).drop (l * nleaf t), by rw [List.length_drop, List.length_take, Nat.min_eq_left hhn], ?_, (hr.take (CellsOk.length t) h).drop (CellsOk.length t) l, ?_⟩
  · rw [List.length_drop, List.length_take, Nat.min_eq_left hhn]; omega
  · rcases hp with hp | ⟨ad, rfl, hrow⟩
    · left; rw [hp]; simp
    · by_cases hcl : c = l
      · left
        have : h = l := by omega
        subst this
        rw [List.drop_eq_nil_of_le]
        rw [List.length_take]
        exact Nat.min_le_left _ _
      · right
        refine ⟨ad.add (l * nleaf t), by rw [if_neg hcl]; rfl, (hrow.take _).drop _⟩

theorem slice_run (P : Program) (w : World) {t e : TypeId} (ht : P.underlying t = some (.slice e)) {i : TypeInfo} (hi : P.info? e = some i) {A : Option Addr} {n c l h : Nat} {lo hi' : Option Value} (hb : (Instr.sliceBounds true n c lo hi' none).run P w = .ok (l, h, c) w) :
    (Instr.sliceAt t (.slice A n c) lo hi' none).run P w = .ok (.slice (if c = l then A else A.map (·.add (l * i.size))) (h - l) (c - l)) w := by
  simp [Instr.sliceAt, run_underlying ht, Instr.slice, hb, sizeOf_run hi]
theorem sliceStr_run (P : Program) (w : World) {t : TypeId} (ht : P.underlying t = some .string) {s : ByteArray} {l h : Nat} {lo hi' : Option Value} (hb : (Instr.sliceBounds false s.size s.size lo hi' none).run P w = .ok (l, h, s.size) w) :
    (Instr.sliceAt t (.string s) lo hi' none).run P w = .ok (.string (s.extract l h)) w := by
  simp [Instr.sliceAt, run_underlying ht, Instr.slice, hb]

/-- A cut of a slice: what it comes to. -/
theorem sliceDat_of {bad : Bad} {dom : Nat → Prop} {t : TypeId} {ty : Ty} {xs : List (El ty)} {u : Value} {lo hi : Option Int} {vlo vhi : Option Value} {r : Out} {e : Eff Out} (hc : CellsOk w bad (.slc ty) xs [u]) (hf : elemFits C.E.P t ty = true)
    (h : (cutGrd (xs.length : Int) lo hi e).den = some r) (hlo : BoundIs vlo lo) (hhi : BoundIs vhi hi) :
    e.den = some r ∧ ∃ y, (Instr.sliceAt t u vlo vhi none).run C.E.P w = .ok y w ∧ VRep I dom w bad (lf1 (.d (.dat ty (cutList xs lo hi)))) y := by
  obtain ⟨he, l, hh, hlh, hhn, h1, h2, h3, h4⟩ := cutGrd_of h
  refine ⟨he, ?_⟩
  obtain ⟨e', heu, hn⟩ := bif_some hf
  obtain ⟨i, hi', hsz⟩ := info_of_size hn
  have hc' := hc
  obtain ⟨A, c, es, eu, hcap, _⟩ := hc
  simp at eu
  subst eu
  have hb := bounds_run C.E.P w (isS := true) (n := xs.length) (cap := c) hlo hhi hlh hhn hcap h1 h2 h3 h4
  refine ⟨_, slice_run C.E.P w heu hi' hb, ?_⟩
  rw [cutList_eq hhn h1 h2 h3 h4, hsz]
  exact cutData hc' hlh hhn

end
end Go.Abs

/- New rows: literals, make, append; cuts. -/
namespace Go.Abs
open Go

section
variable {C : Ctx} {I : Interp} {objs : Nat → Option Obj} {w : World}

def oldWr : Option Nat → List (Nat × Obj)
  | some r => [(r, .gone)]
  | none => []
def oldBlock (I : Interp) : Option Nat → Option Nat
  | some r => ownB (I.v r)
  | none => none

theorem ownsRow_one {e : TypeId} {size n : Nat} {v : Value} {xs : List Value} (h : OwnRow w e size v n xs) : v.oneCell' = true := by
  rcases ownsRow_shape h with ⟨_, h1, _⟩ | ⟨g, b, c, h1, _⟩ <;> rw [h1] <;> rfl

theorem ownNew (R : WRel C I objs w) {fr : Nat} (hfr : objs fr = none) (old : Option Nat) {e : TypeId} {t : Ty} {xs : List (El t)} {v' : Value} {w' : World} {cells : List Value}
    (hold : ∀ r, old = some r → ∃ e0 t0 xs0, objs r = some (.row e0 t0 xs0))
    (hg : w.grownBy w' (oldBlock I old))
    (hr : Rows (CellsOk w (badOf C I objs) t) xs cells)
    (ho : OwnRow w' e (nleaf t) v' xs.length cells)
    (hat : ∀ k, ownB v' = some k → w.heap.size ≤ k ∨ oldBlock I old = some k) :
    StepOk C I objs w (lf1 (.own fr)) (oldWr old ++ [(fr, .row e t xs)]) v' w' := by
  let I' : Interp := ⟨upd I.v fr v', upd I.sz fr (nleaf t)⟩
  have hne : ∀ id, Dom objs id → id ≠ fr := by
    intro id hd e
    subst e
    simp [Dom, hfr] at hd
  have hobj : ∀ id, putWr objs (oldWr old ++ [(fr, .row e t xs)]) id = if id = fr then some (.row e t xs) else if old = some id then some .gone else objs id := by
    intro id
    cases old with
    | none =>
      show upd objs fr _ id = _
      by_cases h : id = fr
      · subst h; rw [upd_same, if_pos rfl]
      · rw [upd_other _ _ _ _ h, if_neg h, if_neg (by simp)]
    | some r =>
      show upd (upd objs r _) fr _ id = _
      by_cases h : id = fr
      · subst h; rw [upd_same, if_pos rfl]
      · rw [upd_other _ _ _ _ h, if_neg h]
        by_cases h2 : id = r
        · subst h2; rw [upd_same, if_pos rfl]
        · rw [upd_other _ _ _ _ h2, if_neg (by simpa using fun e => h2 e.symm)]
  generalize hgen : putWr objs (oldWr old ++ [(fr, .row e t xs)]) = objs' at hobj
  have hblk : ∀ r g, old = some r → ownB (I.v r) = some g → ∃ e0 t0 xs0, objs r = some (.row e0 t0 xs0) ∧ ∃ b n c, 0 < c ∧ I.v r = .slice (some ⟨g, b, none⟩) n c := by
    intro r g hro hb
    obtain ⟨e0, t0, xs0, hrow⟩ := hold r hro
    refine ⟨e0, t0, xs0, hrow, ?_⟩
    obtain ⟨_, cells0, _, ho0⟩ := R.ok r _ hrow
    rcases ownsRow_shape ho0 with ⟨_, h1, _⟩ | ⟨g2, b, c, h1, h0, _⟩
    · rw [h1, ownB_zero] at hb; cases hb
    · rw [h1, ownB_pos h0] at hb
      obtain rfl := Option.some.inj hb
      exact ⟨b, _, c, h0, h1⟩
  have hU := R.upd (I' := I') (objs' := objs') (w' := w') (fun g _ => oldBlock I old = some g) (fun id => id = fr ∨ old = some id)
    ⟨hg.os, hg.tape, hg.output, hg.size, fun k hk => by
      by_cases h : some k = oldBlock I old
      · exact .inl fun _ => h.symm
      · exact .inr (.inl (hg.block k hk h))⟩
    (fun g o h => by
      cases old with
      | none => cases h
      | some r =>
        obtain ⟨e0, t0, xs0, h1, h2⟩ := hblk r g rfl h
        exact ⟨r, _, .inr rfl, h1, h2⟩)
    (fun id hd => ⟨upd_other _ _ _ _ (hne id hd), upd_other _ _ _ _ (hne id hd)⟩)
    (fun id hd => by
      simp only [Dom, hobj, if_neg (hne id hd)]
      split
      · rfl
      · exact hd)
    (fun id h => by
      rw [hobj, if_neg (fun e => h (.inl e)), if_neg (fun e => h (.inr e))])
    (fun id ob' h ho1 g o hc => by
      rw [hobj] at ho1
      by_cases hid : id = fr
      · subst hid
        rw [if_pos rfl] at ho1
        obtain rfl := Option.some.inj ho1
        obtain ⟨b, n, c, h0, hv⟩ := hc
        simp only [I', upd_same] at hv
        refine ⟨?_, ?_⟩
        · rcases hat g (by rw [hv]; exact ownB_pos h0) with h1 | h1
          · exact .inr h1
          · left
            cases old with
            | none => cases h1
            | some r =>
              obtain ⟨e0, t0, xs0, h2, h3⟩ := hblk r g rfl h1
              exact ⟨r, _, .inr rfl, h2, h3⟩
        · rcases ownsRow_shape ho with ⟨_, h1, _⟩ | ⟨g2, b2, c2, h1, h0', h2⟩
          · rw [hv] at h1; injection h1 with _ _ h1; omega
          · rw [hv] at h1
            injection h1 with h1 _ _; injection h1 with h1; injection h1 with h1
            rw [h1]; exact h2
      · rw [if_neg hid, if_pos (h.resolve_left hid)] at ho1
        obtain rfl := Option.some.inj ho1
        exact hc.elim)
    (fun id id' ob ob' g o h h' h1 h1' h2 h2' => by
      rw [hobj] at h1 h1'
      by_cases hid : id = fr
      · by_cases hid' : id' = fr
        · exact hid.trans hid'.symm
        · rw [if_neg hid', if_pos (h'.resolve_left hid')] at h1'
          obtain rfl := Option.some.inj h1'
          exact h2'.elim
      · rw [if_neg hid, if_pos (h.resolve_left hid)] at h1
        obtain rfl := Option.some.inj h1
        exact h2.elim)
    (fun K id ob' h ho1 => by
      rw [hobj] at ho1
      by_cases hid : id = fr
      · subst hid
        rw [if_pos rfl] at ho1
        obtain rfl := Option.some.inj ho1
        refine ⟨by simp only [I', upd_same], cells, hr.imp (fun x c => CellsOk.mono K.ha t x c), ?_⟩
        simp only [I', upd_same]
        exact ho
      · rw [if_neg hid, if_pos (h.resolve_left hid)] at ho1
        obtain rfl := Option.some.inj ho1
        trivial)
  have hd : Dom objs' fr := by simp [Dom, hobj]
  unfold StepOk
  rw [hgen]
  exact ⟨I', hU.1, hU.2, hd, by simp only [I', upd_same], ownsRow_one ho⟩

/-- Frozen first, then more. -/
theorem StepOk.after {I1 : Interp} {objs1 : Nat → Option Obj} {l m : List (Nat × Obj)} {val : Val} {v : Value} {w' : World} (hl : putWr objs l = objs1) (K : Keep I (Dom objs) w (badOf C I objs) I1 (Dom objs1) w (badOf C I1 objs1))
    (h : StepOk C I1 objs1 w val m v w') : StepOk C I objs w val (List.append l m) v w' := by
  obtain ⟨I', h1, h2, h3⟩ := h
  unfold StepOk
  rw [putWr_append, hl]
  exact ⟨I', h1, K.trans h2, h3⟩

/-! ### append -/
/-- A slice whose elements can be read now. -/
def Src (w : World) (bad : Bad) (ty : Ty) (ys : List (El ty)) (u : Value) : Prop :=
  ∃ A c es, u = .slice A ys.length c ∧ ys.length ≤ c ∧ Rows (CellsOk w bad ty) ys es ∧ (es = [] ∨ ∃ ad, A = some ad ∧ ∀ (j : Nat) (v : Value), es[j]? = some v → w.cell? (ad.add j) = some v)

theorem run_append_room' {P : Program} (w : World) (t ty e : TypeId) (i : TypeInfo) (ht : P.underlying t = some (.slice e)) (hi : P.info? e = some i)
    (g b sLen sCap : Nat) (cur : Array Value) (hg : w.heap[g]? = some (.cells cur e (0, 0)))
    (a : Addr) (m c : Nat) (news : List Value) (hl : news.length = m * i.size) (hnews : ∀ j u, news[j]? = some u → w.cell? (a.add j) = some u) (h1 : ∀ u ∈ news, u.oneCell' = true)
    (hroom : sLen + m ≤ sCap) (hfit : b + sLen * i.size + news.length ≤ cur.size) :
    (Builtin.append_ #[t, t] ty #[.slice (some ⟨g, b, none⟩) sLen sCap, .slice (some a) m c]).run P w =
      .ok (.slice (some ⟨g, b, none⟩) (sLen + m) sCap) (w.setRow g (cur.toList.take (b + sLen * i.size) ++ news ++ cur.toList.drop (b + sLen * i.size + news.length)).toArray) := by
  have hf := run_firstCells_some (P := P) w i.size m a m c news hl hnews
  have hst := run_storeCells_at P g (b + sLen * i.size) e news 0 cur w hg (by simpa using hfit) h1
  simp only [Nat.add_zero] at hst
  simp [Builtin.append_, run_underlying ht, sizeOf, typeInfo, hi, Builtin.lenOf, hroom, hf, Addr.add_lit, hst]

/-- 'append' to a row of one's own. -/
theorem append_row {P : Program} (t ty e : TypeId) (i : TypeInfo) (z : Value) (ht : P.underlying t = some (.slice e)) (hi : P.info? e = some i) (hz : i.zero = some z)
    (hzs : z.cells.size = i.size) (v : Value) (n : Nat) (xs : List Value) (hown : OwnRow w e i.size v n xs)
    (a : Addr) (m c : Nat) (news : List Value) (hl : news.length = m * i.size) (hnews : ∀ j u, news[j]? = some u → w.cell? (a.add j) = some u) (h1 : ∀ u ∈ news, u.oneCell' = true)
    (h63 : n + m ≤ maxLen) (hbytes : (n + m) * i.bytes ≤ 140737488355328) :
    ∃ v' w', (Builtin.append_ #[t, t] ty #[v, .slice (some a) m c]).run P w = .ok v' w' ∧ OwnRow w' e i.size v' (n + m) (xs ++ news) ∧ w.grownBy w' (ownB v) ∧ (ownB v' = ownB v ∨ ownB v' = some w.heap.size) := by
  have hsmall : n + m ≤ 9223372036854775807 := by simp only [maxLen] at h63; omega
  have hlen : (xs ++ news).length = (n + m) * i.size := by rw [List.length_append, hown.1, hl, Nat.add_mul]
  have grown : ∀ (old : Nat), old < n + m → ∀ (row : Option Nat),
      OwnRow (w.drew.alloc (.cells (xs.toArray ++ news.toArray ++ Builtin.zeroCells z.cells (grownCap w (n + m) old e - (n + m))) e)) e i.size
        (.slice (some ⟨w.heap.size, 0, none⟩) (n + m) (grownCap w (n + m) old e)) (n + m) (xs ++ news) ∧
      w.grownBy (w.drew.alloc (.cells (xs.toArray ++ news.toArray ++ Builtin.zeroCells z.cells (grownCap w (n + m) old e - (n + m))) e)) row ∧
      ownB (.slice (some ⟨w.heap.size, 0, none⟩) (n + m) (grownCap w (n + m) old e)) = some w.heap.size := by
    intro old ho row
    have hge := grownCap_ge w (n + m) old e
    have hcm : grownCap w (n + m) old e ≤ maxLen := grownCap_le_maxLen w (n + m) old e h63
    refine ⟨⟨hlen, .inr ⟨w.heap.size, 0, _, _, by omega, rfl, heap_alloc_new w.drew _, hge, hcm, ?_, ?_⟩⟩, ⟨rfl, rfl, rfl, by simp, fun k hk _ => heap_alloc_old w.drew _ k hk⟩, ownB_pos (by omega)⟩
    · simp only [Array.size_append, List.size_toArray, size_zeroCells, hzs, hown.1, hl, ← Nat.add_mul]
      rw [Nat.zero_add]
      congr 1
      omega
    · simp only [Array.toList_append, List.append_assoc, List.drop_zero]
      rw [← List.append_assoc, ← hlen]
      exact List.take_left
  have same : m = 0 → n ≤ (match v with | .slice _ _ k => k | _ => 0) → (∃ A k, v = .slice A n k) → (Builtin.append_ #[t, t] ty #[v, .slice (some a) m c]).run P w = .ok v w := by
    intro hm hk ⟨A, k, hv⟩
    subst hm; subst hv
    have hn : news = [] := List.eq_nil_of_length_eq_zero (by simpa using hl)
    cases A with
    | none => simp only at hk; simp [Builtin.append_, run_underlying ht, sizeOf, typeInfo, hi, Builtin.lenOf, Builtin.firstCells, loadCells, loadCellsFrom, hk, storeCells]
    | some A => simp only at hk; simp [Builtin.append_, run_underlying ht, sizeOf, typeInfo, hi, Builtin.lenOf, Builtin.firstCells, loadCells, loadCellsFrom, hk, storeCells]
  rcases hown.2 with ⟨A, rfl, rfl⟩ | ⟨g, b, cap, cur, h0, rfl, hg, hnc, hcm, hcs, htake⟩
  · have hx : xs = [] := List.eq_nil_of_length_eq_zero (by simpa using hown.1)
    subst hx
    by_cases hm : m = 0
    · have hr := same hm (Nat.le_refl _) ⟨A, 0, rfl⟩
      subst hm
      have hn : news = [] := List.eq_nil_of_length_eq_zero (by simpa using hl)
      subst hn
      exact ⟨_, w, hr, OwnRow.zero w e i.size A, ⟨rfl, rfl, rfl, Nat.le_refl _, fun _ _ _ => rfl⟩, .inl rfl⟩
    · cases A with
      | none =>
        have hr := run_append_nil (P := P) w t ty e i z ht hi hz a m c news hl hnews (by omega) (by omega) (by have hb := hbytes; simp only [Nat.zero_add] at hb; omega)
        have hgr := grown 0 (by omega) (ownB (.slice none 0 0))
        simp only [Nat.zero_add, List.nil_append, Array.empty_append] at hgr ⊢
        exact ⟨_, _, hr, hgr.1, hgr.2.1, .inr hgr.2.2⟩
      | some A =>
        have hr := run_append_grow (P := P) w t ty e i z ht hi hz A 0 0 [] (by simp) (by simp) a m c news hl hnews (by omega) (by omega) (growslice_fits (by omega) hbytes)
        have hgr := grown 0 (by omega) (ownB (.slice (some A) 0 0))
        exact ⟨_, _, hr, hgr.1, hgr.2.1, .inr hgr.2.2⟩
  · by_cases hroom : n + m ≤ cap
    · have hfit : b + n * i.size + news.length ≤ cur.size := by
        rw [hl, hcs, Nat.add_assoc, ← Nat.add_mul]
        exact Nat.add_le_add_left (Nat.mul_le_mul_right _ hroom) _
      have hr := run_append_room' (P := P) w t ty e i ht hi g b n cap cur hg a m c news hl hnews h1 hroom hfit
      refine ⟨_, _, hr, ⟨hlen, .inr ⟨g, b, cap, _, h0, rfl, setRow_heap w g cur _ e _ hg, hroom, hcm, ?_, ?_⟩⟩, ⟨rfl, rfl, rfl, by simp, fun k _ hk => setRow_other w g k _ (fun e => hk (by rw [ownB_pos h0, e]))⟩, .inl (by rw [ownB_pos h0, ownB_pos h0])⟩
      · simp only [List.size_toArray, List.length_append, List.length_take, List.length_drop, Array.length_toList]
        omega
      · have hcl : (cur.toList.take (b + n * i.size)).length = b + n * i.size := by
          rw [List.length_take, Array.length_toList]; omega
        have h2 : cur.toList.take (b + n * i.size) = cur.toList.take b ++ xs := by
          rw [List.take_add, htake]
        have hbl : (cur.toList.take b).length = b := by rw [List.length_take, Array.length_toList]; omega
        rw [h2, List.append_assoc, List.append_assoc, List.drop_append, hbl, Nat.sub_self, List.drop_zero, List.drop_eq_nil_of_le (by omega), List.nil_append, ← List.append_assoc, ← hlen]
        exact List.take_left
    · have holds : ∀ j u, xs[j]? = some u → w.cell? ((⟨g, b, none⟩ : Addr).add j) = some u := by
        intro j u hj
        rw [addr_add]
        refine cell_of hg ?_
        rw [← htake, List.getElem?_take] at hj
        split at hj
        · rw [List.getElem?_drop] at hj; simpa using hj
        · cases hj
      have hr := run_append_grow (P := P) w t ty e i z ht hi hz ⟨g, b, none⟩ n cap xs hown.1 holds a m c news hl hnews (by omega) (by omega) (growslice_fits (by omega) hbytes)
      have hgr := grown cap (by omega) (ownB (.slice (some ⟨g, b, none⟩) n cap))
      exact ⟨_, _, hr, hgr.1, hgr.2.1, .inr hgr.2.2⟩

theorem append_core {P : Program} {bad : Bad} {t e : TypeId} {ty : Ty} (ht : P.underlying t = some (.slice e)) (hn : nleaf ty = P.cellsOf e) {z : Value} {i : TypeInfo} (hi : P.info? e = some i) (hz : i.zero = some z) (hzs : z.cells.size = i.size)
    {v u : Value} {xs ys : List (El ty)} {cells : List Value} (hr : Rows (CellsOk w bad ty) xs cells) (ho : OwnRow w e (nleaf ty) v xs.length cells) (hu : Src w bad ty ys u)
    (hlim : (xs.length + ys.length) * i.bytes ≤ 140737488355328) (h63 : xs.length + ys.length ≤ maxLen) (rt : TypeId) :
    ∃ v' w' cells', (Builtin.append_ #[t, t] rt #[v, u]).run P w = .ok v' w' ∧ Rows (CellsOk w bad ty) (xs ++ ys) cells' ∧ OwnRow w' e (nleaf ty) v' (xs ++ ys).length cells' ∧ w.grownBy w' (ownB v) ∧
      (∀ k, ownB v' = some k → w.heap.size ≤ k ∨ ownB v = some k) := by
  have hsz : i.size = nleaf ty := by rw [hn, cellsOf_info hi]
  obtain ⟨A, c, es, rfl, hcap, hre, hp⟩ := hu
  have hlen := hre.length (CellsOk.length ty)
  cases A with
  | some ad =>
    have hnews : ∀ j u, es[j]? = some u → w.cell? (ad.add j) = some u := by
      rcases hp with hp | ⟨ad', hp, hrow⟩
      · subst hp; intro j u h; simp at h
      · cases hp
        exact hrow
    rw [← hsz] at ho hlen ⊢
    obtain ⟨v', w', h1, h2, h3, h5⟩ := append_row (P := P) t rt e i z ht hi hz hzs v xs.length cells ho ad ys.length c es hlen hnews hre.one h63 hlim
    refine ⟨v', w', cells ++ es, h1, hr.append hre, by rw [List.length_append]; exact h2, h3, fun k hk => ?_⟩
    rcases h5 with h5 | h5
    · exact .inr (h5 ▸ hk)
    · rw [h5] at hk
      cases hk
      exact .inl (Nat.le_refl _)
  | none =>
    have hes : es = [] := by
      rcases hp with hp | ⟨ad', hp, _⟩
      · exact hp
      · cases hp
    have hy : ys = [] := by
      subst hes
      have := nleaf_pos ty
      rw [List.length_nil] at hlen
      have : ys.length = 0 := by
        rcases Nat.eq_zero_or_pos ys.length with h | h
        · exact h
        · have := Nat.mul_pos h (nleaf_pos ty); omega
      exact List.eq_nil_of_length_eq_zero this
    subst hy
    refine ⟨v, w, cells, ?_, by simpa using hr, by simpa using ho, ⟨rfl, rfl, rfl, Nat.le_refl _, fun _ _ _ => rfl⟩, fun k hk => .inr hk⟩
    rcases ho.2 with ⟨A, rfl, h0⟩ | ⟨g, b, cap, cur, _, rfl, _, hc1, _⟩
    · cases A <;> simp [Builtin.append_, run_underlying ht, sizeOf_run hi, Builtin.lenOf, Builtin.firstCells, storeCells]
    · simp [Builtin.append_, run_underlying ht, sizeOf_run hi, Builtin.lenOf, Builtin.firstCells, hc1, storeCells]

/-! ### append of a string -/
theorem run_append_room_str {P : Program} (w : World) (t u ty e : TypeId) (i : TypeInfo) (ht : P.underlying t = some (.slice e)) (hu : P.underlying u = some .string) (hi : P.info? e = some i) (hs1 : i.size = 1)
    (g b sLen sCap : Nat) (cur : Array Value) (hg : w.heap[g]? = some (.cells cur e (0, 0))) (s : ByteArray)
    (hroom : sLen + s.size ≤ sCap) (hfit : b + sLen + s.size ≤ cur.size) :
    (Builtin.append_ #[t, u] ty #[.slice (some ⟨g, b, none⟩) sLen sCap, .string s]).run P w =
      .ok (.slice (some ⟨g, b, none⟩) (sLen + s.size) sCap) (w.setRow g (cur.toList.take (b + sLen) ++ Lib.strCells s ++ cur.toList.drop (b + sLen + s.size)).toArray) := by
  have hf := Lib.run_firstCells_string (P := P) w 1 s
  have hst := run_storeCells_at P g (b + sLen) e (Lib.strCells s) 0 cur w hg (by simpa [Lib.strCells_length] using hfit) (Lib.strCells_oneCell s)
  simp only [Nat.add_zero, Lib.strCells_length] at hst
  simp [Builtin.append_, run_underlying ht, run_underlying hu, sizeOf, typeInfo, hi, hs1, Builtin.lenOf, hroom, hf, Addr.add_lit, hst]

theorem append_str {P : Program} (t u ty e : TypeId) (i : TypeInfo) (z : Value) (ht : P.underlying t = some (.slice e)) (hus : P.underlying u = some .string) (hi : P.info? e = some i) (hz : i.zero = some z)
    (hs1 : i.size = 1) (hzs : z.cells.size = i.size) (v : Value) (n : Nat) (xs : List Value) (hown : OwnRow w e 1 v n xs) (s : ByteArray)
    (h63 : n + s.size ≤ maxLen) (hbytes : (n + s.size) * i.bytes ≤ 140737488355328) :
    ∃ v' w', (Builtin.append_ #[t, u] ty #[v, .string s]).run P w = .ok v' w' ∧ OwnRow w' e 1 v' (n + s.size) (xs ++ Lib.strCells s) ∧ w.grownBy w' (ownB v) ∧ (ownB v' = ownB v ∨ ownB v' = some w.heap.size) := by
  have hsmall : n + s.size ≤ 9223372036854775807 := by simp only [maxLen] at h63; omega
  have hxl : xs.length = n := by simpa using hown.1
  have hlen : (xs ++ Lib.strCells s).length = n + s.size := by rw [List.length_append, hxl, Lib.strCells_length]
  have grown : ∀ (old : Nat), old < n + s.size → ∀ (row : Option Nat),
      OwnRow (w.drew.alloc (.cells (xs.toArray ++ (Lib.strCells s).toArray ++ Builtin.zeroCells z.cells (grownCap w (n + s.size) old e - (n + s.size))) e)) e 1
        (.slice (some ⟨w.heap.size, 0, none⟩) (n + s.size) (grownCap w (n + s.size) old e)) (n + s.size) (xs ++ Lib.strCells s) ∧
      w.grownBy (w.drew.alloc (.cells (xs.toArray ++ (Lib.strCells s).toArray ++ Builtin.zeroCells z.cells (grownCap w (n + s.size) old e - (n + s.size))) e)) row ∧
      ownB (.slice (some ⟨w.heap.size, 0, none⟩) (n + s.size) (grownCap w (n + s.size) old e)) = some w.heap.size := by
    intro old ho row
    have hge := grownCap_ge w (n + s.size) old e
    have hcm : grownCap w (n + s.size) old e ≤ maxLen := grownCap_le_maxLen w (n + s.size) old e h63
    refine ⟨⟨by rw [hlen, Nat.mul_one], .inr ⟨w.heap.size, 0, _, _, by omega, rfl, heap_alloc_new w.drew _, hge, hcm, ?_, ?_⟩⟩, ⟨rfl, rfl, rfl, by simp, fun k hk _ => heap_alloc_old w.drew _ k hk⟩, ownB_pos (by omega)⟩
    · simp only [Array.size_append, List.size_toArray, size_zeroCells, hzs, hs1, hxl, Lib.strCells_length]
      omega
    · simp only [Array.toList_append, List.append_assoc, List.drop_zero]
      rw [← List.append_assoc, Nat.mul_one, ← hlen]
      exact List.take_left
  rcases hown.2 with ⟨A, rfl, rfl⟩ | ⟨g, b, cap, cur, h0, rfl, hg, hnc, hcm, hcs, htake⟩
  · have hx : xs = [] := List.eq_nil_of_length_eq_zero hxl
    subst hx
    by_cases hm : s.size = 0
    · have hs0 : Lib.strCells s = [] := List.eq_nil_of_length_eq_zero (by rw [Lib.strCells_length]; exact hm)
      refine ⟨.slice A 0 0, w, ?_, by rw [hs0, hm]; exact OwnRow.zero w e 1 A, ⟨rfl, rfl, rfl, Nat.le_refl _, fun _ _ _ => rfl⟩, .inl rfl⟩
      have hf := Lib.run_firstCells_string (P := P) w i.size s
      rw [hm, hs0] at hf
      cases A with
      | none => simp [Builtin.append_, run_underlying ht, run_underlying hus, sizeOf, typeInfo, hi, Builtin.lenOf, hf, hm]
      | some A => simp [Builtin.append_, run_underlying ht, run_underlying hus, sizeOf, typeInfo, hi, Builtin.lenOf, hf, hm, storeCells]
    · cases A with
      | none =>
        have hr := run_append_nil_string (P := P) w t u ty e i z ht hus hi hz s (by omega) (by omega) (by have hb := hbytes; simp only [Nat.zero_add] at hb; omega)
        have hgr := grown 0 (by omega) (ownB (.slice none 0 0))
        simp only [Nat.zero_add, List.nil_append, Array.empty_append] at hgr ⊢
        rw [show (s.data.map fun b => Value.int .u8 b.toNat) = (Lib.strCells s).toArray from by simp [Lib.strCells]; apply Array.ext'; simp] at hr
        exact ⟨_, _, hr, hgr.1, hgr.2.1, .inr hgr.2.2⟩
      | some A =>
        have hr := Lib.run_append_grow_string (P := P) w t u ty e i z ht hus hi hz A 0 0 [] (by simp) (by simp) s (by omega) (by omega) (growslice_fits (by omega) hbytes)
        have hgr := grown 0 (by omega) (ownB (.slice (some A) 0 0))
        exact ⟨_, _, hr, hgr.1, hgr.2.1, .inr hgr.2.2⟩
  · by_cases hroom : n + s.size ≤ cap
    · have hfit : b + n + s.size ≤ cur.size := by omega
      have hr := run_append_room_str (P := P) w t u ty e i ht hus hi hs1 g b n cap cur hg s hroom hfit
      refine ⟨_, _, hr, ⟨by rw [hlen, Nat.mul_one], .inr ⟨g, b, cap, _, h0, rfl, setRow_heap w g cur _ e _ hg, hroom, hcm, ?_, ?_⟩⟩, ⟨rfl, rfl, rfl, by simp, fun k _ hk => setRow_other w g k _ (fun e => hk (by rw [ownB_pos h0, e]))⟩, .inl (by rw [ownB_pos h0, ownB_pos h0])⟩
      · simp only [List.size_toArray, List.length_append, List.length_take, List.length_drop, Array.length_toList, Lib.strCells_length]
        omega
      · have h2 : cur.toList.take (b + n) = cur.toList.take b ++ xs := by
          rw [List.take_add, ← htake, Nat.mul_one]
        have hbl : (cur.toList.take b).length = b := by rw [List.length_take, Array.length_toList]; omega
        rw [h2, List.append_assoc, List.append_assoc, List.drop_append, hbl, Nat.sub_self, List.drop_zero, List.drop_eq_nil_of_le (by omega), List.nil_append, ← List.append_assoc, Nat.mul_one, ← hlen]
        exact List.take_left
    · have holds : ∀ j u, xs[j]? = some u → w.cell? ((⟨g, b, none⟩ : Addr).add j) = some u := by
        intro j u hj
        rw [addr_add]
        refine cell_of hg ?_
        rw [← htake, List.getElem?_take] at hj
        split at hj
        · rw [List.getElem?_drop] at hj; simpa using hj
        · cases hj
      have hr := Lib.run_append_grow_string (P := P) w t u ty e i z ht hus hi hz ⟨g, b, none⟩ n cap xs (by rw [hs1, Nat.mul_one]; exact hxl) holds s (by omega) (by omega) (growslice_fits (by omega) hbytes)
      have hgr := grown cap (by omega) (ownB (.slice (some ⟨g, b, none⟩) n cap))
      exact ⟨_, _, hr, hgr.1, hgr.2.1, .inr hgr.2.2⟩

theorem rows_str {bad : Bad} (s : ByteArray) : Rows (CellsOk w bad (.int .u8)) (bytesL s) (Lib.strCells s) := by
  unfold bytesL Lib.strCells
  induction s.data.toList with
  | nil => rfl
  | cons b l ih => exact ⟨[_], _, rfl, rfl, ih⟩
theorem bytesL_length (s : ByteArray) : (bytesL s).length = s.size := by
  rw [bytesL, List.length_map, Array.length_toList]
  rfl

end
end Go.Abs

/- Cuts, append, make, literals, copy, len: what each leaves. -/
namespace Go.Abs
open Go

section
variable {C : Ctx} {I : Interp} {objs : Nat → Option Obj} {w : World}

theorem zeroD_of {P : Program} {t : TypeId} {z : List DLeaf} (h : zeroD P t = some z) : ∃ i v, P.info? t = some i ∧ i.zero = some v ∧ z = v.cells.toList.map .v ∧ v.cells.toList.all Value.oneCell' = true := by
  unfold zeroD at h
  split at h
  · rename_i i hi
    split at h
    · rename_i v hv
      cases hb : v.cells.toList.all Value.oneCell' with
      | false => rw [hb] at h; cases h
      | true =>
        rw [hb] at h
        exact ⟨i, v, hi, hv, (Option.some.inj h).symm, hb⟩
    · cases h
  · cases h
theorem F2.valsD {bad : Bad} : ∀ (l : List Value), l.all Value.oneCell' = true → F2 (DRep w bad) (l.map .v) l
  | [], _ => trivial
  | v :: l, h => by
    simp only [List.all_cons, Bool.and_eq_true] at h
    exact ⟨⟨rfl, h.1⟩, F2.valsD l h.2⟩
theorem zeroFits_of {P : Program} {e : TypeId} (h : zeroFits P e = true) : ∃ i z, P.info? e = some i ∧ i.zero = some z ∧ z.cells.size = i.size := by
  unfold zeroFits at h
  split at h
  · rename_i i hi
    split at h
    · rename_i z hz
      exact ⟨i, z, hi, hz, Nat.eq_of_beq_eq_true h⟩
    · cases h
  · cases h
theorem lim_of {P : Program} {e : TypeId} {i : TypeInfo} (hi : P.info? e = some i) {n : Nat} (h : n < limOf P e) : n * i.bytes ≤ 140737488355328 ∧ n ≤ maxLen := by
  unfold limOf at h
  rw [bytesOf_info hi] at h
  have h1 := Nat.div_mul_le_self 140737488355328 i.bytes
  have h2 : n * i.bytes ≤ 140737488355328 / i.bytes * i.bytes := Nat.mul_le_mul_right _ (by omega)
  have h3 := Nat.div_le_self 140737488355328 i.bytes
  refine ⟨by omega, ?_⟩
  simp only [maxLen]
  omega

theorem isNil_of {v : Value} (h : isNilSlice v = true) : v = .slice none 0 0 := by
  unfold isNilSlice at h
  split at h
  · rfl
  · cases h

theorem src_dat {bad : Bad} {t : Ty} {xs : List (El t)} {u : Value} (h : CellsOk w bad (.slc t) xs [u]) : Src w bad t xs u := by
  obtain ⟨A, c, es, e, hc, hr, hp⟩ := h
  exact ⟨A, c, es, by simpa using e, hc, hr, hp.imp id fun ⟨ad, ha, hrow⟩ => ⟨ad, ha, fun j v hj => (hrow j v hj).1⟩⟩
theorem src_row {bad : Bad} {e : TypeId} {t : Ty} {xs : List (El t)} {v : Value} {cells : List Value} (hr : Rows (CellsOk w bad t) xs cells) (ho : OwnRow w e (nleaf t) v xs.length cells) : Src w bad t xs v := by
  rcases ho.2 with ⟨A, hv, h0⟩ | ⟨g, b, cap, cur, _, hv, hh, hc1, hc2, hsz, htk⟩
  · have hx : xs = [] := List.eq_nil_of_length_eq_zero h0
    subst hx
    exact ⟨A, 0, [], hv, Nat.le_refl _, rfl, .inl rfl⟩
  · refine ⟨some ⟨g, b, none⟩, cap, cells, hv, hc1, hr, .inr ⟨_, rfl, fun i v' hi => ?_⟩⟩
    rw [addr_add]
    refine cell_of hh ?_
    rw [← htk, List.getElem?_take] at hi
    split at hi
    · rw [List.getElem?_drop] at hi; simpa using hi
    · cases hi

theorem sliceOf_of (R : WRel C I objs w) {x : Leaf} {sd : SD} {rs : List Nat} {u : Value} (h : sliceOf objs x = some (sd, rs)) (hx : LRep I (Dom objs) w (badOf C I objs) x u) :
    (sd = .nil ∧ u = .slice none 0 0) ∨ ∃ t xs, sd = .dat t xs ∧ Src w (badOf C I objs) t xs u := by
  unfold sliceOf at h
  split at h
  · rename_i v
    cases hb : isNilSlice v with
    | false => rw [hb] at h; cases h
    | true =>
      rw [hb] at h
      simp at h
      exact .inl ⟨h.1.symm, by rw [hx.1]; exact isNil_of hb⟩
  · simp at h
    exact .inr ⟨_, _, h.1.symm, src_dat hx⟩
  · rename_i r
    split at h
    · rename_i e t xs hr
      simp at h
      obtain ⟨_, cells, hrow, ho⟩ := R.ok r _ hr
      refine .inr ⟨_, _, h.1.symm, ?_⟩
      rw [hx.2.1]
      exact src_row hrow ho
    · rename_i t xs hr
      simp at h
      refine .inr ⟨_, _, h.1.symm, ?_⟩
      rw [hx.2.1]
      exact src_dat (R.ok r _ hr).2
    · cases h
  · cases h

theorem appendOut_of (R : WRel C I objs w) {fr : Nat} {t rt : TypeId} {s x : Leaf} {out : Out} {u v : Value} (h : (appendOut objs C.E.P fr t s x).den = some out) (hs : LRep I (Dom objs) w (badOf C I objs) s v) (hx : LRep I (Dom objs) w (badOf C I objs) x u) :
    ∃ y w', (Builtin.append_ #[t, t] rt #[v, u]).run C.E.P w = .ok y w' ∧ StepOk C I objs w out.val out.wr y w' := by
  unfold appendOut at h
  split at h
  · rename_i e he
    have ht := sliceElem_of he
    split at h
    · -- nil, and data
      rename_i x0 t' ys rs hsl
      cases hb : (isNilSlice x0 && Nat.beq (nleaf t') (C.E.P.cellsOf e) && isFree objs fr && zeroFits C.E.P e) with
      | false => rw [hb] at h; cases h
      | true =>
        rw [hb] at h
        simp only [Bool.and_eq_true] at hb
        obtain ⟨hlim, h⟩ := grd_of h
        simp only [Eff.den, Option.some.injEq] at h
        subst h
        have hv : v = .slice none 0 0 := by rw [hs.1]; exact isNil_of hb.1.1.1
        subst hv
        obtain ⟨i, z, hi, hz, hzs⟩ := zeroFits_of hb.2
        rcases sliceOf_of R hsl hx with ⟨h1, _⟩ | ⟨t2, xs2, h1, hsrc⟩
        · cases h1
        · cases h1
          have hn := Nat.eq_of_beq_eq_true hb.1.1.2
          obtain ⟨hl1, hl2⟩ := lim_of hi (of_decide_eq_true hlim)
          obtain ⟨v', w', cells', h1, h2, h3, h4, h5⟩ := append_core (ty := t') ht hn hi hz hzs (xs := []) (cells := []) (bad := badOf C I objs) rfl (OwnRow.zero w e (nleaf t') none) hsrc (by simpa using hl1) (by simpa using hl2) rt
          exact ⟨v', w', h1, ownNew R (isFree_of hb.1.2) none (fun r hr => by cases hr) h4 h2 h3 (fun k hk => (h5 k hk).imp id (fun hh => by cases hh))⟩
    · -- nil, nil
      rename_i x0 rs hsl
      cases hb : (isNilSlice x0 && zeroFits C.E.P e) with
      | false => rw [hb] at h; cases h
      | true =>
        rw [hb] at h
        simp only [Bool.and_eq_true] at hb
        simp only [cond_true, Eff.den, Option.some.injEq] at h
        subst h
        have hv : v = .slice none 0 0 := by rw [hs.1]; exact isNil_of hb.1
        subst hv
        rcases sliceOf_of R hsl hx with ⟨_, hu⟩ | ⟨t2, xs2, h1, hsrc⟩
        · subst hu
          obtain ⟨i, _, hi, _⟩ := zeroFits_of hb.2
          refine ⟨.slice none 0 0, w, ?_, StepOk.pure R hs⟩
          simp [Builtin.append_, run_underlying ht, sizeOf_run hi, Builtin.lenOf, Builtin.firstCells]
        · cases h1
    · -- a row, nil
      rename_i r rs hsl
      split at h
      · rename_i e' t' xs hr
        cases hb : zeroFits C.E.P e with
        | false => rw [hb] at h; cases h
        | true =>
        rw [hb] at h
        simp only [cond_true, Eff.den, Option.some.injEq] at h
        subst h
        rcases sliceOf_of R hsl hx with ⟨_, hu⟩ | ⟨t2, xs2, h1, hsrc⟩
        · subst hu
          obtain ⟨i, _, hi, _⟩ := zeroFits_of hb
          obtain ⟨_, cells, hrow, ho⟩ := R.ok r _ hr
          rw [← hs.2.1] at ho
          refine ⟨v, w, ?_, StepOk.pure R hs⟩
          rcases ho.2 with ⟨A, rfl, h0⟩ | ⟨g, b, cap, cur, _, rfl, _, hc1, _⟩
          · cases A <;> simp [Builtin.append_, run_underlying ht, sizeOf_run hi, Builtin.lenOf, Builtin.firstCells, storeCells]
          · simp [Builtin.append_, run_underlying ht, sizeOf_run hi, Builtin.lenOf, Builtin.firstCells, hc1, storeCells]
        · cases h1
      · cases h
    · -- a row, and data
      rename_i r t' ys rs hsl
      split at h
      · rename_i e' ty xs hr
        split at h
        · rename_i ys' hys
          obtain ⟨ety, hys'⟩ := castL_eq hys
          subst ety
          subst hys'
          cases hb : (Nat.beq e e' && Nat.beq (nleaf t') (C.E.P.cellsOf e) && !(rs.any (Nat.beq r)) && isFree objs fr && zeroFits C.E.P e) with
          | false => rw [hb] at h; cases h
          | true =>
            rw [hb] at h
            simp only [Bool.and_eq_true] at hb
            obtain ⟨hlim, h⟩ := grd_of h
            simp only [Eff.den, Option.some.injEq] at h
            subst h
            have hee : e = e' := Nat.eq_of_beq_eq_true hb.1.1.1.1
            subst hee
            obtain ⟨i, z, hi, hz, hzs⟩ := zeroFits_of hb.2
            obtain ⟨_, cells, hrow, ho⟩ := R.ok r _ hr
            rcases sliceOf_of R hsl hx with ⟨h1, _⟩ | ⟨t2, xs2, h1, hsrc⟩
            · cases h1
            · cases h1
              have hn := Nat.eq_of_beq_eq_true hb.1.1.1.2
              obtain ⟨hl1, hl2⟩ := lim_of hi (of_decide_eq_true hlim)
              rw [hs.2.1]
              obtain ⟨v', w', cells', h1, h2, h3, h4, h5⟩ := append_core (ty := t') ht hn hi hz hzs (bad := badOf C I objs) hrow ho hsrc hl1 hl2 rt
              exact ⟨v', w', h1, ownNew R (isFree_of hb.1.2) (some r) (fun r' hr' => by cases hr'; exact ⟨_, _, _, hr⟩) h4 h2 h3 h5⟩
        · cases h
      · cases h
    · cases h
  · cases h

theorem appendStrE_of (R : WRel C I objs w) {fr : Nat} {t u rt : TypeId} {s : Leaf} {x : ByteArray} {out : Out} {v : Value} (h : (appendStrE objs C.E.P fr t s x).den = some out) (hu : C.E.P.underlying u = some .string) (hs : LRep I (Dom objs) w (badOf C I objs) s v) :
    ∃ y w', (Builtin.append_ #[t, u] rt #[v, .string x]).run C.E.P w = .ok y w' ∧ StepOk C I objs w out.val out.wr y w' := by
  unfold appendStrE at h
  split at h
  · rename_i e he
    have ht := sliceElem_of he
    cases hb : (isByteS C.E.P t && (zeroFits C.E.P e && isFree objs fr)) with
    | false => rw [hb] at h; cases h
    | true =>
      rw [hb] at h
      simp only [Bool.and_eq_true] at hb
      obtain ⟨hb1, hb2, hb3⟩ := hb
      simp only [cond_true] at h
      obtain ⟨i, z, hi, hz, hzs⟩ := zeroFits_of hb2
      have hs1 : i.size = 1 := by
        unfold isByteS at hb1
        rw [ht] at hb1
        simp only at hb1
        split at hb1
        · rw [← cellsOf_info hi]; exact Nat.eq_of_beq_eq_true hb1
        · cases hb1
      split at h
      · rename_i x0
        cases hv0 : isNilSlice x0 with
        | false => rw [hv0] at h; cases h
        | true =>
          rw [hv0] at h
          obtain ⟨hlim, h⟩ := grd_of h
          simp only [Eff.den, Option.some.injEq] at h
          subst h
          have hv : v = .slice none 0 0 := by rw [hs.1]; exact isNil_of hv0
          subst hv
          obtain ⟨hl1, hl2⟩ := lim_of hi (of_decide_eq_true hlim)
          obtain ⟨v', w', h1, h2, h3, h4⟩ := append_str (w := w) t u rt e i z ht hu hi hz hs1 hzs (.slice none 0 0) 0 [] (OwnRow.zero w e 1 none) x (by omega) (by rw [Nat.zero_add]; exact hl1)
          refine ⟨v', w', h1, ownNew R (isFree_of hb3) none (fun r hr => by cases hr) h3 (rows_str x) (by rw [bytesL_length]; rw [Nat.zero_add, List.nil_append] at h2; exact h2) (fun k hk => ?_)⟩
          rcases h4 with h4 | h4
          · rw [h4] at hk; cases hk
          · rw [h4] at hk; cases hk; exact .inl (Nat.le_refl _)
      · rename_i r
        split at h
        · rename_i e' t' xs hr
          split at h
          · rename_i xs' hc
            obtain ⟨et, hxs⟩ := castL_eq hc
            subst et
            subst hxs
            cases hee : Nat.beq e e' with
            | false => rw [hee] at h; cases h
            | true =>
              rw [hee] at h
              have := Nat.eq_of_beq_eq_true hee
              subst this
              obtain ⟨hlim, h⟩ := grd_of h
              simp only [Eff.den, Option.some.injEq] at h
              subst h
              obtain ⟨hl1, hl2⟩ := lim_of hi (of_decide_eq_true hlim)
              obtain ⟨_, cells, hrow, ho⟩ := R.ok r _ hr
              obtain ⟨v', w', h1, h2, h3, h4⟩ := append_str (w := w) t u rt e i z ht hu hi hz hs1 hzs (I.v r) xs'.length cells ho x hl2 hl1
              rw [hs.2.1]
              refine ⟨v', w', h1, ownNew R (isFree_of hb3) (some r) (fun r' hr' => by cases hr'; exact ⟨_, _, _, hr⟩) h3 (hrow.append (rows_str x)) (by rw [List.length_append, bytesL_length]; exact h2) (fun k hk => ?_)⟩
              rcases h4 with h4 | h4
              · exact .inr (by show ownB (I.v r) = some k; rw [← h4]; exact hk)
              · rw [h4] at hk; cases hk; exact .inl (Nat.le_refl _)
          · cases h
        · cases h
      · cases h
  · cases h

end
end Go.Abs

/- Cuts, make, literals, copy: what each leaves. -/
namespace Go.Abs
open Go

section
variable {C : Ctx} {I : Interp} {objs : Nat → Option Obj} {w : World}

/-! ### make -/
theorem made_list (z : Array Value) (hz : 0 < z.size) : ∀ n : Nat, ((Array.range (n * z.size)).map (z[· % z.size]!)).toList = List.flatten (List.replicate n z.toList) := by
  intro n
  apply List.ext_getElem?
  intro j
  have hr : ∀ (n : Nat) (l : List Value) (j : Nat), l ≠ [] → (List.flatten (List.replicate n l))[j]? = if j < n * l.length then l[j % l.length]? else none := by
    intro n l
    induction n with
    | zero => intro j hl; simp
    | succ n ih =>
      intro j hl
      have hpos : 0 < l.length := by cases l; exact absurd rfl hl; simp
      rw [List.replicate_succ, List.flatten_cons]
      by_cases hj : j < l.length
      · rw [List.getElem?_append_left hj, if_pos (by rw [Nat.succ_mul]; omega), Nat.mod_eq_of_lt hj]
      · rw [List.getElem?_append_right (by omega), ih (j - l.length) hl]
        have : (j - l.length) % l.length = j % l.length := by
          rw [← Nat.mod_eq_sub_mod (by omega)]
        rw [this]
        by_cases h2 : j - l.length < n * l.length
        · rw [if_pos h2, if_pos (by rw [Nat.succ_mul]; omega)]
        · rw [if_neg h2, if_neg (by rw [Nat.succ_mul]; omega)]
  rw [hr n z.toList j (by intro h; have : z.size = 0 := by rw [← Array.length_toList, h]; rfl
                          omega)]
  simp only [Array.length_toList]
  by_cases hj : j < n * z.size
  · rw [if_pos hj]
    have hm : j % z.size < z.size := Nat.mod_lt _ hz
    simp [hj, hm]
  · rw [if_neg hj]
    simp
    omega

theorem flat_length {α : Type} (l : List α) : ∀ n, (List.flatten (List.replicate n l)).length = n * l.length
  | 0 => by simp
  | n + 1 => by rw [List.replicate_succ, List.flatten_cons, List.length_append, flat_length l n, Nat.succ_mul, Nat.add_comm]

/-- A new block that holds just these elements. -/
theorem newRow_of (R : WRel C I objs w) {fr : Nat} (hfr : objs fr = none) {e : TypeId} {t : Ty} {xs : List (El t)} {cells : List Value} (hr : Rows (CellsOk w (badOf C I objs) t) xs cells) (hm : xs.length ≤ maxLen) :
    StepOk C I objs w (lf1 (.own fr)) [(fr, .row e t xs)] (.slice (some ⟨w.heap.size, 0, none⟩) xs.length xs.length) (w.alloc (.cells cells.toArray e)) := by
  have hlen := hr.length (CellsOk.length t)
  have h := ownNew R hfr none (e := e) (t := t) (xs := xs) (v' := .slice (some ⟨w.heap.size, 0, none⟩) xs.length xs.length) (w' := w.alloc (.cells cells.toArray e)) (cells := cells) (fun r hr => by cases hr)
    (World.grownBy_alloc w _ _) hr
    (OwnRow.of ⟨hlen, .inr ⟨w.heap.size, xs.length, cells.toArray, rfl, Nat.zero_le _, heap_alloc_new w _, Nat.le_refl _, hm, by simp [hlen], by rw [← hlen]; simp⟩⟩)
    (fun k hk => by
      left
      obtain ⟨a, n, c, hv, h0, hb⟩ := ownB_of hk
      injection hv with hv _ _; injection hv with hv
      rw [← hb, ← hv]
      exact Nat.le_refl _)
  exact h

theorem makeOut_of (R : WRel C I objs w) {fr : Nat} {t : TypeId} {n : Int} {out : Out} {k k' : IntKind} (h : (makeOut objs C.E fr t n).den = some out) :
    ∃ y w', (Instr.makeSlice t (.int k n) (.int k' n)).run C.E.P w = .ok y w' ∧ StepOk C I objs w out.val out.wr y w' := by
  unfold makeOut at h
  split at h
  · rename_i e he
    have ht := sliceElem_of he
    split at h
    · rename_i ty z hty hz
      obtain ⟨i, v, hi, hv, rfl, hall⟩ := zeroD_of hz
      split at h
      · rename_i x hx
        obtain ⟨hrow, _⟩ := elemsOf_of (w := w) (bad := badOf C I objs) ty 1 _ _ _ hx (F2.valsD _ hall)
        obtain ⟨c1, c2, hc, h1, h2⟩ := hrow
        simp [Rows] at h2
        subst h2
        rw [List.append_nil] at hc
        subst hc
        cases hb : (Nat.beq (nleaf ty) (C.E.P.cellsOf e) && Nat.ble 1 (C.E.P.cellsOf e) && isFree objs fr) with
        | false => rw [hb] at h; cases h
        | true =>
          rw [hb] at h
          simp only [Bool.and_eq_true] at hb
          obtain ⟨h0, h⟩ := grd_of h
          obtain ⟨hlim, h⟩ := grd_of h
          simp only [Eff.den, Option.some.injEq] at h
          subst h
          have h0' := of_decide_eq_true h0
          have hlim' := of_decide_eq_true hlim
          have hsz : i.size = nleaf ty := by rw [Nat.eq_of_beq_eq_true hb.1.1, cellsOf_info hi]
          have hzs := CellsOk.length ty _ _ h1
          rw [bytesOf_info hi] at hlim'
          have hd1 := Nat.div_mul_le_self 140737488355328 i.bytes
          have hd2 : n.toNat * i.bytes ≤ 140737488355328 / i.bytes * i.bytes := Nat.mul_le_mul_right _ hlim'
          have hd3 := Nat.div_le_self 140737488355328 i.bytes
          have hbytes : (i.bytes : Int) * n ≤ 281474976710656 := by
            have h1 : n.toNat * i.bytes ≤ 140737488355328 := by omega
            have h2 := Int.ofNat_le.2 h1
            rw [Int.natCast_mul, Int.toNat_of_nonneg h0', Int.mul_comm] at h2
            omega
          have hrun := run_make (P := C.E.P) w t e i v ht hi hv k k' n n h0' (by omega) hbytes (by omega)
          have hzs' : v.cells.size = i.size := by rw [hsz, ← hzs]; exact Array.length_toList.symm
          have hcells : madeCells v.cells (n.toNat * i.size) = (List.flatten (List.replicate n.toNat v.cells.toList)).toArray := by
            rw [← hzs']
            apply Array.ext'
            exact made_list v.cells (by rw [hzs', hsz]; exact nleaf_pos ty) n.toNat
          rw [hcells] at hrun
          have hnew := newRow_of R (isFree_of hb.2) (e := e) (t := ty) (xs := List.replicate n.toNat x) (Rows.replicate x _ h1 n.toNat) (by rw [List.length_replicate]; simp only [maxLen]; omega)
          rw [List.length_replicate] at hnew
          exact ⟨_, _, hrun, hnew⟩
      · cases h
    · cases h
  · cases h

/-! ### Literals -/
theorem partsOf_of (R : WRel C I objs w) {sl : Nat → Val} {a : Act} (S : SRel C I objs w sl a) : ∀ {l : List (Nat × Operand)} {ps : List (Nat × AV)}, partsOf (evalO C.E sl) l = some ps →
    F2 (fun p q => p.1 = q.1 ∧ AVRep I (Dom objs) w (badOf C I objs) p.2 q.2) ps (l.map fun p => (p.1, a.eval p.2))
  | [], ps, h => by simp [partsOf] at h; subst h; trivial
  | (i, x) :: r, ps, h => by
    simp only [partsOf] at h
    split at h
    · rename_i av l hx hl
      obtain rfl := Option.some.inj h
      refine ⟨⟨rfl, ?_⟩, partsOf_of R S hl⟩
      have he := evalO_of R S x
      unfold avOfVal at hx
      split at hx
      · rename_i a' ha
        obtain rfl := Option.some.inj hx
        rw [ha] at he
        exact he
      · cases hx
    · cases h

theorem foldl_put (cs : List Value) (c : Array Value) (off : Nat) : ∀ (l : List Value) (k : Nat) (c : Array Value), off + k + l.length ≤ c.size →
    ((l.zipIdx k).foldl (fun cs (p : Value × Nat) => cs.setIfInBounds (off + p.2) p.1) c).toList = putN c.toList (off + k) l
  | [], k, c, h => by simp [putN_eq]
  | v :: l, k, c, h => by
    simp only [List.length_cons] at h
    rw [List.zipIdx_cons, List.foldl_cons, foldl_put cs c off l (k + 1) _ (by simp; omega)]
    apply List.ext_getElem?
    intro j
    have e1 : off + (k + 1) + l.length ≤ (c.setIfInBounds (off + k) v).toList.length := by
      have hc := @Array.length_toList _ (c.setIfInBounds (off + k) v)
      have hs := @Array.size_setIfInBounds _ c (off + k) v
      omega
    have e2 : off + k + (v :: l).length ≤ c.toList.length := by
      have hc := @Array.length_toList _ c
      simp only [List.length_cons]
      omega
    rw [putN_get e1, putN_get e2]
    simp only [List.length_cons]
    by_cases h1 : off + (k + 1) ≤ j ∧ j < off + (k + 1) + l.length
    · rw [if_pos h1, if_pos (by omega), show j - (off + k) = (j - (off + (k + 1))) + 1 by omega, List.getElem?_cons_succ]
    · rw [if_neg h1]
      by_cases h2 : j = off + k
      · subst h2
        rw [if_pos (by omega), Array.toList_setIfInBounds, List.getElem?_set_self (by have := @Array.length_toList _ c; omega)]
        simp
      · rw [if_neg (by omega)]
        rw [Array.toList_setIfInBounds, List.getElem?_set_ne (by omega)]

theorem fill_of {dom : Nat → Prop} {bad : Bad} {pl pl' : Nat → Option (Nat × Nat)} : ∀ {ps : List (Nat × AV)} {qs : List (Nat × Value)} {ls r : List Leaf} {c : Array Value}, fillN pl ps ls = some r →
    F2 (fun p q => p.1 = q.1 ∧ AVRep I dom w bad p.2 q.2) ps qs → F2 (LRep I dom w bad) ls c.toList → (∀ i x, pl i = some x → pl' i = some x) → ∃ c', Instr.fill pl' c qs = some c' ∧ F2 (LRep I dom w bad) r c'.toList ∧ c'.size = c.size
  | [], [], ls, r, c, h, _, hf, _ => by simp [fillN] at h; subst h; exact ⟨c, rfl, hf, rfl⟩
  | [], _ :: _, _, _, _, _, h, _, _ => h.elim
  | _ :: _, [], _, _, _, _, h, _, _ => h.elim
  | (i, av) :: ps, (j, v) :: qs, ls, r, c, h, ⟨⟨hij, hav⟩, hps⟩, hf, hpl => by
    simp only at hij hav
    subst hij
    simp only [fillN] at h
    split at h
    · rename_i off size hp
      cases hb : Nat.beq (List.length (avLeaves av)) size with
      | false => rw [hb] at h; cases h
      | true =>
        rw [hb] at h
        simp only [cond_true] at h
        have hsz := Nat.eq_of_beq_eq_true hb
        split at h
        · rename_i cc hcut
          obtain ⟨_, hcl, hle⟩ := cutN_of hcut
          have hfa := avLeaves_of hav
          have hla := hfa.length
          have hlc := hf.length
          have hvs : v.cells.toList.length = v.cells.size := by simp
          have hcs : c.toList.length = c.size := by simp
          have hpos : off + v.cells.size ≤ c.size := by omega
          have hput := foldl_put [] c off v.cells.toList 0 c (by omega)
          rw [Nat.add_zero] at hput
          have harr : (v.cells.zipIdx.foldl (fun cs (p : Value × Nat) => cs.setIfInBounds (off + p.2) p.1) c).toList = putN c.toList off v.cells.toList := by
            rw [← hput]
            rw [← Array.foldl_toList]
            simp
          obtain ⟨c', h1, h2, h3⟩ := fill_of (c := v.cells.zipIdx.foldl (fun cs (p : Value × Nat) => cs.setIfInBounds (off + p.2) p.1) c) h hps (by rw [harr]; exact hf.put off hfa) hpl
          refine ⟨c', ?_, h2, ?_⟩
          · simp only [Instr.fill, hpl i _ hp]
            rw [if_neg (by simp; omega)]
            exact h1
          · rw [h3, ← Array.length_toList, harr, putN_length (by omega)]
            simp
        · cases h
    · cases h

theorem place_struct {P : Program} {fs : Array Field} : ∀ (w : World), (∀ f ∈ fs.toList, ∃ i, P.info? f.type = some i) →
    (fs.mapM fun f => do pure (f.offset, ← sizeOf f.type) : Sem (Array (Nat × Nat))).run P w = .ok (fs.map fun f => (f.offset, P.cellsOf f.type)) w := by
  intro w h
  rw [← Array.toArray_toList (xs := fs), List.mapM_toArray]
  have : ∀ l : List Field, (∀ f ∈ l, ∃ i, P.info? f.type = some i) → (l.mapM fun f => do pure (f.offset, ← sizeOf f.type) : Sem (List (Nat × Nat))).run P w = .ok (l.map fun f => (f.offset, P.cellsOf f.type)) w := by
    intro l
    induction l with
    | nil => intro _; rfl
    | cons f l ih =>
      intro h
      obtain ⟨i, hi⟩ := h f (by simp)
      have hc := cellsOf_info hi
      rw [List.mapM_cons]
      simp only [Sem.run_bind, sizeOf_run hi, Result.andThen_ok, Sem.run_pure]
      rw [ih (fun g hg => h g (by simp [hg]))]
      simp [hc]
  rw [Sem.run_map, this fs.toList h]
  simp only [Result.andThen_ok]
  congr 1
  exact Array.ext' (by simp)

theorem getL_eq {α : Type} : ∀ (l : List α) (i : Nat), getL l i = l[i]?
  | [], i => by simp [getL]
  | x :: r, 0 => by simp [getL]
  | x :: r, i + 1 => by simp [getL, getL_eq r i]

theorem buildAv_of (R : WRel C I objs w) {sl : Nat → Val} {a : Act} (S : SRel C I objs w sl a) {t : TypeId} {parts : List (Nat × Operand)} {av : AV} (h : buildAv C.E.P (evalO C.E sl) t parts = some av) :
    ∃ y, (Instr.build t (parts.toArray.map fun (i, x) => (i, a.eval x))).run C.E.P w = .ok y w ∧ AVRep I (Dom objs) w (badOf C I objs) av y := by
  unfold buildAv at h
  split at h
  · rename_i z ps hz hps
    unfold zeroLeaves at hz
    split at hz
    · rename_i zd hzd
      obtain rfl := Option.some.inj hz
      obtain ⟨i, v, hi, hv, rfl, hall⟩ := zeroD_of hzd
      have hzf : F2 (LRep I (Dom objs) w (badOf C I objs)) (List.map Leaf.d (List.map DLeaf.v v.cells.toList)) v.cells.toList := (F2.valsD _ hall).toD
      have hpf := partsOf_of R S hps
      have hzero : (zeroValue t).run C.E.P w = .ok v w := by simp [zeroValue, typeInfo, hi, hv]
      have hlist : (parts.toArray.map fun (i, x) => (i, a.eval x)).toList = parts.map fun p => (p.1, a.eval p.2) := by simp
      split at h
      · rename_i fs hu
        cases hfi : fs.toList.all fun f => (C.E.P.info? f.type).isSome with
        | false => rw [hfi] at h; cases h
        | true =>
        rw [hfi] at h
        simp only [cond_true] at h
        cases hf : fillN (fun i => (fieldPl C.E.P t i).map fun p => (p.1, p.2.1)) ps (List.map Leaf.d (List.map DLeaf.v v.cells.toList)) with
        | none => rw [hf] at h; cases h
        | some r =>
          rw [hf] at h
          obtain rfl := Option.some.inj h
          have hinfo : ∀ f ∈ fs.toList, ∃ i, C.E.P.info? f.type = some i := fun f hf => Option.isSome_iff_exists.1 (List.all_eq_true.1 hfi f hf)
          obtain ⟨c', h1, h2, h3⟩ := fill_of (pl' := fun i => (fs.map fun f => (f.offset, C.E.P.cellsOf f.type))[i]?) hf hpf hzf (fun i x hx => by
            cases hfp : fieldPl C.E.P t i with
            | none => rw [hfp] at hx; cases hx
            | some q =>
              rw [hfp] at hx
              obtain ⟨off, n, ft⟩ := q
              obtain ⟨fs', g, hu', hg, rfl, rfl, rfl⟩ := fieldPl_of hfp
              rw [hu] at hu'
              cases hu'
              rw [← Option.some.inj hx, Array.getElem?_map, hg]
              rfl)
          refine ⟨.agg c', ?_, ?_⟩
          · unfold Instr.build
            simp only [Sem.run_bind, hzero, Result.andThen_ok, run_underlying hu]
            rw [place_struct w hinfo]
            simp only [Result.andThen_ok, hlist, h1, Sem.run_pure]
          · exact ⟨c'.toList, by simp, h2⟩
      · rename_i n e hu
        cases hie : (C.E.P.info? e).isSome with
        | false => rw [hie] at h; cases h
        | true =>
        rw [hie] at h
        simp only [cond_true] at h
        obtain ⟨ie, hie'⟩ := Option.isSome_iff_exists.1 hie
        have hce := cellsOf_info hie'
        cases hf : fillN (fun i => some (i * C.E.P.cellsOf e, C.E.P.cellsOf e)) ps (List.map Leaf.d (List.map DLeaf.v v.cells.toList)) with
        | none => rw [hf] at h; cases h
        | some r =>
          rw [hf] at h
          obtain rfl := Option.some.inj h
          obtain ⟨c', h1, h2, h3⟩ := fill_of (pl' := fun i => some (i * ie.size, ie.size)) hf hpf hzf (fun i x hx => by rw [← hce]; exact hx)
          refine ⟨.agg c', ?_, c'.toList, by simp, h2⟩
          unfold Instr.build
          simp only [Sem.run_bind, hzero, Result.andThen_ok, run_underlying hu, sizeOf_run hie', hlist, h1, Sem.run_pure]
      · cases h
    · cases hz
  · cases h

end
end Go.Abs

/- Slice literals; cuts of slices; len, min, max; elements of array values. -/
namespace Go.Abs
open Go

section
variable {C : Ctx} {I : Interp} {objs : Nat → Option Obj} {w : World}

theorem rep_of {α β : Type} {R : α → β → Prop} {l : List α} {m : List β} (h : F2 R l m) : ∀ n, F2 R (repN l n) (List.flatten (List.replicate n m))
  | 0 => trivial
  | n + 1 => by
    rw [List.replicate_succ, List.flatten_cons]
    exact h.append (rep_of h n)

theorem froz_none {objs objs1 : Nat → Option Obj} (h : Froz objs objs1) {i : Nat} (hi : objs i = none) : objs1 i = none := by
  rcases h i with h1 | ⟨e, t, xs, h1, _⟩
  · rw [h1]; exact hi
  · rw [hi] at h1; cases h1

theorem litOut_of (R : WRel C I objs w) {sl : Nat → Val} {a : Act} (S : SRel C I objs w sl a) {fr : Nat} {t : TypeId} {len : Nat} {parts : List (Nat × Operand)} {out : Out} (h : litOut objs C.E (evalO C.E sl) fr t len parts = some out) :
    ∃ y w', (Instr.buildSlice t len (parts.toArray.map fun (i, x) => (i, a.eval x))).run C.E.P w = .ok y w' ∧ StepOk C I objs w out.val out.wr y w' := by
  unfold litOut at h
  split at h
  · rename_i e hu
    split at h
    · rename_i ty z ps hty hz hps
      cases hb : (Nat.beq (nleaf ty) (C.E.P.cellsOf e) && zeroFits C.E.P e && Nat.ble (len * C.E.P.cellsOf e) 16777216) with
      | false => rw [hb] at h; cases h
      | true =>
        rw [hb] at h
        simp only [Bool.and_eq_true] at hb
        simp only [cond_true] at h
        have hn := Nat.eq_of_beq_eq_true hb.1.1
        obtain ⟨i0, v0, hi0, hv0, hzs0⟩ := zeroFits_of hb.1.2
        have hpos : 1 ≤ C.E.P.cellsOf e := by rw [← hn]; exact nleaf_pos ty
        have hmax := Nat.le_of_ble_eq_true hb.2
        unfold zeroLeaves at hz
        split at hz
        · rename_i zd hzd
          obtain rfl := Option.some.inj hz
          obtain ⟨i, v, hi, hv, rfl, hall⟩ := zeroD_of hzd
          have hsz := cellsOf_info hi
          have hzf : F2 (LRep I (Dom objs) w (badOf C I objs)) (List.map Leaf.d (List.map DLeaf.v v.cells.toList)) v.cells.toList := (F2.valsD _ hall).toD
          split at h
          · rename_i ls hfill
            split at h
            · rename_i ds rs hds
              split at h
              · rename_i xs hxs
                cases hfr : isFree objs fr with
                | false => rw [hfr] at h; cases h
                | true =>
                  rw [hfr] at h
                  simp only [cond_true, Option.some.injEq] at h
                  subst h
                  have hlist : (parts.toArray.map fun (i, x) => (i, a.eval x)).toList = parts.map fun p => (p.1, a.eval p.2) := by simp
                  have hrep := rep_of hzf len
                  obtain ⟨c', h1, h2, h3⟩ := fill_of (c := (List.flatten (List.replicate len v.cells.toList)).toArray) (pl' := fun i' => some (i' * i.size, i.size)) hfill (partsOf_of R S hps) (by simpa using hrep) (fun j x hx => by rw [← hsz]; exact hx)
                  obtain ⟨hF, R1, K1, hz1, hz2⟩ := freezes_self R rs
                  have hfd := dOfs_of R1 K1 hF hds hz1 h2
                  obtain ⟨hrow, hlen⟩ := elemsOf_of ty len ds xs _ hxs hfd
                  have hnew := newRow_of R1 (fr := fr) (froz_none hF (isFree_of hfr)) (e := e) hrow (by
                    simp only [maxLen]
                    have : len * 1 ≤ len * C.E.P.cellsOf e := Nat.mul_le_mul_left _ hpos
                    omega)
                  rw [hlen] at hnew
                  refine ⟨_, _, ?_, hnew.after rfl K1⟩
                  have hzl : v.cells.size = i.size := by
                    rw [hi0] at hi
                    cases hi
                    rw [hv0] at hv
                    cases hv
                    exact hzs0
                  have he : c'.toList.toArray = c' := by simp
                  rw [he]
                  rw [hsz] at hmax
                  unfold Instr.buildSlice
                  simp only [Sem.run_bind, run_underlying hu, Result.andThen_ok, sizeOf_run hi, Sem.run_ite]
                  rw [if_neg (by omega)]
                  by_cases h0 : len * i.size = 0
                  · have hl0 : len = 0 := by
                      rcases Nat.eq_zero_or_pos len with h | h
                      · exact h
                      · have := Nat.mul_pos h (show 0 < i.size by omega); omega
                    subst hl0
                    have hm : ((Array.range (0 * i.size)).map ((#[] : Array Value)[· % (#[] : Array Value).size]!)) = (List.flatten (List.replicate 0 v.cells.toList)).toArray := by simp
                    rw [if_pos h0]
                    simp only [Sem.run_pure, Result.andThen_ok, hlist, hm, h1]
                    rfl
                  · have hm : (Array.range (len * i.size)).map (v.cells[· % v.cells.size]!) = (List.flatten (List.replicate len v.cells.toList)).toArray := by
                      apply Array.ext'
                      rw [← hzl]
                      exact made_list v.cells (by omega) len
                    rw [if_neg h0]
                    have hzv : (zeroValue e).run C.E.P w = .ok v w := by simp [zeroValue, typeInfo, hi, hv]
                    simp only [Sem.run_pure, Sem.run_bind, Result.andThen_ok, hzv, hlist, hm, h1]
                    rfl
              · cases h
            · cases h
          · cases h
        · cases hz
    · cases h
  · cases h

/-- A box of data from now on stays as it is. -/
theorem dLeaves_of {dom : Nat → Prop} {bad : Bad} : ∀ {ls : List Leaf} {ds : List DLeaf} {vs : List Value}, dLeaves ls = some ds → F2 (LRep I dom w bad) ls vs → F2 (DRep w bad) ds vs ∧ ds.length = ls.length
  | [], ds, [], h, _ => by simp [dLeaves] at h; subst h; exact ⟨trivial, rfl⟩
  | [], ds, _ :: _, h, hf => hf.elim
  | l :: ls, ds, [], h, hf => hf.elim
  | .d x :: ls, ds, v :: vs, h, hf => by
    simp only [dLeaves] at h
    split at h
    · rename_i l hl
      obtain rfl := Option.some.inj h
      obtain ⟨h1, h2⟩ := dLeaves_of hl hf.2
      exact ⟨⟨hf.1, h1⟩, by simp [h2]⟩
    · cases h
  | .own _ :: _, _, _ :: _, h, _ => by simp [dLeaves] at h
  | .bp _ _ :: _, _, _ :: _, h, _ => by simp [dLeaves] at h
  | .ep _ _ _ :: _, _, _ :: _, h, _ => by simp [dLeaves] at h
  | .dp _ :: _, _, _ :: _, h, _ => by simp [dLeaves] at h
  | .fn _ _ :: _, _, _ :: _, h, _ => by simp [dLeaves] at h

theorem freezeBox (R : WRel C I objs w) {b : Nat} {ls : List Leaf} {ds : List DLeaf} (h : objs b = some (.box ls)) (hds : dLeaves ls = some ds) :
    WRel C I (upd objs b (some (.fbox ds))) w ∧ Keep I (Dom objs) w (badOf C I objs) I (Dom (upd objs b (some (.fbox ds)))) w (badOf C I (upd objs b (some (.fbox ds)))) := by
  refine R.upd (fun _ _ => False) (fun id => id = b) (Fr.refl _ _) (fun _ _ h => h.elim) (fun _ _ => ⟨rfl, rfl⟩) (fun id hd => dom_upd hd) (fun id h => upd_other _ _ _ _ h) ?_ (fun id id' _ _ _ _ h h' _ _ _ _ => h.trans h'.symm) ?_
  · intro id ob' hc ho g o hcell
    subst hc
    rw [upd_same] at ho
    obtain rfl := Option.some.inj ho
    exact hcell.elim
  · intro K id ob' hc ho
    subst hc
    rw [upd_same] at ho
    obtain rfl := Option.some.inj ho
    obtain ⟨hpos, g, o, c, e, vs, hv, hh, hf, hcell⟩ := R.ok id _ h
    obtain ⟨hfd, hlen⟩ := dLeaves_of hds (hf.imp K.lrep)
    have hlv := hf.length
    refine ⟨g, o, vs, hv, hfd, fun i v hi => ⟨?_, ?_⟩⟩
    · rw [addr_add]
      exact cell_of hh (hcell i v hi)
    · rw [addr_add]
      intro hbad
      have hil : i < ls.length := by rw [hlv]; exact (List.getElem?_eq_some_iff.1 hi).1
      have hcl : cellsOf I id (.box ls) g (o + i) := ⟨o, hv, by omega, by omega⟩
      rcases hbad with hb1 | ⟨id2, ob2, h2, h3⟩
      · exact R.noban g (o + i) ⟨id, _, h, hcl⟩ hb1
      · by_cases e2 : id2 = id
        · subst e2
          rw [upd_same] at h2
          obtain rfl := Option.some.inj h2
          exact h3
        · rw [upd_other _ _ _ _ e2] at h2
          exact e2 (R.disj id2 id ob2 _ g _ h2 h h3 hcl)

theorem arrayOf_run (P : Program) (w : World) {t e : TypeId} {n : Nat} (h : arrayOf P t = some (n, e)) {i : TypeInfo} (hi : P.info? e = some i) (a : Addr) {l hh : Nat} {lo hi' : Option Value} (hb : (Instr.sliceBounds false n n lo hi' none).run P w = .ok (l, hh, n) w) :
    (Instr.sliceAt t (.pointer (some a)) lo hi' none).run P w = .ok (.slice (if n = l then some a else (some a).map (·.add (l * i.size))) (hh - l) (n - l)) w := by
  have hif : (some (if n = l then a else a.add (l * i.size)) : Option Addr) = if n = l then some a else (some a).map (·.add (l * i.size)) := by
    split <;> rfl
  unfold arrayOf at h
  split at h
  · rename_i n' e' hu
    simp only [Option.some.injEq, Prod.mk.injEq] at h
    obtain ⟨rfl, rfl⟩ := h
    simp only [Instr.sliceAt, Sem.run_bind, run_underlying hu, Result.andThen_ok, Instr.sureAddr, Sem.run_pure, hb, sizeOf_run hi, hif]
  · rename_i ar hu
    split at h
    · rename_i n' e' hu2
      simp only [Option.some.injEq, Prod.mk.injEq] at h
      obtain ⟨rfl, rfl⟩ := h
      simp only [Instr.sliceAt, Sem.run_bind, run_underlying hu, Result.andThen_ok, Instr.slice, asAddr, Sem.run_pure, run_underlying hu2, hb, sizeOf_run hi, hif]
    · cases h
  · cases h

theorem isStrT_of {P : Program} {t : TypeId} (h : isStrT P t = true) : P.underlying t = some .string := by
  unfold isStrT at h
  split at h
  · assumption
  · cases h

theorem bif_true {α : Type} {b : Bool} {e : Eff α} {r : α} (h : (bif b then e else Eff.fail).den = some r) : b = true ∧ e.den = some r := by
  cases b
  · cases h
  · exact ⟨rfl, h⟩

theorem sliceOut_of (R : WRel C I objs w) {t : TypeId} {x : Val} {lo hi : Option Int} {vlo vhi : Option Value} {out : Out} {u : Value} (h : (sliceOut objs C.E t x lo hi).den = some out) (hlo : BoundIs vlo lo) (hhi : BoundIs vhi hi) (hx : VRep I (Dom objs) w (badOf C I objs) x u) :
    ∃ y, (Instr.sliceAt t u vlo vhi none).run C.E.P w = .ok y w ∧ StepOk C I objs w out.val out.wr y w := by
  unfold sliceOut at h
  split at h
  · rename_i s
    obtain ⟨hs, h⟩ := bif_true h
    obtain ⟨he, l, hh, hlh, hhn, h1, h2, h3, h4⟩ := cutGrd_of h
    simp only [Eff.den, Option.some.injEq] at he
    subst he
    have hu : u = .string s := hx.1
    subst hu
    have hb := bounds_run C.E.P w (isS := false) (n := s.size) (cap := s.size) hlo hhi hlh hhn (Nat.le_refl _) h1 h2 h3 h4
    refine ⟨_, sliceStr_run C.E.P w (isStrT_of hs) hb, StepOk.pure R ?_⟩
    have hc : cutStr s lo hi = s.extract l hh := by
      unfold cutStr
      congr 1
      · cases lo with
        | none => exact (h1 rfl).symm
        | some x => exact (h2 x rfl).2
      · cases hi with
        | none => exact (h3 rfl).symm
        | some x => exact (h4 x rfl).2
    rw [hc]
    exact ⟨rfl, rfl⟩
  · rename_i ty xs
    obtain ⟨hf, h⟩ := bif_true h
    obtain ⟨he, y, hy, hr⟩ := sliceDat_of (C := C) (I := I) (dom := Dom objs) hx hf h hlo hhi
    simp only [Eff.den, Option.some.injEq] at he
    subst he
    exact ⟨y, hy, StepOk.pure R hr⟩
  · rename_i r
    split at h
    · rename_i e ty xs hr
      obtain ⟨hf, h⟩ := bif_true h
      obtain ⟨R1, K1⟩ := freeze1 R hr
      have hfo := (R1.ok r _ (upd_same _ _ _)).2
      rw [← hx.2.1] at hfo
      obtain ⟨he, y, hy, hr'⟩ := sliceDat_of (C := C) (I := I) (dom := Dom (upd objs r (some (.frow ty xs)))) hfo hf h hlo hhi
      simp only [Eff.den, Option.some.injEq] at he
      subst he
      exact ⟨y, hy, I, R1, K1, hr'⟩
    · rename_i ty xs hr
      obtain ⟨hf, h⟩ := bif_true h
      have hfo := (R.ok r _ hr).2
      rw [← hx.2.1] at hfo
      obtain ⟨he, y, hy, hr'⟩ := sliceDat_of (C := C) (I := I) (dom := Dom objs) hfo hf h hlo hhi
      simp only [Eff.den, Option.some.injEq] at he
      subst he
      exact ⟨y, hy, StepOk.pure R hr'⟩
    · cases h
  · rename_i b
    split at h
    · rename_i n e ha
      split at h
      · rename_i ty ls hty hb
        split at h
        · rename_i ds hds
          split at h
          · rename_i xs hxs
            obtain ⟨hn, h⟩ := bif_true h
            obtain ⟨he, l, hh, hlh, hhn, h1, h2, h3, h4⟩ := cutGrd_of h
            simp only [Eff.den, Option.some.injEq] at he
            subst he
            obtain ⟨R1, K1⟩ := freezeBox R hb hds
            obtain ⟨g, o, vs, hv, hfd, hrow⟩ := R1.ok b _ (upd_same _ _ _)
            obtain ⟨hd, g', o', hv', hu⟩ := hx
            rw [hv] at hv'
            injection hv' with hv'; injection hv' with hv'; injection hv' with hg ho
            subst hg; subst ho
            subst hu
            obtain ⟨hrows, hlen⟩ := elemsOf_of ty n ds xs vs hxs hfd
            obtain ⟨i, hi', hsz⟩ := info_of_size (Nat.eq_of_beq_eq_true hn)
            have hbd := bounds_run C.E.P w (isS := false) (n := n) (cap := n) hlo hhi hlh hhn (Nat.le_refl _) h1 h2 h3 h4
            refine ⟨_, arrayOf_run C.E.P w ha hi' ⟨g, o + 0, none⟩ hbd, I, R1, K1, ?_⟩
            have hdat : CellsOk w (badOf C I (upd objs b (some (.fbox ds)))) (.slc ty) xs [.slice (some ⟨g, o, none⟩) xs.length n] := ⟨_, _, vs, rfl, by omega, hrows, .inr ⟨_, rfl, hrow⟩⟩
            have hcut := cutData hdat (l := l) (h := hh) hlh (by omega)
            rw [hsz]
            show CellsOk _ _ _ _ _
            rw [cutList_eq (by omega) h1 h2 (fun e => by rw [hlen]; exact h3 e) h4]
            exact hcut
          · cases h
        · cases h
      · cases h
    · cases h
  · rename_i cs
    split at h
    · rename_i n e ha
      split at h
      · rename_i ty hty
        split at h
        · rename_i xs hxs
          obtain ⟨hn, h⟩ := bif_true h
          obtain ⟨he, l, hh, hlh, hhn, h1, h2, h3, h4⟩ := cutGrd_of h
          simp only [Eff.den, Option.some.injEq] at he
          subst he
          obtain ⟨a, vs, rfl, hfd, hrow⟩ := hx
          obtain ⟨hrows, hlen⟩ := elemsOf_of ty n _ xs _ hxs (hfd.take (n * nleaf ty))
          obtain ⟨i, hi', hsz⟩ := info_of_size (Nat.eq_of_beq_eq_true hn)
          have hbd := bounds_run C.E.P w (isS := false) (n := n) (cap := n) hlo hhi hlh hhn (Nat.le_refl _) h1 h2 h3 h4
          refine ⟨_, arrayOf_run C.E.P w ha hi' a hbd, StepOk.pure R ?_⟩
          have hdat : CellsOk w (badOf C I objs) (.slc ty) xs [.slice (some a) xs.length n] := ⟨_, _, _, rfl, by omega, hrows, .inr ⟨_, rfl, hrow.take _⟩⟩
          have hcut := cutData hdat (l := l) (h := hh) hlh (by omega)
          rw [hsz]
          show CellsOk _ _ _ _ _
          rw [cutList_eq (by omega) h1 h2 (fun e => by rw [hlen]; exact h3 e) h4]
          exact hcut
        · cases h
      · cases h
    · cases h
  · cases h

end
end Go.Abs

/- len, min, max; parts of structs and arrays; '==' of structs; conversions. -/
namespace Go.Abs
open Go

section
variable {C : Ctx} {I : Interp} {objs : Nat → Option Obj} {w : World}

theorem sliceLen_of (R : WRel C I objs w) {x : Leaf} {n : Nat} {rs : List Nat} {u : Value} (h : sliceLen objs x = some (n, rs)) (hx : LRep I (Dom objs) w (badOf C I objs) x u) : ∃ A c, u = .slice A n c := by
  unfold sliceLen at h
  split at h
  · rename_i v
    cases hb : isNilSlice v with
    | false => rw [hb] at h; cases h
    | true =>
      rw [hb] at h
      simp at h
      refine ⟨none, 0, ?_⟩
      rw [hx.1, isNil_of hb, ← h.1]
  · simp at h
    obtain ⟨A, c, es, e, _⟩ := hx
    simp at e
    exact ⟨A, c, by rw [e, h.1]⟩
  · rename_i r
    split at h
    · rename_i e t xs hr
      simp at h
      obtain ⟨_, cells, _, ho⟩ := R.ok r _ hr
      rcases ownsRow_shape ho with ⟨A, h1, h2⟩ | ⟨g, b, c, h1, _⟩
      · exact ⟨A, 0, by rw [hx.2.1, h1, ← h.1, h2]⟩
      · exact ⟨_, c, by rw [hx.2.1, h1, ← h.1]⟩
    · rename_i t xs hr
      simp at h
      obtain ⟨A, c, es, e, _⟩ := (R.ok r _ hr).2
      simp at e
      exact ⟨A, c, by rw [hx.2.1, e, h.1]⟩
    · cases h
  · cases h

theorem lenOut_of (R : WRel C I objs w) {t rt : TypeId} {ts : List TypeId} {x : Val} {out : Out} {u : Value} (h : lenOut objs C.E.P t x = some out) (hx : VRep I (Dom objs) w (badOf C I objs) x u) :
    ∃ y, (Builtin.len_ (t :: ts).toArray rt #[u]).run C.E.P w = .ok y w ∧ StepOk C I objs w out.val out.wr y w := by
  unfold lenOut at h
  split at h
  · rename_i hu
    split at h
    · rename_i s
      obtain rfl := Option.some.inj h
      have hu' : u = .string s := hx.1
      subst hu'
      exact ⟨_, by simp [Builtin.len_, run_underlying hu, goInt], StepOk.pure R ⟨rfl, rfl⟩⟩
    · cases h
  · rename_i n e hu
    obtain rfl := Option.some.inj h
    exact ⟨_, by simp [Builtin.len_, run_underlying hu, goInt], StepOk.pure R ⟨rfl, rfl⟩⟩
  · rename_i e hu
    split at h
    · rename_i l
      split at h
      · rename_i n rs hl
        obtain rfl := Option.some.inj h
        obtain ⟨A, c, rfl⟩ := sliceLen_of R hl hx
        exact ⟨_, by simp [Builtin.len_, run_underlying hu, goInt], StepOk.pure R ⟨rfl, rfl⟩⟩
      · cases h
    · cases h
  · cases h

theorem foldV_max {P : Program} {dom : Nat → Prop} {bad : Bad} : ∀ {xs : List Val} {us : List Value} {x v : Value}, foldV maxV x xs = some v → F2 (VRep I dom w bad) xs us → x.oneCell' = true → (us.foldlM Builtin.max2 x).run P w = .ok v w ∧ v.oneCell' = true
  | [], [], x, v, h, _, h1 => by simp [foldV] at h; subst h; exact ⟨rfl, h1⟩
  | [], _ :: _, _, _, _, h, _ => h.elim
  | _ :: _, [], _, _, _, h, _ => h.elim
  | a :: xs, u :: us, x, v, h, hf, h1 => by
    unfold foldV at h
    split at h
    · rename_i heq
      cases heq
    · rename_i y r heq
      simp only [List.cons.injEq] at heq
      obtain ⟨rfl, rfl⟩ := heq
      split at h
      · rename_i z hz
        have hu : u = y := hf.1.1
        subst hu
        unfold maxV at hz
        split at hz
        · rename_i k a k' b
          obtain rfl := Option.some.inj hz
          obtain ⟨h2, h3⟩ := foldV_max (P := P) h hf.2 rfl
          refine ⟨?_, h3⟩
          rw [List.foldlM_cons, Sem.run_bind]
          have : (Builtin.max2 (.int k a) (.int k' b)).run P w = .ok (.int k (bif decide (b > a) then b else a)) w := by
            simp only [Builtin.max2, Sem.run_pure]
            congr 2
            by_cases hb : b > a <;> simp [hb]
          rw [this]
          exact h2
        · cases hz
      · cases h
    · cases h
theorem foldV_min {P : Program} {dom : Nat → Prop} {bad : Bad} : ∀ {xs : List Val} {us : List Value} {x v : Value}, foldV minV x xs = some v → F2 (VRep I dom w bad) xs us → x.oneCell' = true → (us.foldlM Builtin.min2 x).run P w = .ok v w ∧ v.oneCell' = true
  | [], [], x, v, h, _, h1 => by simp [foldV] at h; subst h; exact ⟨rfl, h1⟩
  | [], _ :: _, _, _, _, h, _ => h.elim
  | _ :: _, [], _, _, _, h, _ => h.elim
  | a :: xs, u :: us, x, v, h, hf, h1 => by
    unfold foldV at h
    split at h
    · rename_i heq
      cases heq
    · rename_i y r heq
      simp only [List.cons.injEq] at heq
      obtain ⟨rfl, rfl⟩ := heq
      split at h
      · rename_i z hz
        have hu : u = y := hf.1.1
        subst hu
        unfold minV at hz
        split at hz
        · rename_i k a k' b
          obtain rfl := Option.some.inj hz
          obtain ⟨h2, h3⟩ := foldV_min (P := P) h hf.2 rfl
          refine ⟨?_, h3⟩
          rw [List.foldlM_cons, Sem.run_bind]
          have : (Builtin.min2 (.int k a) (.int k' b)).run P w = .ok (.int k (bif decide (b < a) then b else a)) w := by
            simp only [Builtin.min2, Sem.run_pure]
            congr 2
            by_cases hb : b < a <;> simp [hb]
          rw [this]
          exact h2
        · cases hz
      · cases h
    · cases h

/-! ### Parts -/
theorem part_run {dom : Nat → Prop} {bad : Bad} {P : Program} {t : TypeId} {ls c : List Leaf} {cs : List Value} {off : Nat} {av : AV} (hu : (P.underlying t).isSome = true) (hcut : cutN ls off (P.cellsOf t) = some c) (hv : asVal (isAggT P t) c = some av) (hf : F2 (LRep I dom w bad) ls cs) :
    ∃ y, (part t cs.toArray off).run P w = .ok y w ∧ AVRep I dom w bad av y := by
  obtain ⟨i, hi⟩ := info_of_underlying hu
  obtain ⟨rfl, hcl, hle⟩ := cutN_of hcut
  have hlen := hf.length
  have hf' := (hf.drop off).take (P.cellsOf t)
  have hav := asVal_of hv hf'
  unfold part
  rw [Sem.run_bind, isAgg_run P w t hu]
  simp only [Result.andThen_ok]
  cases hg : isAggT P t with
  | true =>
    rw [hg] at hav
    refine ⟨_, ?_, hav⟩
    simp only [if_true, Sem.run_bind, sizeOf_run hi, Result.andThen_ok, Sem.run_pure]
    congr 2
    rw [cellsOf_info hi]
    simp
  | false =>
    rw [hg] at hav hv
    unfold asVal at hv
    split at hv
    · rename_i hh; cases hh
    · rename_i l hh heq
      have h1 : P.cellsOf t = 1 := by rw [← hcl, heq]; rfl
      refine ⟨_, ?_, hav⟩
      have hlt : off < cs.length := by omega
      simp only [Bool.false_eq_true, if_false]
      rw [List.getElem?_toArray, List.getElem?_eq_getElem hlt]
      simp only [Sem.run_pure]
      congr 1
      rw [h1]
      simp [List.getD, List.getElem?_take, hlt]
    · cases hv

theorem strsOf_of {bad : Bad} : ∀ {ds : List DLeaf} {ns : List ByteArray} {vs : List Value}, strsOf ds = some ns → F2 (DRep w bad) ds vs → vs = ns.map (.string ·)
  | [], ns, [], h, _ => by simp [strsOf] at h; subst h; rfl
  | [], ns, _ :: _, _, hf => hf.elim
  | d :: ds, ns, [], _, hf => hf.elim
  | .dat _ _ :: ds, ns, _ :: _, h, _ => by simp [strsOf] at h
  | .v x :: ds, ns, v :: vs, h, hf => by
    cases x <;> try (simp [strsOf] at h; done)
    rename_i s
    simp only [strsOf] at h
    split at h
    · rename_i l hl
      obtain rfl := Option.some.inj h
      rw [strsOf_of hl hf.2, hf.1.1]
      rfl
    · cases h

theorem indexV_of (R : WRel C I objs w) {t : TypeId} {x : Val} {n : Int} {out : Out} {u : Value} {k : IntKind} (h : (indexV C.E.P t x n).den = some out) (hx : VRep I (Dom objs) w (badOf C I objs) x u) :
    ∃ y, (Instr.index t u (.int k n)).run C.E.P w = .ok y w ∧ StepOk C I objs w out.val out.wr y w := by
  unfold indexV at h
  split at h
  · rename_i s
    obtain ⟨hs, h⟩ := bif_true h
    obtain ⟨h0, h⟩ := grd_of h
    obtain ⟨h1, h⟩ := grd_of h
    simp only [Eff.den, Option.some.injEq] at h
    subst h
    have hu : u = .string s := hx.1
    subst hu
    have h0' := of_decide_eq_true h0
    have h1' := of_decide_eq_true h1
    have hlt : n.toNat < s.size := by omega
    refine ⟨_, ?_, StepOk.pure R ⟨rfl, rfl⟩⟩
    have hlt' : n.toNat < s.data.size := hlt
    simp only [Instr.index, Sem.run_bind, asIntOf, Sem.run_pure, Result.andThen_ok, run_underlying (isStrT_of hs), if_pos h0']
    have : s[n.toNat]? = some s[n.toNat] := by simp [hlt]
    rw [this]
    simp only [Sem.run_pure, btI]
    congr 3
    simp [Array.getD, hlt']
    rw [dif_pos hlt]
    rfl
  · rename_i ls
    obtain ⟨cs, rfl, hf⟩ := hx
    split at h
    · rename_i m e he
      obtain ⟨hu, i, hi, hsz⟩ := arrElem_of he
      have sel : (C.E.P.underlying e).isSome = true → (selE n (fun j => match cutN ls (j * C.E.P.cellsOf e) (C.E.P.cellsOf e) with
          | some c => (asVal (isAggT C.E.P e) c).map fun a => (⟨.one a, [], []⟩ : Out)
          | none => none) 0 m).den = some out → ∃ y, (Instr.index t (.agg cs.toArray) (.int k n)).run C.E.P w = .ok y w ∧ StepOk C I objs w out.val out.wr y w := by
        intro hue h
        obtain ⟨j, _, hj, rfl, hs⟩ := selE_of h
        split at hs
        · rename_i c hcut
          cases hav : asVal (isAggT C.E.P e) c with
          | none => rw [hav] at hs; cases hs
          | some av =>
            rw [hav] at hs
            obtain rfl := Option.some.inj hs
            obtain ⟨y, hy, hr⟩ := part_run (I := I) (dom := Dom objs) hue hcut hav hf
            refine ⟨y, ?_, StepOk.pure R hr⟩
            simp only [Instr.index, Sem.run_bind, asIntOf, Sem.run_pure, Result.andThen_ok, run_underlying hu]
            rw [if_pos (by omega)]
            simp only [Sem.run_bind, sizeOf_run hi, Result.andThen_ok, Int.toNat_natCast]
            rw [← hsz]
            exact hy
        · cases hs
      split at h
      · split at h
        · rename_i ds hds
          split at h
          · rename_i ss hss
            obtain ⟨hc, h⟩ := bif_true h
            simp only [Bool.and_eq_true] at hc
            obtain ⟨h0, h⟩ := grd_of h
            obtain ⟨h1, h⟩ := grd_of h
            simp only [Eff.den, Option.some.injEq] at h
            subst h
            have h0' := of_decide_eq_true h0
            have h1' := of_decide_eq_true h1
            have hs1 := Nat.eq_of_beq_eq_true hc.1.1.1
            have hs2 := Nat.eq_of_beq_eq_true hc.1.1.2
            have hng : isAggT C.E.P e = false := by simpa using hc.1.2
            obtain ⟨hfd, _⟩ := dLeaves_of hds hf
            have hv := strsOf_of hss hfd
            have hlt : n.toNat < ss.length := by omega
            have hget : cs[n.toNat]? = some (.string (ss.getD n.toNat ⟨#[]⟩)) := by
              rw [hv, List.getElem?_map, getD_of ⟨#[]⟩ hlt]
              rfl
            refine ⟨_, ?_, StepOk.pure R ⟨rfl, rfl⟩⟩
            simp only [Instr.index, Sem.run_bind, asIntOf, Sem.run_pure, Result.andThen_ok, run_underlying hu]
            rw [if_pos ⟨h0', h1'⟩]
            simp only [Sem.run_bind, sizeOf_run hi, Result.andThen_ok]
            unfold part
            rw [Sem.run_bind, isAgg_run C.E.P w e hc.2, hng, ← hsz, hs1, Nat.mul_one]
            simp only [Result.andThen_ok, Bool.false_eq_true, if_false]
            rw [List.getElem?_toArray, hget]
            rfl
          · cases h
        · cases h
      · rename_i k' z rest
        split at h
        · rename_i ds hds
          split at h
          · rename_i ns hns
            obtain ⟨hc, h⟩ := bif_true h
            simp only [Bool.and_eq_true] at hc
            obtain ⟨h0, h⟩ := grd_of h
            obtain ⟨h1, h⟩ := grd_of h
            simp only [Eff.den, Option.some.injEq] at h
            subst h
            have h0' := of_decide_eq_true h0
            have h1' := of_decide_eq_true h1
            have hs1 := Nat.eq_of_beq_eq_true hc.1.1.1
            have hs2 := Nat.eq_of_beq_eq_true hc.1.1.2
            have hng : isAggT C.E.P e = false := by simpa using hc.1.2
            obtain ⟨hfd, _⟩ := dLeaves_of hds hf
            have hv := intsOf_of hns hfd
            have hlt : n.toNat < ns.length := by omega
            have hget : cs[n.toNat]? = some (.int k' (ns.getD n.toNat 0)) := by
              rw [hv, List.getElem?_map, getD_of 0 hlt]
              rfl
            refine ⟨_, ?_, StepOk.pure R ⟨rfl, rfl⟩⟩
            simp only [Instr.index, Sem.run_bind, asIntOf, Sem.run_pure, Result.andThen_ok, run_underlying hu]
            rw [if_pos ⟨h0', h1'⟩]
            simp only [Sem.run_bind, sizeOf_run hi, Result.andThen_ok]
            unfold part
            rw [Sem.run_bind, isAgg_run C.E.P w e hc.2, hng, ← hsz, hs1, Nat.mul_one]
            simp only [Result.andThen_ok, Bool.false_eq_true, if_false]
            rw [List.getElem?_toArray, hget]
            rfl
          · cases h
        · cases h
      · obtain ⟨hue, h⟩ := bif_true h
        exact sel hue h
    · cases h
  · cases h

end
end Go.Abs

/- '==' of structs and arrays; every operation but a call. -/
namespace Go.Abs
open Go

section
variable {C : Ctx} {I : Interp} {objs : Nat → Option Obj} {w : World}

/-- A value of type t out of its cells. -/
def valOf (P : Program) (t : TypeId) (cs : List Value) : Value := if isAggT P t = true then .agg cs.toArray else cs.getD 0 undef

theorem part_val {dom : Nat → Prop} {bad : Bad} {P : Program} {t : TypeId} {ls c : List Leaf} {cs : List Value} {off : Nat} (hu : (P.underlying t).isSome = true) (hcut : cutN ls off (P.cellsOf t) = some c) (h1 : isAggT P t = false → c.length = 1) (hf : F2 (LRep I dom w bad) ls cs) :
    ∃ c2, (part t cs.toArray off).run P w = .ok (valOf P t c2) w ∧ F2 (LRep I dom w bad) c c2 := by
  obtain ⟨i, hi⟩ := info_of_underlying hu
  obtain ⟨rfl, hcl, hle⟩ := cutN_of hcut
  have hlen := hf.length
  have hf' := (hf.drop off).take (P.cellsOf t)
  refine ⟨_, ?_, hf'⟩
  unfold part valOf
  rw [Sem.run_bind, isAgg_run P w t hu]
  simp only [Result.andThen_ok]
  cases hg : isAggT P t with
  | true =>
    simp only [if_true, Sem.run_bind, sizeOf_run hi, Result.andThen_ok, Sem.run_pure]
    congr 2
    rw [cellsOf_info hi]
    simp
  | false =>
    have h1' := h1 hg
    have hlt : off < cs.length := by omega
    simp only [Bool.false_eq_true, if_false]
    rw [List.getElem?_toArray, List.getElem?_eq_getElem hlt]
    simp only [Sem.run_pure]
    congr 1
    rw [← hcl, h1']
    simp [List.getD, List.getElem?_take, hlt]

theorem eqT_some {P : Program} {d : Nat} {t : TypeId} {xs ys : List Leaf} {q : Bool} (h : eqT P d t xs ys = some q) : (P.underlying t).isSome = true ∧ (isAggT P t = false → xs.length = 1 ∧ ys.length = 1) := by
  cases d with
  | zero => cases h
  | succ d =>
    simp only [eqT] at h
    split at h
    · rename_i hu
      refine ⟨by rw [hu]; rfl, fun _ => ?_⟩
      split at h
      · exact ⟨rfl, rfl⟩
      · cases h
    · rename_i k hu
      refine ⟨by rw [hu]; rfl, fun _ => ?_⟩
      split at h
      · exact ⟨rfl, rfl⟩
      · cases h
    · rename_i hu
      refine ⟨by rw [hu]; rfl, fun _ => ?_⟩
      split at h
      · exact ⟨rfl, rfl⟩
      · cases h
    · rename_i fs hu
      exact ⟨by rw [hu]; rfl, fun hh => by simp [isAggT, hu] at hh⟩
    · rename_i n e hu
      exact ⟨by rw [hu]; rfl, fun hh => by simp [isAggT, hu] at hh⟩
    · cases h

theorem eqArr_run (P : Program) (w : World) (d : Nat) (e : TypeId) (n : Nat) (xs ys : Array Value) : ∀ (m i : Nat) (q : Bool), (∃ qs : List Bool, qs.length = m ∧ q = qs.all id ∧ ∀ (k : Nat) (b : Bool), qs[k]? = some b → ∃ x y, (part e xs ((i + k) * n)).run P w = .ok x w ∧ (part e ys ((i + k) * n)).run P w = .ok y w ∧ (Op.equalIn d e x y).run P w = .ok b w) →
    (forIn (List.range' i m) ((none, ()) : Option Bool × PUnit) (fun j r => do
      let a ← part e xs (j * n)
      let b ← part e ys (j * n)
      let c ← Op.equalIn d e a b
      if (!c) = true then pure (ForInStep.done (some false, ())) else pure (ForInStep.yield (none, ()))) : Sem (Option Bool × PUnit)).run P w = .ok (if q = true then (none, ()) else (some false, ())) w
  | 0, i, q, ⟨qs, hl, hq, _⟩ => by
    have : qs = [] := List.eq_nil_of_length_eq_zero hl
    subst this
    subst hq
    simp
  | m + 1, i, q, ⟨qs, hl, hq, hk⟩ => by
    match qs, hl with
    | b :: qs, hl =>
      obtain ⟨x, y, h1, h2, h3⟩ := hk 0 b (by simp)
      rw [Nat.add_zero] at h1 h2
      rw [List.range'_succ, List.forIn_cons]
      simp only [Sem.run_bind, h1, h2, h3, Result.andThen_ok, Sem.run_ite, Sem.run_pure]
      cases b with
      | false =>
        simp only [Bool.not_false, if_true, Result.andThen_ok, Sem.run_pure]
        rw [hq]
        simp
      | true =>
        simp only [Bool.not_true, Bool.false_eq_true, if_false, Result.andThen_ok]
        refine eqArr_run P w d e n xs ys m (i + 1) q ⟨qs, by simpa using hl, by rw [hq]; simp, fun k b hb => ?_⟩
        obtain ⟨x, y, h⟩ := hk (k + 1) b (by simpa using hb)
        rw [show i + 1 + k = i + (k + 1) by omega]
        exact ⟨x, y, h⟩

theorem run_equalIn_array (P : Program) (w : World) (d : Nat) (t e : TypeId) (n : Nat) (xs ys : Array Value) (ht : P.underlying t = some (.array n e)) {i : TypeInfo} (hi : P.info? e = some i) (q : Bool)
    (h : ∃ qs : List Bool, qs.length = n ∧ q = qs.all id ∧ ∀ (k : Nat) (b : Bool), qs[k]? = some b → ∃ x y, (part e xs (k * i.size)).run P w = .ok x w ∧ (part e ys (k * i.size)).run P w = .ok y w ∧ (Op.equalIn d e x y).run P w = .ok b w) :
    (Op.equalIn (d + 1) t (.agg xs) (.agg ys)).run P w = .ok q w := by
  simp only [Op.equalIn, Sem.run_bind, run_underlying ht, Result.andThen_ok, sizeOf_run hi]
  have hr := eqArr_run P w d e i.size xs ys n 0 q (by simpa using h)
  have hrg : ([:n] : Std.Legacy.Range).size = n := by simp [Std.Legacy.Range.size]
  rw [Std.Legacy.Range.forIn_eq_forIn_range', hrg]
  rw [show ([:n] : Std.Legacy.Range).start = 0 from rfl, show ([:n] : Std.Legacy.Range).step = 1 from rfl, hr]
  cases q <;> simp

theorem valOf_agg {P : Program} {t : TypeId} {cs : List Value} (h : isAggT P t = true) : valOf P t cs = .agg cs.toArray := by simp [valOf, h]
theorem valOf_one {P : Program} {t : TypeId} {v : Value} (h : isAggT P t = false) : valOf P t [v] = v := by simp [valOf, h]

theorem eqFs_run {dom : Nat → Prop} {bad : Bad} {P : Program} {d D : Nat}
    (ih : ∀ (t : TypeId) (xs ys : List Leaf) (q : Bool) (cx cy : List Value), eqT P d t xs ys = some q → F2 (LRep I dom w bad) xs cx → F2 (LRep I dom w bad) ys cy → (Op.equalIn D t (valOf P t cx) (valOf P t cy)).run P w = .ok q w)
    {xs ys : List Leaf} {cx cy : List Value} (hx : F2 (LRep I dom w bad) xs cx) (hy : F2 (LRep I dom w bad) ys cy) : ∀ (fl : List Field) (q : Bool), eqFs P (eqT P d) xs ys fl = some q → (Op.eqFields D cx.toArray cy.toArray fl).run P w = .ok q w
  | [], q, h => by
    simp [eqFs] at h
    subst h
    rfl
  | g :: r, q, h => by
    simp only [eqFs] at h
    cases hn : (g.name == "_") with
    | true => rw [hn] at h; cases h
    | false =>
      rw [hn] at h
      simp only [cond_false] at h
      split at h
      · rename_i a b ha hb
        split at h
        · rename_i p q' hp hq'
          obtain rfl := Option.some.inj h
          obtain ⟨hu, h1⟩ := eqT_some hp
          obtain ⟨c2, r1, hf1⟩ := part_val hu ha (fun hh => (h1 hh).1) hx
          obtain ⟨c3, r2, hf2⟩ := part_val hu hb (fun hh => (h1 hh).2) hy
          have r3 := ih g.type a b p c2 c3 hp hf1 hf2
          have r4 := eqFs_run ih hx hy r q' hq'
          unfold Op.eqFields
          have hne : g.name ≠ "_" := by simpa using hn
          rw [if_pos hne]
          simp only [Sem.run_bind, r1, r2, r3, Result.andThen_ok, Sem.run_ite]
          cases p with
          | false => simp
          | true => simp [r4]
        · cases h
      · cases h

theorem eqEs_qs {dom : Nat → Prop} {bad : Bad} {P : Program} {d D : Nat} {e : TypeId}
    (ih : ∀ (t : TypeId) (xs ys : List Leaf) (q : Bool) (cx cy : List Value), eqT P d t xs ys = some q → F2 (LRep I dom w bad) xs cx → F2 (LRep I dom w bad) ys cy → (Op.equalIn D t (valOf P t cx) (valOf P t cy)).run P w = .ok q w)
    {xs ys : List Leaf} {cx cy : List Value} (hx : F2 (LRep I dom w bad) xs cx) (hy : F2 (LRep I dom w bad) ys cy) : ∀ (n i : Nat) (q : Bool), eqEs (eqT P d e) (P.cellsOf e) xs ys i n = some q →
      ∃ qs : List Bool, qs.length = n ∧ q = qs.all id ∧ ∀ (k : Nat) (b : Bool), qs[k]? = some b → ∃ x y, (part e cx.toArray ((i + k) * P.cellsOf e)).run P w = .ok x w ∧ (part e cy.toArray ((i + k) * P.cellsOf e)).run P w = .ok y w ∧ (Op.equalIn D e x y).run P w = .ok b w
  | 0, i, q, h => by
    simp [eqEs] at h
    exact ⟨[], rfl, by simp [h], fun k b hb => by simp at hb⟩
  | n + 1, i, q, h => by
    simp only [eqEs] at h
    split at h
    · rename_i a b ha hb
      split at h
      · rename_i p q' hp hq'
        obtain rfl := Option.some.inj h
        obtain ⟨qs, h1, h2, h3⟩ := eqEs_qs ih hx hy n (i + 1) q' hq'
        refine ⟨p :: qs, by simp [h1], by simp [h2], fun k b' hb' => ?_⟩
        match k with
        | 0 =>
          simp at hb'
          subst hb'
          obtain ⟨hu, h4⟩ := eqT_some hp
          obtain ⟨c2, r1, hf1⟩ := part_val hu ha (fun hh => (h4 hh).1) hx
          obtain ⟨c3, r2, hf2⟩ := part_val hu hb (fun hh => (h4 hh).2) hy
          exact ⟨_, _, r1, r2, ih e a b p c2 c3 hp hf1 hf2⟩
        | k + 1 =>
          obtain ⟨x, y, h5⟩ := h3 k b' (by simpa using hb')
          rw [show i + (k + 1) = i + 1 + k by omega]
          exact ⟨x, y, h5⟩
      · cases h
    · cases h

theorem eqT_run {dom : Nat → Prop} {bad : Bad} {P : Program} : ∀ (d : Nat) (D : Nat), d ≤ D → ∀ (t : TypeId) (xs ys : List Leaf) (q : Bool) (cx cy : List Value), eqT P d t xs ys = some q → F2 (LRep I dom w bad) xs cx → F2 (LRep I dom w bad) ys cy →
    (Op.equalIn D t (valOf P t cx) (valOf P t cy)).run P w = .ok q w
  | 0, D, _, t, xs, ys, q, cx, cy, h, _, _ => by cases h
  | d + 1, 0, hD, _, _, _, _, _, _, _, _, _ => by omega
  | d + 1, D + 1, hD, t, xs, ys, q, cx, cy, h, hx, hy => by
    have ih := eqT_run (dom := dom) (bad := bad) (P := P) d D (by omega)
    simp only [eqT] at h
    split at h
    · rename_i hu
      have hg : isAggT P t = false := by simp [isAggT, hu]
      split at h
      · rename_i a b
        obtain rfl := Option.some.inj h
        match cx, cy, hx, hy with
        | [u], [v], hx, hy =>
          rw [valOf_one hg, valOf_one hg, show u = _ from hx.1.1, show v = _ from hy.1.1]
          exact run_equalIn_bool' w D t a b hu
        | _ :: _ :: _, _, hx, _ => exact hx.2.elim
        | _, _ :: _ :: _, _, hy => exact hy.2.elim
      · cases h
    · rename_i k0 hu
      have hg : isAggT P t = false := by simp [isAggT, hu]
      split at h
      · rename_i k a k' b
        split at h
        · rename_i hk
          subst hk
          obtain rfl := Option.some.inj h
          match cx, cy, hx, hy with
          | [u], [v], hx, hy =>
            rw [valOf_one hg, valOf_one hg, show u = _ from hx.1.1, show v = _ from hy.1.1]
            exact run_equalIn_int w D t k k0 a b hu
          | _ :: _ :: _, _, hx, _ => exact hx.2.elim
          | _, _ :: _ :: _, _, hy => exact hy.2.elim
        · cases h
      · cases h
    · rename_i hu
      have hg : isAggT P t = false := by simp [isAggT, hu]
      split at h
      · rename_i a b
        obtain rfl := Option.some.inj h
        match cx, cy, hx, hy with
        | [u], [v], hx, hy =>
          rw [valOf_one hg, valOf_one hg, show u = _ from hx.1.1, show v = _ from hy.1.1]
          exact run_equalIn_string w D t a b hu
        | _ :: _ :: _, _, hx, _ => exact hx.2.elim
        | _, _ :: _ :: _, _, hy => exact hy.2.elim
      · cases h
    · rename_i fs hu
      have hg : isAggT P t = true := by simp [isAggT, hu]
      cases hst : P.stoodInHeld t with
      | true => rw [hst] at h; cases h
      | false =>
        rw [hst] at h
        simp only [cond_false] at h
        rw [valOf_agg hg, valOf_agg hg]
        have hfo : P.fieldsOf t = fs := by simp [Program.fieldsOf, hu]
        rw [run_equalIn_struct w D t cx.toArray cy.toArray (by rw [hfo]; exact hu) hst, hfo]
        exact eqFs_run ih hx hy fs.toList q h
    · rename_i n e hu
      have hg : isAggT P t = true := by simp [isAggT, hu]
      rw [valOf_agg hg, valOf_agg hg]
      cases hie : P.info? e with
      | none => rw [hie] at h; cases h
      | some i =>
        rw [hie] at h
        obtain ⟨qs, h1, h2, h3⟩ := eqEs_qs ih hx hy n 0 q h
        have hsz := cellsOf_info hie
        exact run_equalIn_array P w D t e n cx.toArray cy.toArray hu hie q ⟨qs, h1, h2, fun k b hb => by
          obtain ⟨x, y, h⟩ := h3 k b hb
          rw [Nat.zero_add, hsz] at h
          exact ⟨x, y, h⟩⟩
    · cases h

end
end Go.Abs

/- A state that has a shape: its data, and the relation of the new state that is made out of them. -/
namespace Go.Abs
open Go

theorem findId_mem {o : Nat} {b : Option Nat} : ∀ {l : List (Nat × Option Nat)}, findId o l = some b → (o, b) ∈ l
  | [], h => by cases h
  | (a, c) :: r, h => by
    simp only [findId] at h
    cases hb : Nat.beq a o with
    | true =>
      rw [hb] at h
      have := Nat.eq_of_beq_eq_true hb
      subst this
      have h' : c = b := by simpa using h
      subst h'
      simp
    | false =>
      rw [hb] at h
      exact List.mem_cons_of_mem _ (findId_mem h)

/-- One knows what the other knows. -/
def Sub (m m' : Met) : Prop := (∀ o b, findId o m.ids = some b → findId o m'.ids = some b) ∧ ∀ n, n ∈ m.seen → n ∈ m'.seen
theorem Sub.refl (m : Met) : Sub m m := ⟨fun _ _ h => h, fun _ h => h⟩
theorem Sub.trans {a b c : Met} (h : Sub a b) (k : Sub b c) : Sub a c := ⟨fun o x hx => k.1 o x (h.1 o x hx), fun n hn => k.2 n (h.2 n hn)⟩

/-- No two objects of the shape are one. -/
def Inj (l : List (Nat × Option Nat)) : Prop := ∀ o o' n, (o, some n) ∈ l → (o', some n) ∈ l → o = o'

theorem isId_iff {n : Nat} {x : Option Nat} : isId n x = true ↔ x = some n := by
  cases x with
  | none => simp [isId]
  | some m =>
    simp only [isId, Option.some.injEq]
    exact ⟨Nat.eq_of_beq_eq_true, fun h => by rw [h]; exact Nat.beq_refl n⟩

theorem tie_of {m m' : Met} {o n : Nat} (h : m.tie o n = some m') : Sub m m' ∧ findId o m'.ids = some (some n) ∧ (Inj m.ids → Inj m'.ids) := by
  unfold Met.tie at h
  split at h
  · rename_i x hx
    cases hb : isId n x with
    | false => rw [hb] at h; cases h
    | true =>
      rw [hb] at h
      simp at h
      subst h
      rw [isId_iff.1 hb] at hx
      exact ⟨Sub.refl _, hx, id⟩
  · rename_i hx
    cases hb : m.ids.any (fun p => isId n p.2) with
    | true => rw [hb] at h; cases h
    | false =>
      rw [hb] at h
      simp at h
      subst h
      refine ⟨⟨fun o' b h' => ?_, fun _ h => h⟩, ?_, fun hi o1 o2 n' h1 h2 => ?_⟩
      · simp only [findId]
        cases he : Nat.beq o o' with
        | true =>
          have := Nat.eq_of_beq_eq_true he
          subst this
          rw [hx] at h'
          cases h'
        | false => exact h'
      · simp [findId]
      · have hno : ∀ q, (q, some n) ∈ m.ids → False := fun q hq => by
          have : m.ids.any (fun p => isId n p.2) = true := List.any_eq_true.2 ⟨_, hq, isId_iff.2 rfl⟩
          rw [hb] at this
          cases this
        simp only [List.mem_cons, Prod.mk.injEq, Option.some.injEq] at h1 h2
        rcases h1 with ⟨rfl, h1⟩ | h1
        · rcases h2 with ⟨rfl, h2⟩ | h2
          · rfl
          · subst h1; exact (hno _ h2).elim
        · rcases h2 with ⟨rfl, h2⟩ | h2
          · subst h2; exact (hno _ h1).elim
          · exact hi _ _ _ h1 h2

theorem tieNil_of {m m' : Met} {o : Nat} (h : m.tieNil o = some m') : Sub m m' ∧ findId o m'.ids = some none ∧ (Inj m.ids → Inj m'.ids) := by
  unfold Met.tieNil at h
  split at h
  · cases h
  · rename_i hx
    simp at h
    subst h
    refine ⟨⟨fun o' b h' => ?_, fun _ h => h⟩, by simp [findId], fun hi o1 o2 n' h1 h2 => ?_⟩
    · simp only [findId]
      cases he : Nat.beq o o' with
      | true =>
        have := Nat.eq_of_beq_eq_true he
        subst this
        rw [hx] at h'
        cases h'
      | false => exact h'
    · simp only [List.mem_cons, Prod.mk.injEq, reduceCtorEq, and_false, false_or] at h1 h2
      exact hi _ _ _ h1 h2

theorem tieAll_of : ∀ {os ns : List Nat} {m m' : Met}, tieAll m os ns = some m' → Sub m m' ∧ F2 (fun o n => findId o m'.ids = some (some n)) os ns ∧ (Inj m.ids → Inj m'.ids)
  | [], [], m, m', h => by simp [tieAll] at h; subst h; exact ⟨Sub.refl _, trivial, id⟩
  | [], _ :: _, _, _, h => by simp [tieAll] at h
  | _ :: _, [], _, _, h => by simp [tieAll] at h
  | o :: os, n :: ns, m, m', h => by
    simp only [tieAll] at h
    split at h
    · rename_i m1 h1
      obtain ⟨a1, a2, a3⟩ := tie_of h1
      obtain ⟨b1, b2, b3⟩ := tieAll_of h
      exact ⟨a1.trans b1, ⟨b1.1 _ _ a2, b2⟩, fun hi => b3 (a3 hi)⟩
    · cases h

/-! ### Growth of what has been met -/
theorem LS.take_grow {get : Nat → Option Obj} {l : LS} {a : Leaf} {m m' : Met} {y : l.T} (h : l.take get a m = some (y, m')) : Sub m m' ∧ (Inj m.ids → Inj m'.ids) := by
  unfold LS.take at h
  split at h
  · rename_i t x
    cases hb : single t with
    | false => rw [hb] at h; cases h
    | true =>
      rw [hb] at h
      simp only [cond_true] at h
      split at h
      · simp at h; rw [← h.2]; exact ⟨Sub.refl _, id⟩
      · cases h
  · split at h
    · simp at h; rw [← h.2]; exact ⟨Sub.refl _, id⟩
    · cases h
  · split at h
    · simp at h; rw [← h.2]; exact ⟨⟨fun _ _ h => h, fun n hn => List.mem_cons_of_mem _ hn⟩, id⟩
    · cases h
  · split at h
    · rename_i m1 h1
      simp at h
      rw [← h]
      have := tie_of h1
      exact ⟨this.1, this.2.2⟩
    · cases h
  · rename_i o x
    cases hb : isNilSlice x with
    | false => rw [hb] at h; cases h
    | true =>
      rw [hb] at h
      simp only [cond_true] at h
      split at h
      · rename_i m1 h1
        simp at h
        rw [← h]
        have := tieNil_of h1
        exact ⟨this.1, this.2.2⟩
      · cases h
  · rename_i o off n off'
    cases hb : Nat.beq off off' with
    | false => rw [hb] at h; cases h
    | true =>
      rw [hb] at h
      simp only [cond_true] at h
      split at h
      · rename_i m1 h1
        simp at h
        rw [← h]
        have := tie_of h1
        exact ⟨this.1, this.2.2⟩
      · cases h
  · rename_i v x
    cases hb : sameNil v x with
    | false => rw [hb] at h; cases h
    | true =>
      rw [hb] at h
      simp at h
      rw [← h]
      exact ⟨Sub.refl _, id⟩
  · rename_i f caps g ns
    cases hb : Nat.beq f g with
    | false => rw [hb] at h; cases h
    | true =>
      rw [hb] at h
      simp only [cond_true] at h
      split at h
      · rename_i m1 h1
        simp at h
        rw [← h]
        have := tieAll_of h1
        exact ⟨this.1, this.2.2⟩
      · cases h
  · rename_i f o g n
    cases hb : Nat.beq f g with
    | false => rw [hb] at h; cases h
    | true =>
      rw [hb] at h
      simp only [cond_true] at h
      split at h
      · rename_i m1 h1
        simp at h
        rw [← h]
        have := tie_of h1
        exact ⟨this.1, this.2.2⟩
      · cases h
  · cases h

theorem takeLs_grow {get : Nat → Option Obj} : ∀ {ls : List LS} {as : List Leaf} {m m' : Met} {y : TLs ls}, takeLs get ls as m = some (y, m') → Sub m m' ∧ (Inj m.ids → Inj m'.ids)
  | [], [], m, m', y, h => by simp [takeLs] at h; rw [← h]; exact ⟨Sub.refl _, id⟩
  | [], _ :: _, _, _, _, h => by simp [takeLs] at h
  | _ :: _, [], _, _, _, h => by simp [takeLs] at h
  | l :: ls, a :: as, m, m', y, h => by
    simp only [takeLs] at h
    split at h
    · rename_i x m1 h1
      split at h
      · rename_i z m2 h2
        simp at h
        rw [← h.2]
        have a1 := LS.take_grow h1
        have a2 := takeLs_grow h2
        exact ⟨a1.1.trans a2.1, fun hi => a2.2 (a1.2 hi)⟩
      · cases h
    · cases h

theorem AS.take_grow {get : Nat → Option Obj} {s : AS} {a : AV} {m m' : Met} {y : s.T} (h : s.take get a m = some (y, m')) : Sub m m' ∧ (Inj m.ids → Inj m'.ids) := by
  unfold AS.take at h
  split at h
  · exact LS.take_grow h
  · exact takeLs_grow h
  · cases h

theorem takeSlots_grow {get : Nat → Option Obj} {sl : Nat → Val} : ∀ {l : List (Nat × AS)} {m m' : Met} {y : TSlots l}, takeSlots get sl l m = some (y, m') → Sub m m' ∧ (Inj m.ids → Inj m'.ids)
  | [], m, m', y, h => by simp [takeSlots] at h; rw [← h]; exact ⟨Sub.refl _, id⟩
  | s :: ss, m, m', y, h => by
    simp only [takeSlots] at h
    split at h
    · split at h
      · rename_i x m1 h1
        split at h
        · rename_i z m2 h2
          simp at h
          rw [← h.2]
          have a1 := AS.take_grow h1
          have a2 := takeSlots_grow h2
          exact ⟨a1.1.trans a2.1, fun hi => a2.2 (a1.2 hi)⟩
        · cases h
      · cases h
    · cases h

theorem OS.take_grow {get : Nat → Option Obj} {s : OS} {i : Option (Option Nat)} {m m' : Met} {y : s.T} (h : s.take get i m = some (y, m')) : Sub m m' ∧ (Inj m.ids → Inj m'.ids) := by
  unfold OS.take at h
  split at h
  · simp at h; rw [← h.2]; exact ⟨Sub.refl _, id⟩
  · rename_i e t n
    split at h
    · rename_i e' t' xs hn
      cases hb : Nat.beq e e' with
      | false => rw [hb] at h; cases h
      | true =>
        rw [hb] at h
        simp only [cond_true] at h
        split at h
        · simp at h; rw [← h.2]; exact ⟨Sub.refl _, id⟩
        · cases h
    · cases h
  · split at h
    · exact takeLs_grow h
    · cases h
  · split at h
    · simp at h; rw [← h.2]; exact ⟨Sub.refl _, id⟩
    · cases h
  · split at h
    · split at h
      · simp at h; rw [← h.2]; exact ⟨Sub.refl _, id⟩
      · cases h
    · cases h
  · simp at h; rw [← h]; exact ⟨Sub.refl _, id⟩
  · cases h

theorem takeObjs_grow {get : Nat → Option Obj} : ∀ {l : List OS} {o : Nat} {m m' : Met} {y : TObjs l}, takeObjs get l o m = some (y, m') → Sub m m' ∧ (Inj m.ids → Inj m'.ids)
  | [], o, m, m', y, h => by simp [takeObjs] at h; rw [← h]; exact ⟨Sub.refl _, id⟩
  | s :: ss, o, m, m', y, h => by
    simp only [takeObjs] at h
    split at h
    · rename_i x m1 h1
      split at h
      · rename_i z m2 h2
        simp at h
        rw [← h.2]
        have a1 := OS.take_grow h1
        have a2 := takeObjs_grow h2
        exact ⟨a1.1.trans a2.1, fun hi => a2.2 (a1.2 hi)⟩
      · cases h
    · cases h

end Go.Abs

/- A state that has a shape, and the world: the relation of the state that is made anew out of the shape's data. -/
namespace Go.Abs
open Go

def osSz : List OS → Nat → Nat
  | [], _ => 0
  | .row _ t :: _, 0 => nleaf t
  | _ :: _, 0 => 0
  | _ :: r, i + 1 => osSz r i

/-- The interpretation of the shape's own numbers. -/
def newI (I : Interp) (S : Shape) (m : Met) : Interp :=
  ⟨fun o => match findId o m.ids with | some (some n) => I.v n | _ => .slice none 0 0,
   fun o => match findId o m.ids with | some (some n) => I.sz n | _ => osSz S.objs o⟩

def Tied (m : Met) (n : Nat) : Prop := ∃ o, (o, some n) ∈ m.ids

structure TakeCtx (C : Ctx) (I : Interp) (objs : Nat → Option Obj) (w : World) (S : Shape) (m : Met) (objs' : Nat → Option Obj) (bad' : Bad) : Prop where
  R : WRel C I objs w
  sub : ∀ g o, bad' g o → badOf C I objs g o
  seen : ∀ n e t xs, n ∈ m.seen → objs n = some (.row e t xs) → ∀ g o, bad' g o → ¬ cellsOf I n (.row e t xs) g o
  dom : ∀ o b, findId o m.ids = some b → Dom objs' o

section
variable {C : Ctx} {I : Interp} {objs : Nat → Option Obj} {w : World} {S : Shape} {mf : Met} {objs' : Nat → Option Obj} {bad' : Bad}

theorem TakeCtx.at_ (T : TakeCtx C I objs w S mf objs' bad') : ∀ a v, At w (badOf C I objs) a v → At w bad' a v := fun a v h => ⟨h.1, fun hb => h.2 (T.sub _ _ hb)⟩

theorem elOfD_of {bad : Bad} {t : Ty} {l : DLeaf} {x : El t} {v : Value} (h : elOfD t l = some x) (hl : DRep w bad l v) : CellsOk w bad t x [v] := by
  unfold elOfD at h
  split at h
  · rename_i y hy
    obtain rfl := Option.some.inj h
    obtain ⟨c1, c2, e, hc, hr⟩ := ofLeaves_of (w := w) (bad := bad) t [l] _ [] [v] hy ⟨hl, trivial⟩
    match c2, hr with
    | [], _ => rw [List.append_nil] at e; rw [e]; exact hc
  · cases h

theorem scLeaf_rep {bad : Bad} : ∀ {t : Ty} {x : El t} {v : Value}, (∀ a b, t ≠ .pair a b) → CellsOk w bad t x [v] → DRep w bad (scLeaf t x) v
  | .int k, x, v, _, h => by
    simp only [CellsOk, List.cons.injEq, and_true] at h
    exact ⟨h, by rfl⟩
  | .bool, x, v, _, h => by
    simp only [CellsOk, List.cons.injEq, and_true] at h
    exact ⟨h, by rfl⟩
  | .str, x, v, _, h => by
    simp only [CellsOk, List.cons.injEq, and_true] at h
    exact ⟨h, by rfl⟩
  | .slc t, x, v, _, h => h
  | .pair a b, x, v, h, _ => absurd rfl (h a b)

theorem single_of {t : Ty} (h : single t = true) : ∀ a b, t ≠ .pair a b := by
  intro a b e
  subst e
  cases h

theorem rowData_of {n : Nat} {t : Ty} {xs : List (El t)} (h : rowData objs n t = some xs) : (∃ e, objs n = some (.row e t xs)) ∨ objs n = some (.frow t xs) := by
  unfold rowData at h
  split at h
  · rename_i e t' xs' hn
    obtain ⟨et, hx⟩ := castL_eq h
    subst et
    subst hx
    exact .inl ⟨e, hn⟩
  · rename_i t' xs' hn
    obtain ⟨et, hx⟩ := castL_eq h
    subst et
    subst hx
    exact .inr hn
  · cases h

theorem isNil_val {x : Value} (h : isNilSlice x = true) : x = .slice none 0 0 := isNil_of h

theorem sameNil_of {a b : Value} (h : sameNil a b = true) : a = b := by
  unfold sameNil at h
  split at h
  · rename_i i j hi hj
    have e := Nat.eq_of_beq_eq_true h
    subst e
    unfold nilKind at hi hj
    split at hi <;> split at hj <;> first | rfl | (simp at hi hj; done) | (simp at hi hj; omega)
  · cases h

theorem ownAsDat {e : TypeId} {t : Ty} {xs : List (El t)} {v : Value} {bad : Bad} {cells : List Value} (hr : Rows (CellsOk w bad t) xs cells) (ho : OwnRow w e (nleaf t) v xs.length cells) (hnb : ∀ g o, bad g o → ∀ b n c, 0 < c → v ≠ .slice (some ⟨g, b, none⟩) n c) :
    CellsOk w bad (.slc t) xs [v] := by
  rcases ho.2 with ⟨A, hv, h0⟩ | ⟨g, b, cap, cur, hc0, hv, hh, hc1, hc2, hsz, htk⟩
  · have hx : xs = [] := List.eq_nil_of_length_eq_zero h0
    subst hx
    exact ⟨A, 0, [], by rw [hv]; rfl, by simp, rfl, .inl rfl⟩
  · refine ⟨some ⟨g, b, none⟩, cap, cells, by rw [hv], hc1, hr, .inr ⟨_, rfl, fun i v' hi => ⟨?_, ?_⟩⟩⟩
    · rw [addr_add]
      refine cell_of hh ?_
      rw [← htk, List.getElem?_take] at hi
      split at hi
      · rw [List.getElem?_drop] at hi; simpa using hi
      · cases hi
    · rw [addr_add]
      exact fun hbad => hnb g _ hbad _ _ _ hc0 hv

theorem caps_rep (T : TakeCtx C I objs w S mf objs' bad') : ∀ {caps ns : List Nat} {as : List Value}, F2 (fun o n => findId o mf.ids = some (some n)) caps ns →
    F2 (fun b x => Dom objs b ∧ ∃ g o, I.v b = .pointer (some ⟨g, o, none⟩) ∧ x = .pointer (some ⟨g, o, none⟩)) ns as → F2 (fun b x => Dom objs' b ∧ ∃ g o, (newI I S mf).v b = .pointer (some ⟨g, o, none⟩) ∧ x = .pointer (some ⟨g, o, none⟩)) caps as
  | [], [], [], _, _ => trivial
  | [], [], _ :: _, _, h => h.elim
  | [], _ :: _, _, h, _ => h.elim
  | _ :: _, [], _, h, _ => h.elim
  | _ :: _, _ :: _, [], _, h => h.elim
  | c :: caps, n :: ns, a :: as, hall, hf => by
    obtain ⟨hd, g, o', hv, hx⟩ := hf.1
    exact ⟨⟨T.dom _ _ hall.1, g, o', by simp [newI, hall.1, hv], hx⟩, caps_rep T hall.2 hf.2⟩

theorem LS.take_rep (T : TakeCtx C I objs w S mf objs' bad') {l : LS} {a : Leaf} {m m' : Met} {y : l.T} {v : Value} (h : l.take objs a m = some (y, m')) (hs : Sub m' mf) (hr : LRep I (Dom objs) w (badOf C I objs) a v) : LRep (newI I S mf) (Dom objs') w bad' (l.make id y) v := by
  have hgrow := LS.take_grow h
  unfold LS.take at h
  split at h
  · rename_i t x
    cases hb : single t with
    | false => rw [hb] at h; cases h
    | true =>
      rw [hb] at h
      simp only [cond_true] at h
      split at h
      · rename_i z hz
        simp at h
        rw [← h.1]
        exact scLeaf_rep (single_of hb) (elOfD_of hz (DRep.mono T.at_ _ _ hr))
      · cases h
  · rename_i t x
    split at h
    · rename_i z hz
      simp at h
      rw [← h.1]
      exact elOfD_of hz (DRep.mono T.at_ _ _ hr)
    · cases h
  · rename_i t n
    split at h
    · rename_i z hz
      simp at h
      obtain ⟨rfl, rfl⟩ := h
      show CellsOk w bad' (.slc t) z [v]
      rw [hr.2.1]
      rcases rowData_of hz with ⟨e, hn⟩ | hn
      · obtain ⟨_, cells, hrow, ho⟩ := T.R.ok n _ hn
        refine ownAsDat (hrow.imp fun x c hc => CellsOk.mono T.at_ t x c hc) ho fun g o hb b k c hc0 hv => ?_
        exact T.seen n e t z (hs.2 n (by simp)) hn g o hb ⟨b, k, c, hc0, hv⟩
      · exact CellsOk.mono T.at_ (.slc t) z _ (T.R.ok n _ hn).2
    · cases h
  · rename_i o n
    split at h
    · rename_i m1 h1
      simp at h
      subst h
      have hf := hs.1 _ _ (tie_of h1).2.1
      exact ⟨T.dom _ _ hf, by rw [hr.2.1]; simp [newI, hf], hr.2.2⟩
    · cases h
  · rename_i o x
    cases hb : isNilSlice x with
    | false => rw [hb] at h; cases h
    | true =>
      rw [hb] at h
      simp only [cond_true] at h
      split at h
      · rename_i m1 h1
        simp at h
        subst h
        have hf := hs.1 _ _ (tieNil_of h1).2.1
        refine ⟨T.dom _ _ hf, ?_, LRep.one _ _ hr⟩
        rw [hr.1, isNil_val hb]
        simp [newI, hf]
      · cases h
  · rename_i o off n off'
    cases hb : Nat.beq off off' with
    | false => rw [hb] at h; cases h
    | true =>
      rw [hb] at h
      simp only [cond_true] at h
      split at h
      · rename_i m1 h1
        simp at h
        subst h
        have hf := hs.1 _ _ (tie_of h1).2.1
        have he := Nat.eq_of_beq_eq_true hb
        subst he
        obtain ⟨hd, g, o', hv, hx⟩ := hr
        exact ⟨T.dom _ _ hf, g, o', by simp [newI, hf, hv], hx⟩
      · cases h
  · rename_i u x
    cases hb : sameNil u x with
    | false => rw [hb] at h; cases h
    | true =>
      have he := sameNil_of hb
      subst he
      exact hr
  · rename_i f caps g ns
    cases hb : Nat.beq f g with
    | false => rw [hb] at h; cases h
    | true =>
      rw [hb] at h
      simp only [cond_true] at h
      split at h
      · rename_i m1 h1
        simp at h
        subst h
        have he := Nat.eq_of_beq_eq_true hb
        subst he
        obtain ⟨as, hv, hf⟩ := hr
        refine ⟨as, hv, ?_⟩
        rw [List.map_id]
        exact caps_rep T ((tieAll_of h1).2.1.imp fun o n hh => hs.1 _ _ hh) hf
      · cases h
  · rename_i f o g n
    cases hb : Nat.beq f g with
    | false => rw [hb] at h; cases h
    | true =>
      rw [hb] at h
      simp only [cond_true] at h
      split at h
      · rename_i m1 h1
        simp at h
        subst h
        have hf := hs.1 _ _ (tie_of h1).2.1
        have he := Nat.eq_of_beq_eq_true hb
        subst he
        obtain ⟨x, e, hd, g, o', hv, hx⟩ := hr
        exact ⟨x, e, T.dom _ _ hf, g, o', by simp [newI, hf, hv], hx⟩
      · cases h
  · cases h

theorem takeLs_rep (T : TakeCtx C I objs w S mf objs' bad') : ∀ {ls : List LS} {as : List Leaf} {m m' : Met} {y : TLs ls} {vs : List Value}, takeLs objs ls as m = some (y, m') → Sub m' mf → F2 (LRep I (Dom objs) w (badOf C I objs)) as vs → F2 (LRep (newI I S mf) (Dom objs') w bad') (makeLs id ls y) vs
  | [], [], m, m', y, [], h, _, _ => trivial
  | [], [], m, m', y, _ :: _, h, _, hf => hf.elim
  | [], _ :: _, _, _, _, _, h, _, _ => by simp [takeLs] at h
  | _ :: _, [], _, _, _, _, h, _, _ => by simp [takeLs] at h
  | l :: ls, a :: as, m, m', y, [], h, _, hf => hf.elim
  | l :: ls, a :: as, m, m', y, v :: vs, h, hs, hf => by
    simp only [takeLs] at h
    split at h
    · rename_i x m1 h1
      split at h
      · rename_i z m2 h2
        simp at h
        obtain ⟨rfl, rfl⟩ := h
        exact ⟨LS.take_rep T h1 ((takeLs_grow h2).1.trans hs) hf.1, takeLs_rep T h2 hs hf.2⟩
      · cases h
    · cases h

theorem AS.take_rep (T : TakeCtx C I objs w S mf objs' bad') {s : AS} {a : AV} {m m' : Met} {y : s.T} {v : Value} (h : s.take objs a m = some (y, m')) (hs : Sub m' mf) (hr : AVRep I (Dom objs) w (badOf C I objs) a v) : AVRep (newI I S mf) (Dom objs') w bad' (s.make id y) v := by
  unfold AS.take at h
  split at h
  · exact LS.take_rep T h hs hr
  · obtain ⟨cs, e, hf⟩ := hr
    exact ⟨cs, e, takeLs_rep T h hs hf⟩
  · cases h

theorem takeSlots_rep (T : TakeCtx C I objs w S mf objs' bad') {sl : Nat → Val} {u : Nat → Value} (hu : ∀ i, VRep I (Dom objs) w (badOf C I objs) (sl i) (u i)) : ∀ {l : List (Nat × AS)} {m m' : Met} {y : TSlots l}, takeSlots objs sl l m = some (y, m') → Sub m' mf →
    ∀ i, VRep (newI I S mf) (Dom objs') w bad' (lookupSlot (makeSlots id l y) i) (u i)
  | [], m, m', y, h, _, i => trivial
  | s :: ss, m, m', y, h, hs, i => by
    simp only [takeSlots] at h
    split at h
    · rename_i a ha
      split at h
      · rename_i x m1 h1
        split at h
        · rename_i z m2 h2
          simp at h
          obtain ⟨rfl, rfl⟩ := h
          simp only [makeSlots, lookupSlot]
          cases hb : Nat.beq i s.1 with
          | true =>
            have he := Nat.eq_of_beq_eq_true hb
            subst he
            have := hu s.1
            rw [ha] at this
            exact AS.take_rep T h1 ((takeSlots_grow h2).1.trans hs) this
          | false => exact takeSlots_rep T hu h2 hs i
        · cases h
      · cases h
    · cases h

/-- Where an object of the shape comes from. -/
def From (I : Interp) (objs : Nat → Option Obj) (S : Shape) (mf : Met) (o : Nat) (ob : Obj) : Prop :=
  (∃ n ob0, findId o mf.ids = some (some n) ∧ objs n = some ob0 ∧ ∀ g p, cellsOf (newI I S mf) o ob g p → cellsOf I n ob0 g p) ∨ ∀ g p, ¬ cellsOf (newI I S mf) o ob g p

theorem OS.take_rep (T : TakeCtx C I objs w S mf objs' bad') {s : OS} {o : Nat} {m m' : Met} {y : s.T} {ob : Obj} (h : s.take objs (findId o m.ids) m = some (y, m')) (hs : Sub m' mf) (hsz : ∀ e t, s = .row e t → osSz S.objs o = nleaf t) (hob : s.make id y = some ob) :
    ObjOk (newI I S mf) (Dom objs') w bad' o ob ∧ From I objs S mf o ob := by
  have hgrow := (OS.take_grow h).1
  generalize hi : findId o m.ids = i at h
  unfold OS.take at h
  split at h
  · rename_i e t
    have hf := hs.1 _ _ (hgrow.1 _ _ hi)
    simp at h
    rw [h.1] at hob
    obtain rfl := Option.some.inj hob
    have hv : (newI I S mf).v o = .slice none 0 0 := by simp [newI, hf]
    refine ⟨⟨by simp [newI, hf, hsz e t rfl], [], rfl, ?_⟩, .inr ?_⟩
    · rw [hv]
      exact OwnRow.zero w e (nleaf t) none
    · rintro g p ⟨b, n, c, hc0, hh⟩
      rw [hv] at hh
      cases hh
  · rename_i e t n
    split at h
    · rename_i e' t' xs hn
      cases hb : Nat.beq e e' with
      | false => rw [hb] at h; cases h
      | true =>
        rw [hb] at h
        simp only [cond_true] at h
        split at h
        · rename_i z hz
          obtain ⟨et, hz'⟩ := castL_eq hz
          subst et
          subst hz'
          have ee := Nat.eq_of_beq_eq_true hb
          subst ee
          simp at h
          rw [← h.1] at hob
          obtain rfl := Option.some.inj hob
          have hf := hs.1 _ _ (hgrow.1 _ _ hi)
          have hv : (newI I S mf).v o = I.v n := by simp [newI, hf]
          have hz2 : (newI I S mf).sz o = I.sz n := by simp [newI, hf]
          obtain ⟨hsn, cells, hrow, ho⟩ := T.R.ok n _ hn
          refine ⟨⟨by rw [hz2]; exact hsn, cells, hrow.imp fun x c hc => CellsOk.mono T.at_ t' x c hc, by rw [hv]; exact ho⟩, .inl ⟨n, _, hf, hn, ?_⟩⟩
          rintro g p ⟨b, k, c, hc0, hh⟩
          exact ⟨b, k, c, hc0, by rw [← hv]; exact hh⟩
        · cases h
    · cases h
  · rename_i ls n
    split at h
    · rename_i as hn
      have hf := hs.1 _ _ (hgrow.1 _ _ hi)
      have hv : (newI I S mf).v o = I.v n := by simp [newI, hf]
      obtain rfl := Option.some.inj hob
      obtain ⟨hpos, g, o', c, e, vs, hv', hh, hfv, hc⟩ := T.R.ok n _ hn
      have hrep := takeLs_rep T h hs hfv
      have hl : (makeLs id ls y).length = as.length := by rw [hrep.length, hfv.length]
      refine ⟨⟨by rw [hl]; exact hpos, g, o', c, e, vs, by rw [hv]; exact hv', hh, hrep, hc⟩, .inl ⟨n, _, hf, hn, ?_⟩⟩
      rintro g p ⟨o2, h1, h2, h3⟩
      exact ⟨o2, by rw [← hv]; exact h1, h2, by rw [← hl]; exact h3⟩
    · cases h
  · rename_i n
    split at h
    · rename_i s p hn
      simp at h
      rw [← h.1] at hob
      obtain rfl := Option.some.inj hob
      have hf := hs.1 _ _ (hgrow.1 _ _ hi)
      have hv : (newI I S mf).v o = I.v n := by simp [newI, hf]
      obtain ⟨g, k, hv', hp, hh⟩ := T.R.ok n _ hn
      refine ⟨⟨g, k, by rw [hv]; exact hv', hp, hh⟩, .inl ⟨n, _, hf, hn, ?_⟩⟩
      rintro g p ⟨o0, h1⟩
      exact ⟨o0, by rw [← hv]; exact h1⟩
    · cases h
  · rename_i t n
    split at h
    · rename_i t' xs hn
      split at h
      · rename_i z hz
        obtain ⟨et, hz'⟩ := castM_eq hz
        subst et
        subst hz'
        simp at h
        rw [← h.1] at hob
        obtain rfl := Option.some.inj hob
        have hf := hs.1 _ _ (hgrow.1 _ _ hi)
        have hv : (newI I S mf).v o = I.v n := by simp [newI, hf]
        obtain ⟨g, es, clock, hv', hh, hfm⟩ := T.R.ok n _ hn
        refine ⟨⟨g, es, clock, by rw [hv]; exact hv', hh, hfm.imp fun p e he => ⟨he.1, CellsOk.mono T.at_ t' _ _ he.2⟩⟩, .inl ⟨n, _, hf, hn, ?_⟩⟩
        intro g p h1
        show I.v n = _
        rw [← hv]
        exact h1
      · cases h
    · cases h
  · cases hob
  · cases h

theorem takeObjs_rep (T : TakeCtx C I objs w S mf objs' bad') : ∀ {l : List OS} {o : Nat} {m m' : Met} {y : TObjs l}, takeObjs objs l o m = some (y, m') → Sub m' mf → (∀ k e t, l[k]? = some (.row e t) → osSz S.objs (o + k) = nleaf t) →
    ∀ k ob, getO (makeObjs id l y) k = some ob → ObjOk (newI I S mf) (Dom objs') w bad' (o + k) ob ∧ From I objs S mf (o + k) ob
  | [], o, m, m', y, _, _, _, k, ob, h => by simp [makeObjs, getO] at h
  | s :: ss, o, m, m', y, h, hs, hsz, k, ob, hk => by
    simp only [takeObjs] at h
    split at h
    · rename_i x m1 h1
      split at h
      · rename_i z m2 h2
        simp at h
        obtain ⟨rfl, rfl⟩ := h
        match k with
        | 0 =>
          simp only [makeObjs, getO] at hk
          exact OS.take_rep T h1 ((takeObjs_grow h2).1.trans hs) (fun e t he => hsz 0 e t (by simp [he])) hk
        | k + 1 =>
          simp only [makeObjs, getO] at hk
          have := takeObjs_rep T h2 hs (fun k e t he => by
            have := hsz (k + 1) e t (by simpa using he)
            rwa [show o + (k + 1) = o + 1 + k by omega] at this) k ob hk
          rwa [show o + (k + 1) = o + 1 + k by omega]
      · cases h
    · cases h

theorem osSz_get : ∀ (l : List OS) (k : Nat) (e : TypeId) (t : Ty), l[k]? = some (.row e t) → osSz l k = nleaf t
  | [], k, e, t, h => by simp at h
  | .row e' t' :: r, 0, e, t, h => by simp at h; rw [← h.2]; rfl
  | .box ls :: r, 0, e, t, h => by simp at h
  | .iter :: r, 0, e, t, h => by simp at h
  | .smap _ :: r, 0, e, t, h => by simp at h
  | .dead :: r, 0, e, t, h => by simp at h
  | .row e' t' :: r, k + 1, e, t, h => osSz_get r k e t (by simpa using h)
  | .box ls :: r, k + 1, e, t, h => osSz_get r k e t (by simpa using h)
  | .iter :: r, k + 1, e, t, h => osSz_get r k e t (by simpa using h)
  | .smap _ :: r, k + 1, e, t, h => osSz_get r k e t (by simpa using h)
  | .dead :: r, k + 1, e, t, h => osSz_get r k e t (by simpa using h)

theorem live_some : ∀ (l : List OS) (y : TObjs l) (k : Nat), liveO l k = true → (getO (makeObjs id l y) k).isSome = true
  | [], _, _, h => by cases h
  | .row _ _ :: _, _, 0, _ => rfl
  | .box _ :: _, _, 0, _ => rfl
  | .iter :: _, _, 0, _ => rfl
  | .smap _ :: _, _, 0, _ => rfl
  | .dead :: _, _, 0, h => by cases h
  | .row _ _ :: r, y, k + 1, h => live_some r y.2 k (by simpa [liveO] using h)
  | .box _ :: r, y, k + 1, h => live_some r y.2 k (by simpa [liveO] using h)
  | .iter :: r, y, k + 1, h => live_some r y.2 k (by simpa [liveO] using h)
  | .smap _ :: r, y, k + 1, h => live_some r y.2 k (by simpa [liveO] using h)
  | .dead :: r, y, k + 1, h => live_some r y.2 k (by simpa [liveO] using h)
end

theorem metBase_inj : ∀ n0, Inj (metBase n0) := by
  have hm : ∀ n0 o x, (o, x) ∈ metBase n0 → x = some o ∧ o < n0 := by
    intro n0
    induction n0 with
    | zero => intro o x h; simp [metBase] at h
    | succ n ih =>
      intro o x h
      simp only [metBase, List.mem_cons, Prod.mk.injEq] at h
      rcases h with ⟨rfl, rfl⟩ | h
      · exact ⟨rfl, by omega⟩
      · obtain ⟨a, b⟩ := ih o x h
        exact ⟨a, by omega⟩
  intro n0 o o' n h h'
  have h1 := (hm n0 o _ h).1
  have h2 := (hm n0 o' _ h').1
  rw [Option.some.injEq] at h1 h2
  omega
theorem metBase_find : ∀ {n0 k : Nat}, k < n0 → findId k (metBase n0) = some (some k)
  | 0, k, h => by omega
  | n + 1, k, h => by
    simp only [metBase, findId]
    cases hb : Nat.beq n k with
    | true =>
      have := Nat.eq_of_beq_eq_true hb
      subst this
      rfl
    | false =>
      have hne : n ≠ k := fun e => by subst e; rw [Nat.beq_refl] at hb; cases hb
      exact metBase_find (by omega)

theorem takeS_apart {S : Shape} {n0 : Nat} {get : Nat → Option Obj} {sl : Nat → Val} {x : Tup S} {m : Met} (h : takeS S n0 get sl = some (x, m)) : ∀ n o, n ∈ m.seen → (o, some n) ∈ m.ids → False := by
  unfold takeS at h
  split at h
  · rename_i xs m1 h1
    split at h
    · rename_i ys m2 h2
      cases hb : m2.apart && m2.live S.objs with
      | false => rw [hb] at h; cases h
      | true =>
        rw [hb] at h
        simp only [cond_true, Option.some.injEq, Prod.mk.injEq] at h
        obtain ⟨rfl, rfl⟩ := h
        simp only [Bool.and_eq_true] at hb
        intro n o hn ho
        have := List.all_eq_true.1 hb.1 n hn
        have h2 : (m2.ids.any fun p => isId n p.2) = true := List.any_eq_true.2 ⟨_, ho, isId_iff.2 rfl⟩
        rw [h2] at this
        cases this
    · cases h
  · cases h

/-- What 'takeS' gives, whoever takes: 'ban' is what the taker must keep its hands off. -/
theorem takeS_rep {C : Ctx} {I : Interp} {objs : Nat → Option Obj} {w : World} (R : WRel C I objs w) {S : Shape} {n0 : Nat} {sl : Nat → Val} {x : Tup S} {m : Met} (h : takeS S n0 objs sl = some (x, m)) {u : Nat → Value} (hu : ∀ i, VRep I (Dom objs) w (badOf C I objs) (sl i) (u i))
    (ban : Bad) (hban : ∀ g o, ban g o → C.ban g o ∨ ∃ id ob, objs id = some ob ∧ cellsOf I id ob g o ∧ ¬ Tied m id ∧ (id ∈ m.seen → ∀ e t xs, ob ≠ .row e t xs)) (D : Ctx) (hD : D.ban = ban) :
    let I' := newI I S m
    let objs' := (ofC S x).objs
    (∀ id ob, objs' id = some ob → ObjOk I' (Dom objs') w (badOf D I' objs') id ob) ∧
    (∀ id ob g o, objs' id = some ob → cellsOf I' id ob g o → ∃ n ob0, (id, some n) ∈ m.ids ∧ objs n = some ob0 ∧ cellsOf I n ob0 g o) ∧
    (∀ id id' ob ob' g o, objs' id = some ob → objs' id' = some ob' → cellsOf I' id ob g o → cellsOf I' id' ob' g o → id = id') ∧
    (∀ g o, MutOf I' objs' g o → ¬ ban g o) ∧
    (∀ i, VRep I' (Dom objs') w (badOf D I' objs') ((ofC S x).slots i) (u i)) ∧
    (∀ a v, At w (badOf C I objs) a v → At w (badOf D I' objs') a v) ∧
    (∀ o b, findId o m.ids = some b → Dom objs' o) ∧ Inj m.ids ∧ (∀ k, k < n0 → findId k m.ids = some (some k)) := by
  unfold takeS at h
  split at h
  · rename_i xs m1 h1
    split at h
    · rename_i ys m2 h2
      cases hb : m2.apart && m2.live S.objs with
      | false => rw [hb] at h; cases h
      | true =>
        rw [hb] at h
        simp only [cond_true, Option.some.injEq, Prod.mk.injEq] at h
        obtain ⟨rfl, rfl⟩ := h
        simp only [Bool.and_eq_true] at hb
        have hg1 := takeSlots_grow h1
        have hg2 := takeObjs_grow h2
        have hinj : Inj m2.ids := hg2.2 (hg1.2 (metBase_inj n0))
        have hdom : ∀ o b, findId o m2.ids = some b → Dom (ofC S (xs, ys)).objs o := by
          intro o b ho
          have := List.all_eq_true.1 hb.2 _ (findId_mem ho)
          exact live_some S.objs ys o this
        have hap : ∀ n o, n ∈ m2.seen → (o, some n) ∈ m2.ids → False := by
          intro n o hn ho
          have := List.all_eq_true.1 hb.1 n hn
          have h2 : (m2.ids.any fun p => isId n p.2) = true := List.any_eq_true.2 ⟨_, ho, isId_iff.2 rfl⟩
          rw [h2] at this
          cases this
        -- first: the cells of the new objects are old objects' cells; this needs only 'From', which we get with any 'bad''
        have key : ∀ bad' : Bad, (∀ g o, bad' g o → badOf C I objs g o) → (∀ n e t zs, n ∈ m2.seen → objs n = some (.row e t zs) → ∀ g o, bad' g o → ¬ cellsOf I n (.row e t zs) g o) →
            TakeCtx C I objs w S m2 (ofC S (xs, ys)).objs bad' := fun bad' hs hse => ⟨R, hs, hse, hdom⟩
        have hosz : ∀ k e t, S.objs[k]? = some (.row e t) → osSz S.objs (0 + k) = nleaf t := fun k e t hk => by rw [Nat.zero_add]; exact osSz_get S.objs k e t hk
        have from0 : ∀ k ob, (ofC S (xs, ys)).objs k = some ob → From I objs S m2 k ob := by
          intro k ob hk
          have T0 := key (fun _ _ => False) (fun _ _ h => h.elim) (fun _ _ _ _ _ _ _ _ h => h.elim)
          have := (takeObjs_rep T0 h2 (Sub.refl _) hosz k ob hk).2
          rwa [Nat.zero_add] at this
        have hcells : ∀ id ob g o, (ofC S (xs, ys)).objs id = some ob → cellsOf (newI I S m2) id ob g o → ∃ n ob0, (id, some n) ∈ m2.ids ∧ objs n = some ob0 ∧ cellsOf I n ob0 g o := by
          intro id ob g o hid hc
          rcases from0 id ob hid with ⟨n, ob0, hf, hn, hh⟩ | hh
          · exact ⟨n, ob0, findId_mem hf, hn, hh g o hc⟩
          · exact absurd hc (hh g o)
        have hsub : ∀ g o, badOf D (newI I S m2) (ofC S (xs, ys)).objs g o → badOf C I objs g o := by
          intro g o hb
          rcases hb with hb | ⟨id, ob, hid, hc⟩
          · rw [hD] at hb
            rcases hban g o hb with h3 | ⟨id, ob, h3, h4, _⟩
            · exact .inl h3
            · exact .inr ⟨id, ob, h3, h4⟩
          · obtain ⟨n, ob0, _, hn, hh⟩ := hcells id ob g o hid hc
            exact .inr ⟨n, ob0, hn, hh⟩
        have hseen : ∀ n e t zs, n ∈ m2.seen → objs n = some (.row e t zs) → ∀ g o, badOf D (newI I S m2) (ofC S (xs, ys)).objs g o → ¬ cellsOf I n (.row e t zs) g o := by
          intro n e t zs hn hrow g o hb hc
          rcases hb with hb | ⟨id, ob, hid, hc2⟩
          · rw [hD] at hb
            rcases hban g o hb with h3 | ⟨id, ob, h3, h4, _, h5⟩
            · exact R.noban g o ⟨n, _, hrow, hc⟩ h3
            · have := R.disj id n ob _ g o h3 hrow h4 hc
              subst this
              rw [h3] at hrow
              exact h5 hn _ _ _ (Option.some.inj hrow)
          · obtain ⟨n', ob0, hmem, hn', hh⟩ := hcells id ob g o hid hc2
            have := R.disj n' n ob0 _ g o hn' hrow hh hc
            subst this
            exact hap n' id hn hmem
        have T := key _ hsub hseen
        refine ⟨fun id ob hid => ?_, hcells, ?_, ?_, fun i => takeSlots_rep T hu h1 hg2.1 i, T.at_, hdom, hinj, fun k hk => hg2.1.1 _ _ (hg1.1.1 _ _ (metBase_find hk))⟩
        · have := (takeObjs_rep T h2 (Sub.refl _) hosz id ob hid).1
          rwa [Nat.zero_add] at this
        · intro id id' ob ob' g o h3 h4 h5 h6
          obtain ⟨n, ob0, hm1, hn1, hh1⟩ := hcells id ob g o h3 h5
          obtain ⟨n', ob0', hm2, hn2, hh2⟩ := hcells id' ob' g o h4 h6
          have := R.disj n n' ob0 ob0' g o hn1 hn2 hh1 hh2
          subst this
          exact hinj _ _ _ hm1 hm2
        · intro g o ⟨id, ob, h3, h4⟩ hb
          obtain ⟨n, ob0, hm1, hn1, hh1⟩ := hcells id ob g o h3 h4
          rcases hban g o hb with h5 | ⟨id2, ob2, h5, h6, h7, _⟩
          · exact R.noban g o ⟨n, ob0, hn1, hh1⟩ h5
          · have := R.disj id2 n ob2 ob0 g o h5 hn1 h6 hh1
            subst this
            exact h7 ⟨id, hm1⟩
    · cases h
  · cases h

end Go.Abs
