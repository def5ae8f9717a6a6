/- Addresses, cuts of slices, new rows, append. -/
import Derived.Test.YtcljanaleeapnaaDoorAbs9
import Derived.Maps.AppendAt
set_option linter.unusedVariables false
set_option linter.unusedSimpArgs false
namespace Go.Abs
open Go

section
variable {C : Ctx} {I : Interp} {objs : Nat → Option Obj} {w : World}

theorem sliceElem_of {P : Program} {t e : TypeId} (h : sliceElem P t = some e) : P.underlying t = some (.slice e) := by
  unfold sliceElem at h
  split at h
  · rename_i hh
    obtain rfl := Option.some.inj h
    exact hh
  · cases h

theorem ptr_rep {cs : List DLeaf} {vs : List Value} {bad : Bad} {dom : Nat → Prop} {a : Addr} (hf : F2 (DRep w bad) cs vs) (hr : RowAt w bad a vs) : VRep I dom w bad (lf1 (.dp cs)) (.pointer (some a)) := ⟨a, vs, rfl, hf, hr⟩

theorem RowAt.drop {bad : Bad} {a : Addr} {vs : List Value} (h : RowAt w bad a vs) (k : Nat) : RowAt w bad (a.add k) (vs.drop k) := by
  intro i v hi
  rw [addr_add_add]
  rw [List.getElem?_drop] at hi
  exact h _ _ hi
theorem RowAt.take {bad : Bad} {a : Addr} {vs : List Value} (h : RowAt w bad a vs) (k : Nat) : RowAt w bad a (vs.take k) := by
  intro i v hi
  rw [List.getElem?_take] at hi
  split at hi
  · exact h _ _ hi
  · cases hi

/-! fieldAddr -/
theorem fieldPl_of {P : Program} {t : TypeId} {f off n : Nat} {ft : TypeId} (h : fieldPl P t f = some (off, n, ft)) : ∃ (fs : Array Field) (g : Field), P.underlying t = some (.struct fs) ∧ fs[f]? = some g ∧ g.offset = off ∧ P.cellsOf g.type = n ∧ g.type = ft := by
  unfold fieldPl at h
  split at h
  · rename_i fs hfs
    split at h
    · rename_i g hg
      simp only [Option.some.injEq, Prod.mk.injEq] at h
      refine ⟨fs, g, hfs, ?_, h.1, h.2.1, h.2.2⟩
      have : ∀ (l : List Field) (i : Nat), getL l i = l[i]? := by
        intro l
        induction l with
        | nil => intro i; simp [getL]
        | cons x r ih => intro i; cases i <;> simp [getL, ih]
      rw [this] at hg
      simpa using hg
    · cases h
  · cases h

theorem fieldE_of (R : WRel C I objs w) {t : TypeId} {x v : Val} {f : Nat} {u : Value} (h : fieldE C.E.P t x f = some v) (hx : VRep I (Dom objs) w (badOf C I objs) x u) :
    ∃ y, (Instr.fieldAt t u f).run C.E.P w = .ok y w ∧ VRep I (Dom objs) w (badOf C I objs) v y := by
  unfold fieldE at h
  split at h
  · rename_i off n ft hpl
    obtain ⟨fs, g, hu, hg, rfl, rfl, rfl⟩ := fieldPl_of hpl
    cases hn : Nat.beq (C.E.P.cellsOf g.type) 0 with
    | true => rw [hn] at h; cases h
    | false =>
      rw [hn] at h
      simp only [cond_false] at h
      have hn0 : C.E.P.cellsOf g.type ≠ 0 := by
        intro e
        rw [e] at hn
        cases hn
      obtain ⟨i, hi⟩ := info_of_cells hn0
      have key : ∀ a : Addr, u = .pointer (some a) → (Instr.fieldAt t u f).run C.E.P w = .ok (.pointer (some (a.add g.offset))) w := by
        intro a e
        subst e
        rw [cellsOf_info hi] at hn0
        simp [Instr.fieldAt, run_underlying hu, hg, Instr.sureAddr, fieldPlace, sizeOf_run hi, hn0]
      split at h
      · rename_i b o
        obtain rfl := Option.some.inj h
        obtain ⟨hd, g', o', hv, hx⟩ := hx
        exact ⟨_, key _ hx, hd, g', o', hv, by rw [addr_add, Nat.add_assoc]⟩
      · rename_i r i' o
        obtain rfl := Option.some.inj h
        obtain ⟨hd, g', n', c', hv, hi', hx⟩ := hx
        exact ⟨_, key _ hx, hd, g', n', c', hv, hi', by rw [addr_add, Nat.add_assoc]⟩
      · rename_i cs
        obtain rfl := Option.some.inj h
        obtain ⟨a, vs, hx, hf, hr⟩ := hx
        exact ⟨_, key _ hx, ptr_rep (hf.drop g.offset) (hr.drop g.offset)⟩
      · cases h
  · cases h

/-! indexAddr -/
theorem indexAt_slice (P : Program) (w : World) {t e : TypeId} (ht : P.underlying t = some (.slice e)) {i : TypeInfo} (hi : P.info? e = some i) (a : Addr) (n c : Nat) (k : IntKind) (x : Int) (h0 : 0 ≤ x) (h1 : x < n) :
    (Instr.indexAt t (.slice (some a) n c) (.int k x)).run P w = .ok (.pointer (some (a.add (x.toNat * i.size)))) w := by
  simp [Instr.indexAt, asIntOf, run_underlying ht, sizeOf_run hi, h0, h1]
theorem indexAt_array (P : Program) (w : World) {t e : TypeId} {n : Nat} (ht : P.underlying t = some (.array n e)) {i : TypeInfo} (hi : P.info? e = some i) (a : Addr) (k : IntKind) (x : Int) (h0 : 0 ≤ x) (h1 : x < n) :
    (Instr.indexAt t (.pointer (some a)) (.int k x)).run P w = .ok (.pointer (some (a.add (x.toNat * i.size)))) w := by
  simp [Instr.indexAt, asIntOf, run_underlying ht, Instr.sureAddr, sizeOf_run hi, h0, h1]

theorem selE_of {α : Type} {i : Int} {f : Nat → Option α} : ∀ {n j : Nat} {r : α}, (selE i f j n).den = some r → ∃ k, j ≤ k ∧ k < j + n ∧ i = (k : Int) ∧ f k = some r
  | 0, j, r, h => by simp [selE, Eff.den] at h
  | n + 1, j, r, h => by
    simp only [selE, Eff.den] at h
    cases hb : (i == (j : Int)) with
    | true =>
      rw [hb] at h
      simp only [cond_true] at h
      refine ⟨j, Nat.le_refl _, by omega, by simpa using hb, ?_⟩
      split at h
      · rename_i a ha
        simp only [Eff.den, Option.some.injEq] at h
        rw [ha, h]
      · cases h
    | false =>
      rw [hb] at h
      simp only [cond_false] at h
      obtain ⟨k, h1, h2, h3, h4⟩ := selE_of h
      exact ⟨k, by omega, by omega, h3, h4⟩

theorem intsOf_of {bad : Bad} {k : IntKind} : ∀ {ds : List DLeaf} {ns : List Int} {vs : List Value}, intsOf k ds = some ns → F2 (DRep w bad) ds vs → vs = ns.map (.int k ·)
  | [], ns, [], h, _ => by simp [intsOf] at h; subst h; rfl
  | [], ns, _ :: _, _, hf => hf.elim
  | d :: ds, ns, [], _, hf => hf.elim
  | .dat _ _ :: ds, ns, _ :: _, h, _ => by simp [intsOf] at h
  | .v x :: ds, ns, v :: vs, h, hf => by
    cases x <;> try (simp [intsOf] at h; done)
    rename_i k' n
    simp only [intsOf] at h
    split at h
    · rename_i hk
      subst hk
      split at h
      · rename_i l hl
        obtain rfl := Option.some.inj h
        rw [intsOf_of hl hf.2, hf.1.1]
        rfl
      · cases h
    · cases h

theorem arrElem_of {P : Program} {t : TypeId} {n : Nat} {e : TypeId} (h : arrElem P t = some (n, e)) : P.underlying t = some (.array n e) ∧ ∃ i, P.info? e = some i ∧ P.cellsOf e = i.size := by
  unfold arrElem at h
  split at h
  · rename_i m e' hu
    cases hb : Nat.ble 1 (P.cellsOf e') with
    | false => rw [hb] at h; cases h
    | true =>
      rw [hb] at h
      simp only [cond_true, Option.some.injEq, Prod.mk.injEq] at h
      obtain ⟨rfl, rfl⟩ := h
      have := Nat.le_of_ble_eq_true hb
      obtain ⟨i, hi⟩ := info_of_cells (P := P) (t := e') (by omega)
      exact ⟨hu, i, hi, cellsOf_info hi⟩
  · cases h

theorem info_of_size {P : Program} {e : TypeId} {t : Ty} (h : nleaf t = P.cellsOf e) : ∃ i, P.info? e = some i ∧ i.size = nleaf t := by
  have h0 : P.cellsOf e ≠ 0 := by have := nleaf_pos t; omega
  obtain ⟨i, hi⟩ := info_of_cells h0
  exact ⟨i, hi, by rw [h, cellsOf_info hi]⟩

theorem bif_some {P : Program} {t : TypeId} {ty : Ty} (h : elemFits P t ty = true) : ∃ e, P.underlying t = some (.slice e) ∧ nleaf ty = P.cellsOf e := by
  unfold elemFits at h
  split at h
  · rename_i e he
    exact ⟨e, sliceElem_of he, Nat.eq_of_beq_eq_true h⟩
  · cases h

theorem grd_of {α : Type} {c : Bool} {k : Eff α} {r : α} (h : (Eff.grd c k).den = some r) : c = true ∧ k.den = some r := by
  simp only [Eff.den] at h
  cases c
  · cases h
  · exact ⟨rfl, h⟩

theorem idxE_of (R : WRel C I objs w) {t : TypeId} {x : Val} {n : Int} {out : Out} {u : Value} {k : IntKind} (h : (idxE objs C.E t x n).den = some out) (hx : VRep I (Dom objs) w (badOf C I objs) x u) :
    ∃ y, (Instr.indexAt t u (.int k n)).run C.E.P w = .ok y w ∧ VRep I (Dom objs) w (badOf C I objs) out.val y ∧ out.wr = [] := by
  have datCase : ∀ (ty : Ty) (xs : List (El ty)) (rs : List Nat), CellsOk w (badOf C I objs) (.slc ty) xs [u] → (∃ e, C.E.P.underlying t = some (.slice e) ∧ nleaf ty = C.E.P.cellsOf e) → 0 ≤ n → n < (xs.length : Int) →
      ∃ y, (Instr.indexAt t u (.int k n)).run C.E.P w = .ok y w ∧ VRep I (Dom objs) w (badOf C I objs) (lf1 (.dp (leaves ty (xs.getD n.toNat (dflt ty))))) y := by
    intro ty xs rs hc ⟨e, he, hn⟩ h0 h1
    obtain ⟨i, hi, hsz⟩ := info_of_size hn
    obtain ⟨ad, c, es, hu, hce, hrow⟩ := datElem hc (i := n.toNat) (by omega)
    subst hu
    refine ⟨_, indexAt_slice _ _ he hi ad _ c k n h0 h1, ?_⟩
    rw [hsz]
    exact ptr_rep (leaves_of ty _ _ hce) hrow
  have datE : ∀ (ty : Ty) (xs : List (El ty)) (rd : List Nat), CellsOk w (badOf C I objs) (.slc ty) xs [u] → (idxDat C.E.P t ty xs n rd).den = some out →
      ∃ y, (Instr.indexAt t u (.int k n)).run C.E.P w = .ok y w ∧ VRep I (Dom objs) w (badOf C I objs) out.val y ∧ out.wr = [] := by
    intro ty xs rd hc h
    unfold idxDat at h
    cases hb : elemFits C.E.P t ty with
    | false => rw [hb] at h; cases h
    | true =>
      rw [hb] at h
      obtain ⟨h0, h⟩ := grd_of h
      obtain ⟨h1, h⟩ := grd_of h
      simp only [Eff.den, Option.some.injEq] at h
      subst h
      obtain ⟨y, hy, hr⟩ := datCase ty xs [] hc (bif_some hb) (of_decide_eq_true h0) (of_decide_eq_true h1)
      exact ⟨y, hy, hr, rfl⟩
  unfold idxE at h
  split at h
  · exact datE _ _ _ hx h
  · rename_i r
    split at h
    · rename_i e' ty xs hr
      cases hb : elemFits C.E.P t ty with
      | false => rw [hb] at h; cases h
      | true =>
        rw [hb] at h
        obtain ⟨h0, h⟩ := grd_of h
        obtain ⟨h1, h⟩ := grd_of h
        simp only [Eff.den, Option.some.injEq] at h
        subst h
        obtain ⟨e, he, hn⟩ := bif_some hb
        obtain ⟨i, hi, hsz⟩ := info_of_size hn
        obtain ⟨hs, cells, hrow, ho⟩ := R.ok r _ hr
        have h0' := of_decide_eq_true h0
        have h1' := of_decide_eq_true h1
        rcases ownsRow_shape ho with ⟨_, h2⟩ | ⟨g2, c2, h2, _⟩
        · omega
        · rw [hx.2.1, h2]
          exact ⟨_, indexAt_slice _ _ he hi ⟨g2, 0, none⟩ _ c2 k n h0' h1', ⟨hx.1, g2, xs.length, c2, h2, by omega, by rw [addr_add, hsz, hs, Nat.zero_add, Nat.add_zero]⟩, rfl⟩
    · rename_i ty xs hr
      have := (R.ok r _ hr).2
      rw [← hx.2.1] at this
      exact datE _ _ _ this h
    · cases h
  · rename_i b off
    split at h
    · rename_i m e he
      obtain ⟨j, _, hj, rfl, hf⟩ := selE_of h
      obtain rfl := Option.some.inj hf
      obtain ⟨hd, g, o, hv, rfl⟩ := hx
      obtain ⟨hu, i, hi, hsz⟩ := arrElem_of he
      refine ⟨_, indexAt_array _ _ hu hi ⟨g, o + off, none⟩ k (j : Int) (by omega) (by omega), ⟨hd, g, o, hv, ?_⟩, rfl⟩
      rw [addr_add, Int.toNat_natCast, Nat.add_assoc, hsz]
    · cases h
  · rename_i r i' off
    split at h
    · rename_i m e he
      obtain ⟨j, _, hj, rfl, hf⟩ := selE_of h
      obtain rfl := Option.some.inj hf
      obtain ⟨hd, g, n', c', hv, hi', rfl⟩ := hx
      obtain ⟨hu, i, hi, hsz⟩ := arrElem_of he
      refine ⟨_, indexAt_array _ _ hu hi ⟨g, i' * I.sz r + off, none⟩ k (j : Int) (by omega) (by omega), ⟨hd, g, n', c', hv, hi', ?_⟩, rfl⟩
      rw [addr_add, Int.toNat_natCast, Nat.add_assoc, hsz]
    · cases h
  · rename_i cs
    split at h
    · rename_i m e he
      obtain ⟨a, vs, rfl, hf, hr⟩ := hx
      obtain ⟨hu, i, hi, hsz⟩ := arrElem_of he
      have sel : (selE n (fun j => some (⟨lf1 (.dp (List.drop (j * C.E.P.cellsOf e) cs)), [], []⟩ : Out)) 0 m).den = some out →
          ∃ y, (Instr.indexAt t (.pointer (some a)) (.int k n)).run C.E.P w = .ok y w ∧ VRep I (Dom objs) w (badOf C I objs) out.val y ∧ out.wr = [] := by
        intro h
        obtain ⟨j, _, hj, rfl, hf2⟩ := selE_of h
        obtain rfl := Option.some.inj hf2
        refine ⟨_, indexAt_array _ _ hu hi a k (j : Int) (by omega) (by omega), ?_, rfl⟩
        rw [Int.toNat_natCast, ← hsz]
        exact ptr_rep (hf.drop _) (hr.drop _)
      unfold idxTab at h
      split at h
      · rename_i k' z rest
        split at h
        · rename_i ns hns
          cases hb : (Nat.beq (C.E.P.cellsOf e) 1 && Nat.beq (List.length ns) m) with
          | false => rw [hb] at h; exact sel h
          | true =>
            rw [hb] at h
            simp only [Bool.and_eq_true] at hb
            have hb1 := Nat.eq_of_beq_eq_true hb.1
            have hb2 := Nat.eq_of_beq_eq_true hb.2
            obtain ⟨h0, h⟩ := grd_of h
            obtain ⟨h1, h⟩ := grd_of h
            simp only [Eff.den, Option.some.injEq] at h
            subst h
            have h0' := of_decide_eq_true h0
            have h1' := of_decide_eq_true h1
            have hv := intsOf_of hns (hf.take m)
            have hlt : n.toNat < ns.length := by omega
            have hget : vs[n.toNat]? = some (.int k' (ns.getD n.toNat 0)) := by
              have : (vs.take m)[n.toNat]? = some (.int k' (ns.getD n.toNat 0)) := by
                rw [hv, List.getElem?_map, getD_of 0 hlt]
                rfl
              rw [List.getElem?_take] at this
              split at this
              · exact this
              · cases this
            refine ⟨_, indexAt_array _ _ hu hi a k n h0' h1', ?_, rfl⟩
            rw [← hsz, hb1, Nat.mul_one]
            refine ⟨_, [.int k' (ns.getD n.toNat 0)], rfl, ⟨⟨rfl, rfl⟩, trivial⟩, fun q v hq => ?_⟩
            match q with
            | 0 =>
              simp at hq
              subst hq
              rw [addr_add_zero]
              exact hr _ _ (by simpa using hget)
            | q + 1 => simp at hq
        · exact sel h
      · exact sel h
    · cases h
  · cases h

end
end Go.Abs
