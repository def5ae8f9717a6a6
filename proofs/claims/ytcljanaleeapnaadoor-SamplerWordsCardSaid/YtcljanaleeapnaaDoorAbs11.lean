/- Cuts of slices and strings; new rows; append; copy. -/
import Derived.Test.YtcljanaleeapnaaDoorAbs10
set_option linter.unusedVariables false
set_option linter.unusedSimpArgs false
namespace Go.Abs
open Go

section
variable {C : Ctx} {I : Interp} {objs : Nat → Option Obj} {w : World}

/-! ### Bounds -/
theorem cutGrd_of {α : Type} {n : Nat} {lo hi : Option Int} {e : Eff α} {r : α} (h : (cutGrd (n : Int) lo hi e).den = some r) :
    e.den = some r ∧ ∃ l h : Nat, l ≤ h ∧ h ≤ n ∧ (lo = none → l = 0) ∧ (∀ x, lo = some x → 0 ≤ x ∧ x.toNat = l) ∧ (hi = none → h = n) ∧ (∀ x, hi = some x → 0 ≤ x ∧ x.toNat = h) := by
  unfold cutGrd at h
  split at h
  · exact ⟨h, 0, n, Nat.zero_le _, Nat.le_refl _, fun _ => rfl, fun x e => (by cases e), fun _ => rfl, fun x e => (by cases e)⟩
  · rename_i l
    obtain ⟨h0, h⟩ := grd_of h
    obtain ⟨h1, h⟩ := grd_of h
    have h0' := of_decide_eq_true h0
    have h1' := of_decide_eq_true h1
    exact ⟨h, l.toNat, n, by omega, Nat.le_refl _, fun e => (by cases e), fun x e => (by cases e; exact ⟨h0', rfl⟩), fun _ => rfl, fun x e => (by cases e)⟩
  · rename_i hh
    obtain ⟨h0, h⟩ := grd_of h
    obtain ⟨h1, h⟩ := grd_of h
    have h0' := of_decide_eq_true h0
    have h1' := of_decide_eq_true h1
    exact ⟨h, 0, hh.toNat, Nat.zero_le _, by omega, fun _ => rfl, fun x e => (by cases e), fun e => (by cases e), fun x e => (by cases e; exact ⟨h0', rfl⟩)⟩
  · rename_i l hh
    obtain ⟨h0, h⟩ := grd_of h
    obtain ⟨h1, h⟩ := grd_of h
    obtain ⟨h2, h⟩ := grd_of h
    have h0' := of_decide_eq_true h0
    have h1' := of_decide_eq_true h1
    have h2' := of_decide_eq_true h2
    exact ⟨h, l.toNat, hh.toNat, by omega, by omega, fun e => (by cases e), fun x e => (by cases e; exact ⟨h0', rfl⟩), fun e => (by cases e), fun x e => (by cases e; exact ⟨by omega, rfl⟩)⟩

/-- An operand that is a bound. -/
def BoundIs (o : Option Value) (x : Option Int) : Prop :=
  match o, x with
  | none, none => True
  | some v, some n => ∃ k, v = .int k n
  | _, _ => False

theorem bounds_run (P : Program) (w : World) {isS : Bool} {n cap : Nat} {lo hi : Option Value} {lo' hi' : Option Int} {l h : Nat} (hlo : BoundIs lo lo') (hhi : BoundIs hi hi') (hlh : l ≤ h) (hhn : h ≤ n) (hnc : n ≤ cap)
    (h1 : lo' = none → l = 0) (h2 : ∀ x, lo' = some x → 0 ≤ x ∧ x.toNat = l) (h3 : hi' = none → h = n) (h4 : ∀ x, hi' = some x → 0 ≤ x ∧ x.toNat = h) :
    (Instr.sliceBounds isS n cap lo hi none).run P w = .ok (l, h, cap) w := by
  have hbd : ∀ (k : IntKind) (x : Int) (y : Nat) (c : BoundsCode), 0 ≤ x → x.toNat ≤ y → (Instr.sliceBound (.int k x) y c).run P w = .ok x.toNat w := fun k x y c a b => run_sliceBound (w := w) k x y c a (by omega)
  match lo, lo', hi, hi' with
  | none, none, none, none =>
    rw [h1 rfl, h3 rfl]
    simp [Instr.sliceBounds]
  | some v, some x, none, none =>
    obtain ⟨k, rfl⟩ := hlo
    obtain ⟨a, rfl⟩ := h2 x rfl
    rw [h3 rfl] at hlh ⊢
    simp [Instr.sliceBounds, hbd k x n _ a hlh]
  | none, none, some v, some x =>
    obtain ⟨k, rfl⟩ := hhi
    obtain ⟨a, rfl⟩ := h4 x rfl
    rw [h1 rfl]
    simp [Instr.sliceBounds, hbd k x cap _ a (by omega)]
  | some v, some x, some u, some y =>
    obtain ⟨k, rfl⟩ := hlo
    obtain ⟨k', rfl⟩ := hhi
    obtain ⟨a, rfl⟩ := h2 x rfl
    obtain ⟨b, rfl⟩ := h4 y rfl
    simp [Instr.sliceBounds, hbd k' y cap _ b (by omega), hbd k x y.toNat _ a hlh]
  | none, some _, _, _ => exact hlo.elim
  | some _, none, _, _ => exact hlo.elim
  | _, _, none, some _ => exact hhi.elim
  | _, _, some _, none => exact hhi.elim

theorem cutList_eq {α : Type} {xs : List α} {lo hi : Option Int} {l h : Nat} (hlen : h ≤ xs.length) (h1 : lo = none → l = 0) (h2 : ∀ x, lo = some x → 0 ≤ x ∧ x.toNat = l) (h3 : hi = none → h = xs.length) (h4 : ∀ x, hi = some x → 0 ≤ x ∧ x.toNat = h) :
    cutList xs lo hi = (xs.take h).drop l := by
  match lo, hi with
  | none, none => rw [h1 rfl, h3 rfl]; simp [cutList]
  | some x, none => rw [h3 rfl, ← (h2 x rfl).2]; simp [cutList]
  | none, some y => rw [h1 rfl, ← (h4 y rfl).2]; simp [cutList]
  | some x, some y => rw [← (h2 x rfl).2, ← (h4 y rfl).2]; simp [cutList]

theorem cutData {bad : Bad} {t : Ty} {xs : List (El t)} {A : Option Addr} {c : Nat} (hc : CellsOk w bad (.slc t) xs [.slice A xs.length c]) {l h : Nat} (hlh : l ≤ h) (hhn : h ≤ xs.length) :
    CellsOk w bad (.slc t) ((xs.take h).drop l) [.slice (if c = l then A else A.map (·.add (l * nleaf t))) (h - l) (c - l)] := by
  obtain ⟨A', c', es, e, hcap, hr, hp⟩ := hc
  simp at e
  obtain ⟨rfl, rfl⟩ := e
  have hlen := hr.length (CellsOk.length t)
  refine ⟨_, _, (es.take (h * nleaf t)).drop (l * nleaf t), by rw [List.length_drop, List.length_take, Nat.min_eq_left hhn], ?_, (hr.take (CellsOk.length t) h).drop (CellsOk.length t) l, ?_⟩
  · rw [List.length_drop, List.length_take, Nat.min_eq_left hhn]; omega
  · rcases hp with hp | ⟨ad, rfl, hrow⟩
    · left; rw [hp]; simp
    · by_cases hcl : c = l
      · left
        have : h = l := by omega
        subst this
        rw [List.drop_eq_nil_of_le]
        rw [List.length_take]
        exact Nat.min_le_left _ _
      · right
        refine ⟨ad.add (l * nleaf t), by rw [if_neg hcl]; rfl, (hrow.take _).drop _⟩

theorem slice_run (P : Program) (w : World) {t e : TypeId} (ht : P.underlying t = some (.slice e)) {i : TypeInfo} (hi : P.info? e = some i) {A : Option Addr} {n c l h : Nat} {lo hi' : Option Value} (hb : (Instr.sliceBounds true n c lo hi' none).run P w = .ok (l, h, c) w) :
    (Instr.sliceAt t (.slice A n c) lo hi' none).run P w = .ok (.slice (if c = l then A else A.map (·.add (l * i.size))) (h - l) (c - l)) w := by
  simp [Instr.sliceAt, run_underlying ht, Instr.slice, hb, sizeOf_run hi]
theorem sliceStr_run (P : Program) (w : World) {t : TypeId} (ht : P.underlying t = some .string) {s : ByteArray} {l h : Nat} {lo hi' : Option Value} (hb : (Instr.sliceBounds false s.size s.size lo hi' none).run P w = .ok (l, h, s.size) w) :
    (Instr.sliceAt t (.string s) lo hi' none).run P w = .ok (.string (s.extract l h)) w := by
  simp [Instr.sliceAt, run_underlying ht, Instr.slice, hb]

/-- A cut of a slice: what it comes to. -/
theorem sliceDat_of {bad : Bad} {dom : Nat → Prop} {t : TypeId} {ty : Ty} {xs : List (El ty)} {u : Value} {lo hi : Option Int} {vlo vhi : Option Value} {r : Out} {e : Eff Out} (hc : CellsOk w bad (.slc ty) xs [u]) (hf : elemFits C.E.P t ty = true)
    (h : (cutGrd (xs.length : Int) lo hi e).den = some r) (hlo : BoundIs vlo lo) (hhi : BoundIs vhi hi) :
    e.den = some r ∧ ∃ y, (Instr.sliceAt t u vlo vhi none).run C.E.P w = .ok y w ∧ VRep I dom w bad (lf1 (.d (.dat ty (cutList xs lo hi)))) y := by
  obtain ⟨he, l, hh, hlh, hhn, h1, h2, h3, h4⟩ := cutGrd_of h
  refine ⟨he, ?_⟩
  obtain ⟨e', heu, hn⟩ := bif_some hf
  obtain ⟨i, hi', hsz⟩ := info_of_size hn
  have hc' := hc
  obtain ⟨A, c, es, eu, hcap, _⟩ := hc
  simp at eu
  subst eu
  have hb := bounds_run C.E.P w (isS := true) (n := xs.length) (cap := c) hlo hhi hlh hhn hcap h1 h2 h3 h4
  refine ⟨_, slice_run C.E.P w heu hi' hb, ?_⟩
  rw [cutList_eq hhn h1 h2 h3 h4, hsz]
  exact cutData hc' hlh hhn

end
end Go.Abs
