/- New rows: literals, make, append; cuts. -/
import Derived.Test.YtcljanaleeapnaaDoorAbs11
set_option linter.unusedVariables false
set_option linter.unusedSimpArgs false
namespace Go.Abs
open Go

section
variable {C : Ctx} {I : Interp} {objs : Nat → Option Obj} {w : World}

def oldWr : Option Nat → List (Nat × Obj)
  | some r => [(r, .gone)]
  | none => []
def oldBlock (I : Interp) : Option Nat → Option Nat
  | some r => (I.v r).ownBlock
  | none => none

theorem ownsRow_one {e : TypeId} {size n : Nat} {v : Value} {xs : List Value} (h : w.ownsRow 0 e size v n xs) : v.oneCell' = true := by
  rcases ownsRow_shape h with ⟨h1, _⟩ | ⟨g, c, h1, _⟩ <;> rw [h1] <;> rfl

theorem ownNew (R : WRel C I objs w) {fr : Nat} (hfr : objs fr = none) (old : Option Nat) {e : TypeId} {t : Ty} {xs : List (El t)} {v' : Value} {w' : World} {cells : List Value}
    (hold : ∀ r, old = some r → ∃ e0 t0 xs0, objs r = some (.row e0 t0 xs0))
    (hg : w.grownBy w' (oldBlock I old))
    (hr : Rows (CellsOk w (badOf C I objs) t) xs cells)
    (ho : w'.ownsRow 0 e (nleaf t) v' xs.length cells)
    (hat : ∀ k, v'.ownBlock = some k → w.heap.size ≤ k ∨ oldBlock I old = some k) :
    StepOk C I objs w (lf1 (.own fr)) (oldWr old ++ [(fr, .row e t xs)]) v' w' := by
  let I' : Interp := ⟨upd I.v fr v', upd I.sz fr (nleaf t)⟩
  have hne : ∀ id, Dom objs id → id ≠ fr := by
    intro id hd e
    subst e
    simp [Dom, hfr] at hd
  have hobj : ∀ id, putWr objs (oldWr old ++ [(fr, .row e t xs)]) id = if id = fr then some (.row e t xs) else if old = some id then some .gone else objs id := by
    intro id
    cases old with
    | none =>
      show upd objs fr _ id = _
      by_cases h : id = fr
      · subst h; rw [upd_same, if_pos rfl]
      · rw [upd_other _ _ _ _ h, if_neg h, if_neg (by simp)]
    | some r =>
      show upd (upd objs r _) fr _ id = _
      by_cases h : id = fr
      · subst h; rw [upd_same, if_pos rfl]
      · rw [upd_other _ _ _ _ h, if_neg h]
        by_cases h2 : id = r
        · subst h2; rw [upd_same, if_pos rfl]
        · rw [upd_other _ _ _ _ h2, if_neg (by simpa using fun e => h2 e.symm)]
  generalize hgen : putWr objs (oldWr old ++ [(fr, .row e t xs)]) = objs' at hobj
  have hblk : ∀ r g, old = some r → (I.v r).ownBlock = some g → ∃ e0 t0 xs0, objs r = some (.row e0 t0 xs0) ∧ ∃ n c, I.v r = .slice (some ⟨g, 0, none⟩) n c := by
    intro r g hro hb
    obtain ⟨e0, t0, xs0, hrow⟩ := hold r hro
    refine ⟨e0, t0, xs0, hrow, ?_⟩
    obtain ⟨_, cells0, _, ho0⟩ := R.ok r _ hrow
    rcases ownsRow_shape ho0 with ⟨h1, _⟩ | ⟨g2, c, h1, _⟩
    · rw [h1] at hb; cases hb
    · rw [h1] at hb
      simp [Value.ownBlock] at hb
      subst hb
      exact ⟨_, c, h1⟩
  have hU := R.upd (I' := I') (objs' := objs') (w' := w') (fun g _ => oldBlock I old = some g) (fun id => id = fr ∨ old = some id)
    ⟨hg.os, hg.tape, hg.output, hg.size, fun k hk => by
      by_cases h : some k = oldBlock I old
      · exact .inl fun _ => h.symm
      · exact .inr (.inl (hg.block k hk h))⟩
    (fun g o h => by
      cases old with
      | none => cases h
      | some r =>
        obtain ⟨e0, t0, xs0, h1, h2⟩ := hblk r g rfl h
        exact ⟨r, _, .inr rfl, h1, h2⟩)
    (fun id hd => ⟨upd_other _ _ _ _ (hne id hd), upd_other _ _ _ _ (hne id hd)⟩)
    (fun id hd => by
      simp only [Dom, hobj, if_neg (hne id hd)]
      split
      · rfl
      · exact hd)
    (fun id h => by
      rw [hobj, if_neg (fun e => h (.inl e)), if_neg (fun e => h (.inr e))])
    (fun id ob' h ho1 g o hc => by
      rw [hobj] at ho1
      by_cases hid : id = fr
      · subst hid
        rw [if_pos rfl] at ho1
        obtain rfl := Option.some.inj ho1
        obtain ⟨n, c, hv⟩ := hc
        simp only [I', upd_same] at hv
        refine ⟨?_, ?_⟩
        · rcases hat g (by rw [hv]; rfl) with h1 | h1
          · exact .inr h1
          · left
            cases old with
            | none => cases h1
            | some r =>
              obtain ⟨e0, t0, xs0, h2, h3⟩ := hblk r g rfl h1
              exact ⟨r, _, .inr rfl, h2, h3⟩
        · rcases ownsRow_shape ho with ⟨h1, _⟩ | ⟨g2, c2, h1, h2⟩
          · rw [hv] at h1; cases h1
          · rw [hv] at h1
            injection h1 with h1 _ _; injection h1 with h1; injection h1 with h1
            rw [h1]; exact h2
      · rw [if_neg hid, if_pos (h.resolve_left hid)] at ho1
        obtain rfl := Option.some.inj ho1
        exact hc.elim)
    (fun id id' ob ob' g o h h' h1 h1' h2 h2' => by
      rw [hobj] at h1 h1'
      by_cases hid : id = fr
      · by_cases hid' : id' = fr
        · exact hid.trans hid'.symm
        · rw [if_neg hid', if_pos (h'.resolve_left hid')] at h1'
          obtain rfl := Option.some.inj h1'
          exact h2'.elim
      · rw [if_neg hid, if_pos (h.resolve_left hid)] at h1
        obtain rfl := Option.some.inj h1
        exact h2.elim)
    (fun K id ob' h ho1 => by
      rw [hobj] at ho1
      by_cases hid : id = fr
      · subst hid
        rw [if_pos rfl] at ho1
        obtain rfl := Option.some.inj ho1
        refine ⟨by simp only [I', upd_same], cells, hr.imp (fun x c => CellsOk.mono K.ha t x c), ?_⟩
        simp only [I', upd_same]
        exact ho
      · rw [if_neg hid, if_pos (h.resolve_left hid)] at ho1
        obtain rfl := Option.some.inj ho1
        trivial)
  have hd : Dom objs' fr := by simp [Dom, hobj]
  unfold StepOk
  rw [hgen]
  exact ⟨I', hU.1, hU.2, hd, by simp only [I', upd_same], ownsRow_one ho⟩

/-- Frozen first, then more. -/
theorem StepOk.after {I1 : Interp} {objs1 : Nat → Option Obj} {l m : List (Nat × Obj)} {val : Val} {v : Value} {w' : World} (hl : putWr objs l = objs1) (K : Keep I (Dom objs) w (badOf C I objs) I1 (Dom objs1) w (badOf C I1 objs1))
    (h : StepOk C I1 objs1 w val m v w') : StepOk C I objs w val (List.append l m) v w' := by
  obtain ⟨I', h1, h2, h3⟩ := h
  unfold StepOk
  rw [putWr_append, hl]
  exact ⟨I', h1, K.trans h2, h3⟩

/-! ### append -/
/-- A slice whose elements can be read now. -/
def Src (w : World) (bad : Bad) (ty : Ty) (ys : List (El ty)) (u : Value) : Prop :=
  ∃ A c es, u = .slice A ys.length c ∧ ys.length ≤ c ∧ Rows (CellsOk w bad ty) ys es ∧ (es = [] ∨ ∃ ad, A = some ad ∧ ∀ (j : Nat) (v : Value), es[j]? = some v → w.cell? (ad.add j) = some v)

theorem append_core {P : Program} {bad : Bad} {t e : TypeId} {ty : Ty} (ht : P.underlying t = some (.slice e)) (hn : nleaf ty = P.cellsOf e) {z : Value} {i : TypeInfo} (hi : P.info? e = some i) (hz : i.zero = some z) (hzs : z.cells.size = i.size)
    {v u : Value} {xs ys : List (El ty)} {cells : List Value} (hr : Rows (CellsOk w bad ty) xs cells) (ho : w.ownsRow 0 e (nleaf ty) v xs.length cells) (hu : Src w bad ty ys u)
    (hlim : (xs.length + ys.length) * i.bytes ≤ 140737488355328) (h63 : xs.length + ys.length ≤ maxLen) (rt : TypeId) :
    ∃ v' w' cells', (Builtin.append_ #[t, t] rt #[v, u]).run P w = .ok v' w' ∧ Rows (CellsOk w bad ty) (xs ++ ys) cells' ∧ w'.ownsRow 0 e (nleaf ty) v' (xs ++ ys).length cells' ∧ w.grownBy w' v.ownBlock ∧
      (∀ k, v'.ownBlock = some k → w.heap.size ≤ k ∨ v.ownBlock = some k) := by
  have hsz : i.size = nleaf ty := by rw [hn, cellsOf_info hi]
  obtain ⟨A, c, es, rfl, hcap, hre, hp⟩ := hu
  have hlen := hre.length (CellsOk.length ty)
  cases A with
  | some ad =>
    have hnews : ∀ j u, es[j]? = some u → w.cell? (ad.add j) = some u := by
      rcases hp with hp | ⟨ad', hp, hrow⟩
      · subst hp; intro j u h; simp at h
      · cases hp
        exact hrow
    obtain ⟨v', w', h1, h2, h3, _, h5⟩ := run_append_own_at (P := P) w 0 t rt e i z (nleaf ty) i.bytes ht hi hz hsz rfl (by rw [hzs, hsz]) (nleaf_pos ty) v xs.length cells ho ad ys.length c es hlen hnews hre.one h63 hlim (Nat.zero_le _)
    refine ⟨v', w', cells ++ es, h1, hr.append hre, by rw [List.length_append]; exact h2, h3, fun k hk => ?_⟩
    rcases h5 with h5 | h5
    · exact .inr (h5 ▸ hk)
    · rw [h5] at hk
      cases hk
      exact .inl (Nat.le_refl _)
  | none =>
    have hes : es = [] := by
      rcases hp with hp | ⟨ad', hp, _⟩
      · exact hp
      · cases hp
    have hy : ys = [] := by
      subst hes
      have := nleaf_pos ty
      rw [List.length_nil] at hlen
      have : ys.length = 0 := by
        rcases Nat.eq_zero_or_pos ys.length with h | h
        · exact h
        · have := Nat.mul_pos h (nleaf_pos ty); omega
      exact List.eq_nil_of_length_eq_zero this
    subst hy
    refine ⟨v, w, cells, ?_, by simpa using hr, by simpa using ho, ⟨rfl, rfl, rfl, Nat.le_refl _, fun _ _ _ => rfl⟩, fun k hk => .inr hk⟩
    rcases ho.2 with ⟨rfl, h0⟩ | ⟨g, cap, cur, rfl, _, _, hc1, _⟩
    · simp [Builtin.append_, run_underlying ht, sizeOf_run hi, Builtin.lenOf, Builtin.firstCells]
    · simp [Builtin.append_, run_underlying ht, sizeOf_run hi, Builtin.lenOf, Builtin.firstCells, hc1, storeCells]

end
end Go.Abs
