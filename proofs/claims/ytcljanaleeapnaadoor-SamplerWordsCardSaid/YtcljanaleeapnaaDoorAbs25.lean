/- What an operation reads is told in its log: elsewhere the objects may differ. -/
import Derived.Test.YtcljanaleeapnaaDoorAbs24
set_option linter.unusedVariables false
set_option linter.unusedSimpArgs false
namespace Go.Abs
open Go

section
variable {get get' : Nat → Option Obj}

def Agree (get get' : Nat → Option Obj) (rs : List Nat) : Prop := ∀ n, n ∈ rs → get' n = get n
theorem Agree.head {r : Nat} {rs : List Nat} (h : Agree get get' (r :: rs)) : get' r = get r := h r (by simp)
theorem Agree.tail {r : Nat} {rs : List Nat} (h : Agree get get' (r :: rs)) : Agree get get' rs := fun n hn => h n (List.mem_cons_of_mem _ hn)
theorem Agree.left {a b : List Nat} (h : Agree get get' (List.append a b)) : Agree get get' a := fun n hn => h n (List.mem_append.2 (.inl hn))
theorem Agree.right {a b : List Nat} (h : Agree get get' (List.append a b)) : Agree get get' b := fun n hn => h n (List.mem_append.2 (.inr hn))

theorem isFree_loc {i : Nat} (h : get' i = get i) : isFree get' i = isFree get i := by simp [isFree, h]

theorem dOf_loc {l : Leaf} {d : DLeaf} {rs : List Nat} (h : dOf get l = some (d, rs)) (hg : Agree get get' rs) : dOf get' l = some (d, rs) := by
  unfold dOf at h
  split at h
  · exact h
  · rename_i r
    have hr : r ∈ rs := by split at h <;> simp at h <;> simp [← h.2]
    simp only [dOf, hg r hr]
    exact h
  · cases h
theorem dOfs_loc : ∀ {ls : List Leaf} {ds : List DLeaf} {rs : List Nat}, dOfs get ls = some (ds, rs) → Agree get get' rs → dOfs get' ls = some (ds, rs)
  | [], ds, rs, h, hg => h
  | l :: ls, ds, rs, h, hg => by
    simp only [dOfs] at h ⊢
    split at h
    · rename_i x a y b h1 h2
      simp only [Option.some.injEq, Prod.mk.injEq] at h
      obtain ⟨rfl, rfl⟩ := h
      rw [dOf_loc h1 hg.left, dOfs_loc h2 hg.right]
    · cases h
theorem freezes_loc : ∀ {rs : List Nat}, Agree get get' rs → freezes get' rs = freezes get rs
  | [], _ => rfl
  | r :: rs, hg => by
    simp only [freezes, hg.head, freezes_loc hg.tail]
theorem sliceOf_loc {l : Leaf} {d : SD} {rs : List Nat} (h : sliceOf get l = some (d, rs)) (hg : Agree get get' rs) : sliceOf get' l = some (d, rs) := by
  unfold sliceOf at h
  split at h
  · exact h
  · exact h
  · rename_i r
    have hr : r ∈ rs := by split at h <;> simp at h <;> simp [← h.2]
    simp only [sliceOf, hg r hr]
    exact h
  · cases h

theorem allOk_loc {P : Program} {t : TypeId} {x : Val} {v : AV} {rs : List Nat} (h : allOk get P t x = some (v, rs)) (hg : Agree get get' rs) : allOk get' P t x = some (v, rs) := by
  unfold allOk at h
  split at h
  · rename_i b off
    have hr : b ∈ rs := by
      split at h
      · simp only [Option.map_eq_some_iff, Prod.mk.injEq] at h
        obtain ⟨_, _, _, rfl⟩ := h
        simp
      · simp only [Option.map_eq_some_iff, Prod.mk.injEq] at h
        obtain ⟨_, _, _, rfl⟩ := h
        simp
      · cases h
    simp only [allOk, hg b hr]
    exact h
  · rename_i b i off
    have hr : b ∈ rs := by
      split at h
      · simp only [Option.map_eq_some_iff, Prod.mk.injEq] at h
        obtain ⟨_, _, _, rfl⟩ := h
        simp
      · simp only [Option.map_eq_some_iff, Prod.mk.injEq] at h
        obtain ⟨_, _, _, rfl⟩ := h
        simp
      · cases h
    simp only [allOk, hg b hr]
    exact h
  · exact h
  · cases h

theorem storeOut_loc {P : Program} {t : TypeId} {a v : Val} {out : Out} (h : storeOut get P t a v = some out) (hg : Agree get get' out.rd) : storeOut get' P t a v = some out := by
  unfold storeOut at h
  split at h
  · rename_i av
    cases hc : (Nat.beq (List.length (avLeaves av)) (P.cellsOf t) && Nat.ble 1 (P.cellsOf t)) with
    | false => rw [hc] at h; cases h
    | true =>
      rw [hc] at h
      simp only [cond_true] at h
      split at h
      · rename_i b off
        split at h
        · rename_i ls hb
          split at h
          · rename_i c hcut
            simp only [Option.some.injEq] at h
            subst h
            simp only [storeOut, hc, cond_true, hg.head, hb, hcut]
          · cases h
        · cases h
      · rename_i r i off
        split at h
        · rename_i e t' xs hb
          split at h
          · rename_i ds rs hds
            cases hr : rs.any (Nat.beq r) with
            | true => rw [hr] at h; cases h
            | false =>
              rw [hr] at h
              simp only [cond_false] at h
              split at h
              · rename_i c hcut
                split at h
                · rename_i x hx
                  simp only [Option.some.injEq] at h
                  subst h
                  have hg' : Agree get get' rs := hg.tail
                  simp only [storeOut, hc, cond_true, hg.head, hb, dOfs_loc hds hg', hr, cond_false, hcut, hx, freezes_loc hg']
                · cases h
              · cases h
          · cases h
        · cases h
      · cases h
  · cases h

theorem litOut_loc {E : Env} {ev : Operand → Val} {fr : Nat} {t : TypeId} {len : Nat} {parts : List (Nat × Operand)} {out : Out} (h : litOut get E ev fr t len parts = some out) (hg : Agree get get' out.rd) : litOut get' E ev fr t len parts = some out := by
  unfold litOut at h
  split at h
  · rename_i e he
    split at h
    · rename_i ty z ps h1 h2 h3
      cases hb : (Nat.beq (nleaf ty) (E.P.cellsOf e) && zeroFits E.P e && Nat.ble (len * E.P.cellsOf e) 16777216) with
      | false => rw [hb] at h; cases h
      | true =>
        rw [hb] at h
        simp only [cond_true] at h
        split at h
        · rename_i ls h4
          split at h
          · rename_i ds rs h5
            split at h
            · rename_i xs h6
              cases hf : isFree get fr with
              | false => rw [hf] at h; cases h
              | true =>
                rw [hf] at h
                simp only [cond_true, Option.some.injEq] at h
                subst h
                have hg' : Agree get get' rs := hg.tail
                have hf' : isFree get' fr = true := (isFree_loc hg.head).trans hf
                simp only [litOut, he, h1, h2, h3, hb, cond_true, h4, dOfs_loc h5 hg', h6, hf', freezes_loc hg']
            · cases h
          · cases h
        · cases h
    · cases h
  · cases h

theorem grd_loc {c : Bool} {e e' : Eff Out} {out : Out} (h : (Eff.grd c e).den = some out) (k : e.den = some out → e'.den = some out) : (Eff.grd c e').den = some out := by
  obtain ⟨hc, h⟩ := grd_of h
  simp only [Eff.den, hc, cond_true]
  exact k h

theorem cutGrd_out {α : Type} {n : Int} {lo hi : Option Int} {e : Eff α} {r : α} (h : (cutGrd n lo hi e).den = some r) : e.den = some r := by
  unfold cutGrd at h
  split at h
  · exact h
  · exact (grd_of (grd_of h).2).2
  · exact (grd_of (grd_of h).2).2
  · exact (grd_of (grd_of (grd_of h).2).2).2

theorem appendOut_loc {P : Program} {fr : Nat} {t : TypeId} {s x : Leaf} {out : Out} (h : (appendOut get P fr t s x).den = some out) (hg : Agree get get' out.rd) : (appendOut get' P fr t s x).den = some out := by
  unfold appendOut at h
  split at h
  · rename_i e he
    split at h
    · rename_i v t' ys rs hs
      cases hb : (isNilSlice v && Nat.beq (nleaf t') (P.cellsOf e) && isFree get fr && zeroFits P e) with
      | false => rw [hb] at h; cases h
      | true =>
        rw [hb] at h
        simp only [cond_true] at h
        have ho := (Option.some.inj (grd_of h).2).symm
        subst ho
        simp only [appendOut, he, sliceOf_loc hs hg.tail, isFree_loc hg.head, hb, cond_true]
        exact h
    · rename_i v rs hs
      cases hb : (isNilSlice v && zeroFits P e) with
      | false => rw [hb] at h; cases h
      | true =>
        rw [hb] at h
        simp only [cond_true] at h
        have hrs : rs = [] := by
          unfold sliceOf at hs
          split at hs
          · rename_i y
            cases hn : isNilSlice y <;> simp [hn] at hs
            exact hs
          · simp at hs
          · split at hs <;> simp at hs
          · cases hs
        subst hrs
        simp only [appendOut, he, sliceOf_loc hs (fun n hn => absurd hn (by simp)), hb, cond_true]
        exact h
    · rename_i r rs hs
      have hrs : rs = [] := by
        unfold sliceOf at hs
        split at hs
        · rename_i y
          cases hn : isNilSlice y <;> simp [hn] at hs
          exact hs
        · simp at hs
        · split at hs <;> simp at hs
        · cases hs
      subst hrs
      split at h
      · rename_i e1 t1 xs1 hr
        cases hb : zeroFits P e with
        | false => rw [hb] at h; cases h
        | true =>
          rw [hb] at h
          simp only [cond_true, Eff.den, Option.some.injEq] at h
          subst h
          have : get' r = some (.row e1 t1 xs1) := hg.head.trans hr
          simp only [appendOut, he, sliceOf_loc hs (fun n hn => absurd hn (by simp)), this, hb, cond_true, Eff.den]
      · cases h
    · rename_i r t' ys rs hs
      split at h
      · rename_i e' ty xs hr
        split at h
        · rename_i ys' hc
          cases hb : (Nat.beq e e' && Nat.beq (nleaf ty) (P.cellsOf e) && !(rs.any (Nat.beq r)) && isFree get fr && zeroFits P e) with
          | false => rw [hb] at h; cases h
          | true =>
            rw [hb] at h
            simp only [cond_true] at h
            have ho := (Option.some.inj (grd_of h).2).symm
            subst ho
            have hr' : get' r = some (.row e' ty xs) := hg.tail.head.trans hr
            simp only [appendOut, he, sliceOf_loc hs hg.tail.tail, hr', hc, isFree_loc hg.head, hb, cond_true]
            exact h
        · cases h
      · cases h
    · cases h
  · cases h

theorem makeOut_loc {E : Env} {fr : Nat} {t : TypeId} {n : Int} {out : Out} (h : (makeOut get E fr t n).den = some out) (hg : Agree get get' out.rd) : (makeOut get' E fr t n).den = some out := by
  unfold makeOut at h
  split at h
  · rename_i e he
    split at h
    · rename_i ty z h1 h2
      split at h
      · rename_i x h3
        cases hb : (Nat.beq (nleaf ty) (E.P.cellsOf e) && Nat.ble 1 (E.P.cellsOf e) && isFree get fr) with
        | false => rw [hb] at h; cases h
        | true =>
          rw [hb] at h
          simp only [cond_true] at h
          have ho := (Option.some.inj (grd_of (grd_of h).2).2).symm
          subst ho
          simp only [makeOut, he, h1, h2, h3, isFree_loc hg.head, hb, cond_true]
          exact h
      · cases h
    · cases h
  · cases h

theorem sliceLen_loc {l : Leaf} {n : Nat} {rs : List Nat} (h : sliceLen get l = some (n, rs)) (hg : Agree get get' rs) : sliceLen get' l = some (n, rs) := by
  unfold sliceLen at h
  split at h
  · exact h
  · exact h
  · rename_i r
    have hr : r ∈ rs := by split at h <;> simp at h <;> simp [← h.2]
    simp only [sliceLen, hg r hr]
    exact h
  · cases h

theorem lenOut_loc {P : Program} {t : TypeId} {x : Val} {out : Out} (h : lenOut get P t x = some out) (hg : Agree get get' out.rd) : lenOut get' P t x = some out := by
  unfold lenOut at h
  split at h
  · rename_i ht
    simp only [lenOut, ht]
    exact h
  · rename_i n e ht
    simp only [lenOut, ht]
    exact h
  · rename_i e ht
    split at h
    · rename_i l
      split at h
      · rename_i n rs hs
        simp only [Option.some.injEq] at h
        subst h
        simp only [lenOut, ht, sliceLen_loc hs hg]
      · cases h
    · cases h
  · cases h

end
end Go.Abs
