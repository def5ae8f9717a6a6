/- What an operation reads is told in its log (slices, places, calls, all together). -/
import Derived.Test.YtcljanaleeapnaaDoorAbs25
set_option linter.unusedVariables false
set_option linter.unusedSimpArgs false
namespace Go.Abs
open Go

section
variable {get get' : Nat → Option Obj}

theorem sliceOut_loc {E : Env} {t : TypeId} {x : Val} {lo hi : Option Int} {out : Out} (h : (sliceOut get E t x lo hi).den = some out) (hg : Agree get get' out.rd) : (sliceOut get' E t x lo hi).den = some out := by
  unfold sliceOut at h
  split at h
  · exact h
  · exact h
  · rename_i r
    split at h
    · rename_i e ty xs hr
      obtain ⟨hb, h⟩ := bif_true h
      have ho := (Option.some.inj (cutGrd_out h)).symm
      subst ho
      simp only [sliceOut, hg.head, hr, hb, cond_true]
      exact h
    · rename_i ty xs hr
      obtain ⟨hb, h⟩ := bif_true h
      have ho := (Option.some.inj (cutGrd_out h)).symm
      subst ho
      simp only [sliceOut, hg.head, hr, hb, cond_true]
      exact h
    · cases h
  · rename_i b
    split at h
    · rename_i n e hn
      split at h
      · rename_i ty ls h1 h2
        split at h
        · rename_i ds h3
          split at h
          · rename_i xs h4
            obtain ⟨hb, h⟩ := bif_true h
            have ho := (Option.some.inj (cutGrd_out h)).symm
            subst ho
            simp only [sliceOut, hn, h1, hg.head, h2, h3, h4, hb, cond_true]
            exact h
          · cases h
        · cases h
      · cases h
    · cases h
  · cases h

theorem idxE_loc {E : Env} {t : TypeId} {x : Val} {i : Int} {out : Out} (h : (idxE get E t x i).den = some out) (hg : Agree get get' out.rd) : (idxE get' E t x i).den = some out := by
  unfold idxE at h
  split at h
  · exact h
  · rename_i r
    split at h
    · rename_i e ty xs hr
      obtain ⟨hb, h⟩ := bif_true h
      have ho := (Option.some.inj (grd_of (grd_of h).2).2).symm
      subst ho
      simp only [idxE, hg.head, hr, hb, cond_true]
      exact h
    · rename_i ty xs hr
      have h0 := h
      unfold idxDat at h
      obtain ⟨hb, h⟩ := bif_true h
      have ho := (Option.some.inj (grd_of (grd_of h).2).2).symm
      subst ho
      simp only [idxE, hg.head, hr]
      exact h0
    · cases h
  · exact h
  · exact h
  · exact h
  · cases h

theorem rowData_loc {r : Nat} {t : Ty} (h : get' r = get r) : rowData get' r t = rowData get r t := by simp [rowData, h]

/-- What a taking looks at: what it has met at its end. -/
def MetAgree (get get' : Nat → Option Obj) (m : Met) : Prop := (∀ o n, findId o m.ids = some (some n) → get' n = get n) ∧ ∀ n, n ∈ m.seen → get' n = get n
theorem MetAgree.sub {m m' : Met} (h : MetAgree get get' m') (hs : Sub m m') : MetAgree get get' m := ⟨fun o n ho => h.1 o n (hs.1 _ _ ho), fun n hn => h.2 n (hs.2 n hn)⟩

theorem LS.take_loc {l : LS} {a : Leaf} {m m' : Met} {y : l.T} (h : l.take get a m = some (y, m')) (hg : MetAgree get get' m') : l.take get' a m = some (y, m') := by
  unfold LS.take at h ⊢
  split at h
  · exact h
  · exact h
  · rename_i t n
    have hn : n ∈ m'.seen := by
      split at h
      · simp at h
        rw [← h.2]
        simp
      · cases h
    simp only [rowData_loc (hg.2 n hn)]
    exact h
  · exact h
  · exact h
  · exact h
  · exact h
  · exact h
  · cases h

theorem takeLs_loc : ∀ {ls : List LS} {as : List Leaf} {m m' : Met} {y : TLs ls}, takeLs get ls as m = some (y, m') → MetAgree get get' m' → takeLs get' ls as m = some (y, m')
  | [], [], m, m', y, h, _ => h
  | [], _ :: _, _, _, _, h, _ => by simp [takeLs] at h
  | _ :: _, [], _, _, _, h, _ => by simp [takeLs] at h
  | l :: ls, a :: as, m, m', y, h, hg => by
    simp only [takeLs] at h ⊢
    split at h
    · rename_i x m1 h1
      split at h
      · rename_i z m2 h2
        have hm : m2 = m' := by simp at h; exact h.2
        subst hm
        rw [LS.take_loc h1 (hg.sub (takeLs_grow h2).1)]
        simp only [takeLs_loc h2 hg]
        exact h
      · cases h
    · cases h

theorem AS.take_loc {s : AS} {a : AV} {m m' : Met} {y : s.T} (h : s.take get a m = some (y, m')) (hg : MetAgree get get' m') : s.take get' a m = some (y, m') := by
  unfold AS.take at h ⊢
  split at h
  · exact LS.take_loc h hg
  · exact takeLs_loc h hg
  · cases h

theorem takeSlots_loc {sl : Nat → Val} : ∀ {l : List (Nat × AS)} {m m' : Met} {y : TSlots l}, takeSlots get sl l m = some (y, m') → MetAgree get get' m' → takeSlots get' sl l m = some (y, m')
  | [], m, m', y, h, _ => h
  | s :: ss, m, m', y, h, hg => by
    simp only [takeSlots] at h ⊢
    split at h
    · rename_i a ha
      split at h
      · rename_i x m1 h1
        split at h
        · rename_i z m2 h2
          have hm : m2 = m' := by simp at h; exact h.2
          subst hm
          simp only [AS.take_loc h1 (hg.sub (takeSlots_grow h2).1), takeSlots_loc h2 hg]
          exact h
        · cases h
      · cases h
    · cases h

theorem OS.take_loc {s : OS} {o : Nat} {m m' : Met} {y : s.T} (h : s.take get (findId o m.ids) m = some (y, m')) (hg : MetAgree get get' m') : s.take get' (findId o m.ids) m = some (y, m') := by
  have hs := (OS.take_grow h).1
  have hn : ∀ n, findId o m.ids = some (some n) → get' n = get n := fun n hn => hg.1 o n (hs.1 _ _ hn)
  generalize findId o m.ids = i at h hn
  unfold OS.take at h ⊢
  split at h
  · exact h
  · rename_i e t n
    simp only [hn n rfl]
    exact h
  · rename_i ls n
    simp only [hn n rfl]
    split at h
    · exact takeLs_loc h hg
    · cases h
  · exact h
  · cases h

theorem takeObjs_loc : ∀ {l : List OS} {o : Nat} {m m' : Met} {y : TObjs l}, takeObjs get l o m = some (y, m') → MetAgree get get' m' → takeObjs get' l o m = some (y, m')
  | [], o, m, m', y, h, _ => h
  | s :: ss, o, m, m', y, h, hg => by
    simp only [takeObjs] at h ⊢
    split at h
    · rename_i x m1 h1
      split at h
      · rename_i z m2 h2
        have hm : m2 = m' := by simp at h; exact h.2
        subst hm
        simp only [OS.take_loc h1 (hg.sub (takeObjs_grow h2).1), takeObjs_loc h2 hg]
        exact h
      · cases h
    · cases h

theorem takeS_loc {S : Shape} {n0 : Nat} {sl : Nat → Val} {x : Tup S} {m : Met} (h : takeS S n0 get sl = some (x, m)) (hg : MetAgree get get' m) : takeS S n0 get' sl = some (x, m) := by
  unfold takeS at h ⊢
  split at h
  · rename_i xs m1 h1
    split at h
    · rename_i ys m2 h2
      have hm : m2 = m := by
        cases hb : m2.apart && m2.live S.objs with
        | false => rw [hb] at h; cases h
        | true => rw [hb] at h; simp at h; exact h.2
      subst hm
      simp only [takeSlots_loc h1 (hg.sub (takeObjs_grow h2).1), takeObjs_loc h2 hg]
      exact h
    · cases h
  · cases h

theorem idsOf_mem {o n : Nat} : ∀ {l : List (Nat × Option Nat)}, (o, some n) ∈ l → n ∈ reach.idsOf l
  | [], h => by simp at h
  | (o', none) :: r, h => by
    simp only [List.mem_cons, Prod.mk.injEq, reduceCtorEq, and_false, false_or] at h
    exact idsOf_mem (l := r) h
  | (o', some n') :: r, h => by
    simp only [List.mem_cons, Prod.mk.injEq, Option.some.injEq] at h
    simp only [reach.idsOf, List.mem_cons]
    rcases h with ⟨rfl, rfl⟩ | h
    · exact .inl rfl
    · exact .inr (idsOf_mem (l := r) h)

theorem tiesOk_loc {all : List (Nat × Option Nat)} : ∀ {l : List (Nat × Option Nat)}, (∀ o n, (o, some n) ∈ l → get' n = get n) → tiesOk get' all l = tiesOk get all l
  | [], _ => rfl
  | (o, none) :: r, h => tiesOk_loc (l := r) fun o' n hm => h o' n (List.mem_cons_of_mem _ hm)
  | (o, some n) :: r, h => by
    simp only [tiesOk, isFree_loc (h o n (by simp)), tiesOk_loc (l := r) fun o' n hm => h o' n (List.mem_cons_of_mem _ hm)]

theorem freeAll_loc {fr : Nat} : ∀ {k : Nat}, Agree get get' (newIds fr k) → freeAll get' fr k = freeAll get fr k
  | 0, _ => rfl
  | k + 1, h => by
    have ih := freeAll_loc (fr := fr) (k := k) h.tail
    simp only [freeAll, newIds, List.all_cons] at ih ⊢
    rw [isFree_loc h.head, ih]

theorem callE_loc {fr : Nat} {p : Proc} {args : List Val} {out : Out} (h : (callE get fr p args).den = some out) (hg : Agree get get' out.rd) : (callE get' fr p args).den = some out := by
  have h0 := h
  unfold callE at h
  split at h
  · rename_i x m hx
    cases hb : (freeAll get fr p.outS.objs.length && (Nat.beq (List.length args) p.nargs && (allLive p.inS.objs p.n0 && (Nat.ble p.n0 p.outS.objs.length && tiesOk get m.ids m.ids)))) with
    | false => rw [hb] at h; cases h
    | true =>
      rw [hb] at h
      simp only [Bool.not_true, cond_false, Eff.den] at h
      cases hr : p.F x with
      | none => rw [hr] at h; cases h
      | some r =>
        rw [hr] at h
        simp only [Option.bind_some, Option.some.injEq] at h
        have hrd : out.rd = List.append (newIds fr p.outS.objs.length) (reach m) := by rw [← h]
        rw [hrd] at hg
        have hr1 : Agree get get' (reach m) := hg.right
        have hids : ∀ o n, (o, some n) ∈ m.ids → get' n = get n := by
          intro o n hm
          apply hr1
          cases m with
          | mk ids seen => exact List.mem_append.2 (.inl (idsOf_mem hm))
        have hseen : Agree get get' m.seen := by
          intro n hn
          apply hr1
          cases m with
          | mk ids seen => exact List.mem_append.2 (.inr hn)
        have hm : MetAgree get get' m := ⟨fun o n ho => hids o n (findId_mem ho), hseen⟩
        have hb' : (freeAll get' fr p.outS.objs.length && (Nat.beq (List.length args) p.nargs && (allLive p.inS.objs p.n0 && (Nat.ble p.n0 p.outS.objs.length && tiesOk get' m.ids m.ids)))) = true := by
          rw [freeAll_loc hg.left, tiesOk_loc hids]
          exact hb
        simp only [callE, takeS_loc hx hm, hb', Bool.not_true, cond_false, Eff.den, hr, Option.bind_some, freezes_loc hseen, Option.some.injEq]
        exact h
  · cases h

end
end Go.Abs
