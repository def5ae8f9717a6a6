/- A part of the proof that the text with the row names: printed readings of functions, or plain lemmas about them. -/
import Derived.Test.YtceacicpjgffgaaC41K2
set_option linter.unusedVariables false
set_option linter.unusedSimpArgs false
namespace Go.Abs
open Go

/-! ### Replay -/
def rstep (rows : List RT) (x : List Int) (k : Int) : Option (List Int) :=
  bif decide (0 ≤ k ∧ k < rows.length) then
    bif bndOk (rows.getD k.toNat R0) x then some (bif decide (bnd (rows.getD k.toNat R0) x < x.getD (tgt (rows.getD k.toNat R0)) 0) then x.set (tgt (rows.getD k.toNat R0)) (max (bnd (rows.getD k.toNat R0) x) (-1)) else x) else none
  else none
def rall (rows : List RT) : List Int → List Int → Option (List Int)
  | x, [] => some x
  | x, k :: t => (rstep rows x k).bind fun x' => rall rows x' t
def replayV (top : List Int) (rows : List RT) (steps : List Int) : List Int × Bool :=
  bif validB top rows && decide (steps.length ≤ 16384) then (match rall rows top steps with | some x => (x, true) | none => ([], false)) else ([], false)
def negB (x : List Int) : Bool := anyB (fun i => decide (x.getD i 0 < 0)) 0 x.length
def lowB (rows : List RT) (x : List Int) : Bool := anyB (fun k => decide ((rows.getD k R0).2.1 ≤ 0 ∧ (rows.getD k R0).2.2.1 ≤ 0) && !satB (rows.getD k R0) x) 0 rows.length
def provesB (top : List Int) (rows : List RT) (x steps : List Int) : Bool := (replayV top rows steps).2 && (decide (x = (replayV top rows steps).1) && feasB top rows x)
def refutesB (top : List Int) (rows : List RT) (steps : List Int) : Bool := (replayV top rows steps).2 && (negB (replayV top rows steps).1 || lowB rows (replayV top rows steps).1)
def Lev1 (n : Nat) (x : List Int) : Prop := x.length = n ∧ ∀ i, i < n → -1 ≤ x.getD i 0 ∧ x.getD i 0 ≤ 4096
theorem lev_lev1 {n : Nat} {x : List Int} (h : Lev n x) : Lev1 n x := ⟨h.1, fun i hi => by have := h.2 i hi; omega⟩
theorem formB_of {n : Nat} {r : RT} (h : VRow n r) : formB r = true := by
  have h1 := h.a; have h2 := h.b; have h3 := h.c
  unfold formB
  exact decide_eq_true (by omega)
theorem nearB_of {n : Nat} {x : List Int} (h : Lev1 n x) : nearB x = true := by
  unfold nearB
  rw [allB_iff]
  intro j _ hj
  have := h.2 j (by rw [← h.1]; omega)
  exact decide_eq_true (by omega)
theorem bndOk_of {n : Nat} {r : RT} {x : List Int} (h : VRow n r) (hx : Lev1 n x) : bndOk r x = actB r := by
  have h1 := h.lo; have h2 := h.hi
  unfold bndOk
  rw [formB_of h, nearB_of hx, decide_eq_true (by rw [hx.1]; omega), Bool.and_true, Bool.and_true, Bool.and_true]
theorem lev1_set {n : Nat} {x : List Int} {i : Nat} {b : Int} (h : Lev1 n x) (hi : i < n) (h1 : b < x.getD i 0) : Lev1 n (x.set i (max b (-1))) := by
  refine ⟨by rw [List.length_set]; exact h.1, fun j hj => ?_⟩
  rw [getD_set (by rw [h.1]; exact hi)]
  have := h.2 i hi
  split
  · omega
  · exact h.2 j hj
theorem rstep_lev1 {n : Nat} {rows : List RT} (hr : RowsP n rows) {x x' : List Int} {k : Int} (hx : Lev1 n x) (h : rstep rows x k = some x') : Lev1 n x' := by
  unfold rstep at h
  by_cases c : 0 ≤ k ∧ k < rows.length
  · rw [decide_eq_true c, cond_true] at h
    cases c2 : bndOk (rows.getD k.toNat R0) x with
    | false => rw [c2, cond_false] at h; cases h
    | true =>
      rw [c2, cond_true, Option.some.injEq] at h
      by_cases c3 : bnd (rows.getD k.toNat R0) x < x.getD (tgt (rows.getD k.toNat R0)) 0
      · rw [decide_eq_true c3, cond_true] at h
        rw [← h]
        exact lev1_set hx (tgt_lt (hr _ (by omega))) c3
      · rw [decide_eq_false c3, cond_false] at h
        rw [← h]; exact hx
  · rw [decide_eq_false c, cond_false] at h; cases h
theorem rall_lev1 {n : Nat} {rows : List RT} (hr : RowsP n rows) : ∀ (t : List Int) {x x' : List Int}, Lev1 n x → rall rows x t = some x' → Lev1 n x'
  | [], x, x', hx, h => by
    simp only [rall, Option.some.injEq] at h
    rw [← h]; exact hx
  | k :: t, x, x', hx, h => by
    rw [rall] at h
    cases h1 : rstep rows x k with
    | none => rw [h1] at h; cases h
    | some z =>
      rw [h1, Option.bind_some] at h
      exact rall_lev1 hr t (rstep_lev1 hr hx h1) h
/-- What is feasible lies below whatever is replayed. -/
def Feas (n : Nat) (rows : List RT) (y : List Int) : Prop := (∀ i, i < n → 0 ≤ y.getD i 0) ∧ ∀ k, k < rows.length → (rows.getD k R0).2.1 * y.getD (rows.getD k R0).1.toNat 0 + (rows.getD k R0).2.2.1 * y.getD ((rows.getD k R0).1.toNat + 1) 0 ≤ (rows.getD k R0).2.2.2
def Under (n : Nat) (y x : List Int) : Prop := ∀ i, i < n → y.getD i 0 ≤ x.getD i 0
theorem rstep_under {n : Nat} {rows : List RT} (hr : RowsP n rows) {y : List Int} (hy : Feas n rows y) {x x' : List Int} {k : Int} (hx : Lev1 n x) (hb : Under n y x) (h : rstep rows x k = some x') : Under n y x' := by
  unfold rstep at h
  by_cases c : 0 ≤ k ∧ k < rows.length
  · rw [decide_eq_true c, cond_true] at h
    have hk : k.toNat < rows.length := by omega
    cases c2 : bndOk (rows.getD k.toNat R0) x with
    | false => rw [c2, cond_false] at h; cases h
    | true =>
      rw [bndOk_of (hr _ hk) hx] at c2
      rw [bndOk_of (hr _ hk) hx, c2, cond_true, Option.some.injEq] at h
      by_cases c3 : bnd (rows.getD k.toNat R0) x < x.getD (tgt (rows.getD k.toNat R0)) 0
      · rw [decide_eq_true c3, cond_true] at h
        rw [← h]
        intro i hi
        rw [getD_set (by rw [hx.1]; exact tgt_lt (hr _ hk))]
        split
        · rename_i e
          have := below_bnd (hr _ hk) c2 hb (hy.2 _ hk)
          rw [← e]
          omega
        · exact hb i hi
      · rw [decide_eq_false c3, cond_false] at h
        rw [← h]; exact hb
  · rw [decide_eq_false c, cond_false] at h; cases h
theorem rall_under {n : Nat} {rows : List RT} (hr : RowsP n rows) {y : List Int} (hy : Feas n rows y) : ∀ (t : List Int) {x x' : List Int}, Lev1 n x → Under n y x → rall rows x t = some x' → Under n y x'
  | [], x, x', hx, hb, h => by
    simp only [rall, Option.some.injEq] at h
    rw [← h]; exact hb
  | k :: t, x, x', hx, hb, h => by
    rw [rall] at h
    cases h1 : rstep rows x k with
    | none => rw [h1] at h; cases h
    | some z =>
      rw [h1, Option.bind_some] at h
      exact rall_under hr hy t (rstep_lev1 hr hx h1) (rstep_under hr hy hx hb h1) h
theorem rall_append {rows : List RT} : ∀ (t u : List Int) (x : List Int), rall rows x (t ++ u) = (rall rows x t).bind fun z => rall rows z u
  | [], u, x => rfl
  | k :: t, u, x => by
    rw [List.cons_append, rall, rall]
    cases rstep rows x k with
    | none => rfl
    | some z => rw [Option.bind_some, Option.bind_some]; exact rall_append t u z
/-- Steps with rows that bound are replayed. -/
theorem rall_some {n : Nat} {rows : List RT} (hr : RowsP n rows) : ∀ (t : List Int) {x : List Int}, Lev1 n x → (∀ k ∈ t, (0 ≤ k ∧ k < rows.length) ∧ actB (rows.getD k.toNat R0) = true) → ∃ x', rall rows x t = some x'
  | [], x, hx, h => ⟨x, rfl⟩
  | k :: t, x, hx, h => by
    obtain ⟨h1, h2⟩ := h k (List.mem_cons_self ..)
    have : ∃ z, rstep rows x k = some z := by
      unfold rstep
      rw [decide_eq_true h1, cond_true, bndOk_of (hr _ (by omega)) hx, h2, cond_true]
      exact ⟨_, rfl⟩
    obtain ⟨z, hz⟩ := this
    obtain ⟨x', hx'⟩ := rall_some hr t (rstep_lev1 hr hx hz) fun k hk => h k (List.mem_cons_of_mem _ hk)
    exact ⟨x', by rw [rall, hz, Option.bind_some, hx']⟩

/-! ### The sum of the levels falls with each step -/
theorem sum_set : ∀ (x : List Int) (i : Nat) (b : Int), i < x.length → (x.set i b).sum = x.sum - x.getD i 0 + b
  | [], i, b, h => by simp at h
  | v :: x, 0, b, h => by simp [List.sum_cons]; omega
  | v :: x, i + 1, b, h => by
    have := sum_set x i b (by simpa using h)
    simp only [List.set_cons_succ, List.sum_cons, List.getD_cons_succ, this]
    omega
theorem sum_nonneg {n : Nat} : ∀ {x : List Int}, (∀ v ∈ x, 0 ≤ v) → 0 ≤ x.sum
  | [], h => by simp
  | v :: x, h => by
    have h1 := h v (List.mem_cons_self ..)
    have h2 := sum_nonneg (n := n) (x := x) fun w hw => h w (List.mem_cons_of_mem _ hw)
    rw [List.sum_cons]; omega
theorem lev_sum {n : Nat} {x : List Int} (h : Lev n x) : 0 ≤ x.sum := by
  refine sum_nonneg (n := n) fun v hv => ?_
  obtain ⟨i, hi, e⟩ := List.getElem_of_mem hv
  have := h.2 i (by rw [← h.1]; exact hi)
  rw [List.getD_eq_getElem?_getD, List.getElem?_eq_getElem hi, e] at this
  exact this.1

/-- A sweep: what its steps replay, and what lies below. -/
theorem rsweep_all {n : Nat} {rows : List RT} (hr : RowsP n rows) : ∀ (m k : Nat) (x s : List Int) (a : Bool), k + m = rows.length → Lev n x → (s.length : Int) + x.sum < 16384 →
    (∀ e, rsweep rows m k x s a = .inl e → ∃ t x', e = ([], (s ++ t, false)) ∧ rall rows x t = some x' ∧ negB x' = true ∧ ((s ++ t).length : Int) ≤ 16384) ∧
    (∀ x' s' a', rsweep rows m k x s a = .inr (x', (s', a')) → ∃ t, s' = s ++ t ∧ rall rows x t = some x' ∧ Lev n x' ∧ (s'.length : Int) + x'.sum ≤ (s.length : Int) + x.sum)
  | 0, k, x, s, a, hm, hx, hs => by
    refine ⟨fun e h => by simp [rsweep] at h, fun x' s' a' h => ?_⟩
    simp only [rsweep, Sum.inr.injEq, Prod.mk.injEq] at h
    obtain ⟨rfl, rfl, rfl⟩ := h
    exact ⟨[], by simp, rfl, hx, Int.le_refl _⟩
  | m + 1, k, x, s, a, hm, hx, hs => by
    have hk : k < rows.length := by omega
    have hsum := lev_sum hx
    rw [rsweep]
    cases hi : impB (rows.getD k R0) x with
    | false => rw [cond_false]; exact rsweep_all hr m (k + 1) x s a (by omega) hx hs
    | true =>
      obtain ⟨ha, hb⟩ := imp_act hi
      have ht := tgt_lt (hr k hk)
      have hst : rstep rows x (k : Int) = some (x.set (tgt (rows.getD k R0)) (max (bnd (rows.getD k R0) x) (-1))) := by
        unfold rstep
        rw [decide_eq_true (by omega), cond_true, Int.toNat_natCast, bndOk_of (hr k hk) (lev_lev1 hx), ha, cond_true, decide_eq_true hb, cond_true]
      rw [cond_true, decide_eq_false (by omega), cond_false]
      by_cases c2 : bnd (rows.getD k R0) x < 0
      · rw [decide_eq_true c2, cond_true]
        refine ⟨fun e h => ?_, fun x' s' a' h => by cases h⟩
        injection h with h
        refine ⟨[(k : Int)], _, h.symm, by rw [rall, hst]; rfl, ?_, by rw [List.length_append]; simp only [List.length_cons, List.length_nil]; omega⟩
        unfold negB
        rw [anyB_iff]
        refine ⟨tgt (rows.getD k R0), Nat.zero_le _, by rw [List.length_set, hx.1]; omega, ?_⟩
        rw [getD_set (by rw [hx.1]; exact ht), if_pos rfl]
        exact decide_eq_true (by omega)
      · rw [decide_eq_false c2, cond_false]
        have e : max (bnd (rows.getD k R0) x) (-1) = bnd (rows.getD k R0) x := by omega
        rw [e] at hst
        have hl : ((s ++ [(k : Int)]).length : Int) = (s.length : Int) + 1 := by simp
        have hsm := sum_set x (tgt (rows.getD k R0)) (bnd (rows.getD k R0) x) (by rw [hx.1]; exact ht)
        obtain ⟨h1, h2⟩ := rsweep_all hr m (k + 1) (x.set (tgt (rows.getD k R0)) (bnd (rows.getD k R0) x)) (s ++ [(k : Int)]) true (by omega) (lev_set hx ht (by omega) hb) (by omega)
        refine ⟨fun e h => ?_, fun x' s' a' h => ?_⟩
        · obtain ⟨t, x', g1, g2, g3, g4⟩ := h1 e h
          rw [List.append_assoc] at g1 g4
          exact ⟨(k : Int) :: t, x', g1, by rw [rall, hst, Option.bind_some, g2], g3, g4⟩
        · obtain ⟨t, g1, g2, g3, g4⟩ := h2 x' s' a' h
          rw [List.append_assoc] at g1
          exact ⟨(k : Int) :: t, g1, by rw [rall, hst, Option.bind_some, g2], g3, by omega⟩
end Go.Abs
