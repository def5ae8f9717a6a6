/- A part of the proof that the text with the row names: printed readings of functions, or plain lemmas about them. -/
import Derived.Test.YtceacicpjgffgaaC41GLProfileStronger
import Derived.Test.YtceacicpjgffgaaC41M6
set_option linter.unusedVariables false
set_option linter.unusedSimpArgs false
namespace Go.Abs
open Go
def badR (u v : Int) (r : RT) : Bool := decide (r.2.1 * u + r.2.2.1 * v > r.2.2.2)
structure SRow (r : RT) : Prop where
  c : r.1 = 0
  a : -40 ≤ r.2.1 ∧ r.2.1 ≤ 40
  b : -40 ≤ r.2.2.1 ∧ r.2.2.1 ≤ 40
  np : ¬ (0 < r.2.1 ∧ 0 < r.2.2.1)
theorem mul_small {a u : Int} (h1 : -40 ≤ a) (h2 : a ≤ 40) (h3 : 0 ≤ u) (h4 : u ≤ 4096) : -163840 ≤ a * u ∧ a * u ≤ 163840 := by
  have h : (a * u).natAbs ≤ 40 * 4096 := by
    rw [Int.natAbs_mul]
    exact Nat.mul_le_mul (by omega) (by omega)
  omega
theorem stronger_loop {rows : List RT} {A B C u v : Int} (hr : ∀ r ∈ rows, SRow r) (hl : rows.length ≤ 2) (hu : 0 ≤ u) (hu' : u ≤ 4096) (hv : 0 ≤ v) (hv' : v ≤ 4096) :
    loopF armplanlaw41_ProfileStronger.p0.step (0, 0, A, B, C, rows, [u, v]) = some (bif anyB (fun i => badR u v (rows.getD i R0)) 0 rows.length then .inl true else .inr (0, A, B, C, [u, v])) := by
  have := loop_find (step := armplanlaw41_ProfileStronger.p0.step) (fun i : Nat => ((i : Int), 0, A, B, C, rows, [u, v])) rows.length (fun i => bif (fun i => badR u v (rows.getD i R0)) i then some (.inl true) else none) (.inr (0, A, B, C, [u, v])) (by
    intro i hi
    have hs : SRow (rows.getD i ((0 : Int), ((0 : Int), ((0 : Int), (0 : Int))))) := hr _ (getD_mem (d := R0) hi)
    have s1 : (rows.getD i ((0 : Int), ((0 : Int), ((0 : Int), (0 : Int))))).1 = 0 := hs.c
    have s2 : -40 ≤ (rows.getD i ((0 : Int), ((0 : Int), ((0 : Int), (0 : Int))))).2.1 ∧ (rows.getD i ((0 : Int), ((0 : Int), ((0 : Int), (0 : Int))))).2.1 ≤ 40 := hs.a
    have s3 : -40 ≤ (rows.getD i ((0 : Int), ((0 : Int), ((0 : Int), (0 : Int))))).2.2.1 ∧ (rows.getD i ((0 : Int), ((0 : Int), ((0 : Int), (0 : Int))))).2.2.1 ≤ 40 := hs.b
    have s4 : ¬ (0 < (rows.getD i ((0 : Int), ((0 : Int), ((0 : Int), (0 : Int))))).2.1 ∧ 0 < (rows.getD i ((0 : Int), ((0 : Int), ((0 : Int), (0 : Int))))).2.2.1) := hs.np
    unfold armplanlaw41_ProfileStronger.p0.step armplanlaw41_ProfileStronger.p0.round
    simp only [List.length_cons, List.length_nil, List.getD_cons_zero, List.getD_cons_succ]
    rw [dif_dec (show (i : Int) < (rows.length : Int) by omega)]
    simp only [Int.toNat_natCast]
    rw [show badR u v (rows.getD i R0) = decide ((rows.getD i ((0 : Int), ((0 : Int), ((0 : Int), (0 : Int))))).2.1 * u + (rows.getD i ((0 : Int), ((0 : Int), ((0 : Int), (0 : Int))))).2.2.1 * v > (rows.getD i ((0 : Int), ((0 : Int), ((0 : Int), (0 : Int))))).2.2.2) from rfl]
    have m1 := mul_small s2.1 s2.2 hu hu'
    have m2 := mul_small s3.1 s3.2 hv hv'
    by_cases a : (rows.getD i ((0 : Int), ((0 : Int), ((0 : Int), (0 : Int))))).2.1 > 0
    · have b : ¬ (rows.getD i ((0 : Int), ((0 : Int), ((0 : Int), (0 : Int))))).2.2.1 > 0 := fun h => s4 ⟨a, h⟩
      by_cases c : (rows.getD i ((0 : Int), ((0 : Int), ((0 : Int), (0 : Int))))).2.1 * u + (rows.getD i ((0 : Int), ((0 : Int), ((0 : Int), (0 : Int))))).2.2.1 * v > (rows.getD i ((0 : Int), ((0 : Int), ((0 : Int), (0 : Int))))).2.2.2
      · simp (disch := omega) only [dif_dec, dif_ndec, bif_eq, bif_neq, bif_ne, bif_nne, w64, wu64, Int.toNat_natCast, Option.bind_some, cond_true, cond_false, Bool.not_true, Bool.not_false, Sum.elim_inl, Sum.elim_inr, awake41_true]
      · simp (disch := omega) only [dif_dec, dif_ndec, bif_eq, bif_neq, bif_ne, bif_nne, w64, wu64, Int.toNat_natCast, Option.bind_some, cond_true, cond_false, Bool.not_true, Bool.not_false, Sum.elim_inl, Sum.elim_inr, awake41_true]
        rfl
    · by_cases c : (rows.getD i ((0 : Int), ((0 : Int), ((0 : Int), (0 : Int))))).2.1 * u + (rows.getD i ((0 : Int), ((0 : Int), ((0 : Int), (0 : Int))))).2.2.1 * v > (rows.getD i ((0 : Int), ((0 : Int), ((0 : Int), (0 : Int))))).2.2.2
      · simp (disch := omega) only [dif_dec, dif_ndec, bif_eq, bif_neq, bif_ne, bif_nne, w64, wu64, Int.toNat_natCast, Option.bind_some, cond_true, cond_false, Bool.not_true, Bool.not_false, Sum.elim_inl, Sum.elim_inr, awake41_true]
      · simp (disch := omega) only [dif_dec, dif_ndec, bif_eq, bif_neq, bif_ne, bif_nne, w64, wu64, Int.toNat_natCast, Option.bind_some, cond_true, cond_false, Bool.not_true, Bool.not_false, Sum.elim_inl, Sum.elim_inr, awake41_true]
        rfl) (by
    unfold armplanlaw41_ProfileStronger.p0.step armplanlaw41_ProfileStronger.p0.round
    simp only []
    simp (disch := omega) only [dif_dec, dif_ndec, bif_eq, bif_neq, bif_ne, bif_nne, w64, wu64, Int.toNat_natCast, Option.bind_some, cond_true, cond_false, Bool.not_true, Bool.not_false, Sum.elim_inl, Sum.elim_inr]) rows.length 0 (by omega)
  rw [show ((0 : Nat) : Int) = 0 from rfl] at this
  rw [this, findE_any (P := fun i => badR u v (rows.getD i R0)) (g := fun _ => .inl true) fun j _ _ => rfl]
theorem stronger_law (a b c x y : Int) : armplanlaw41_ProfileStronger.F a b c x y = some true := by
  rw [armplanlaw41_ProfileStronger.F_eq]
  unfold armplanlaw41_ProfileStronger.F0
  have a1 := Int.emod_nonneg a (show (41 : Int) ≠ 0 by omega)
  have a2 := Int.emod_lt_of_pos a (show (0 : Int) < 41 by omega)
  have b1 := Int.emod_nonneg b (show (41 : Int) ≠ 0 by omega)
  have b2 := Int.emod_lt_of_pos b (show (0 : Int) < 41 by omega)
  have c1 := Int.lt_tmod_of_pos c (show (0 : Int) < 100000 by omega)
  have c2 := Int.tmod_lt_of_pos c (show (0 : Int) < 100000 by omega)
  have x1 := Int.emod_nonneg x (show (4097 : Int) ≠ 0 by omega)
  have x2 := Int.emod_lt_of_pos x (show (0 : Int) < 4097 by omega)
  have y1 := Int.emod_nonneg y (show (4097 : Int) ≠ 0 by omega)
  have y2 := Int.emod_lt_of_pos y (show (0 : Int) < 4097 by omega)
  rw [round_val (by omega) (by omega), Option.bind_some, round_val (by omega) (by omega), Option.bind_some, w64 (n := a % 41 - 20) (by omega) (by omega), w64 (n := b % 41 - 20) (by omega) (by omega)]
  have hA : -20 ≤ a % 41 - 20 ∧ a % 41 - 20 ≤ 20 := by omega
  have hB : -20 ≤ b % 41 - 20 ∧ b % 41 - 20 ≤ 20 := by omega
  rw [round_val (a := x) (by omega) (by omega), round_val (a := y) (by omega) (by omega)]
  generalize a % 41 - 20 = A at *
  generalize b % 41 - 20 = B at *
  generalize c.tmod 100000 = C at *
  generalize x % 4097 = u at *
  generalize y % 4097 = v at *
  have hs := split_val (0, (A, (B, C)))
  simp only [] at hs
  rw [hs, Option.bind_some]
  have mu := mul_small (a := A) (u := u) (by omega) (by omega) (by omega) (by omega)
  have mv := mul_small (a := B) (u := v) (by omega) (by omega) (by omega) (by omega)
  have fin : ∀ rows : List RT, 0 < rows.length → rows.length ≤ 2 → (∀ r ∈ rows, SRow r) → ((∀ r ∈ rows, r.2.1 * u + r.2.2.1 * v ≤ r.2.2.2) → A * u + B * v ≤ C) → splitV (0, (A, (B, C))) = (rows, true) → (bif !(splitV (0, (A, (B, C)))).2 then some false else bif ((splitV (0, (A, (B, C)))).1.length : Int) == 0 then some false else (some u).bind fun r4 => (some v).bind fun r5 => (loopF armplanlaw41_ProfileStronger.p0.step (0, 0, A, B, C, (splitV (0, (A, (B, C)))).1, [r4, r5])).bind fun y10 => Sum.elim (fun y11 => some y11) (fun z12 => (armplanlaw41_awake.F ()).bind fun r13 => bif r13 then bif decide (0 < (z12.2.2.2.2.length : Int)) then bif decide (1 < (z12.2.2.2.2.length : Int)) then some (decide (IntKind.wrap .i64 (IntKind.wrap .i64 (z12.2.1 * z12.2.2.2.2.getD 0 0) + IntKind.wrap .i64 (z12.2.2.1 * z12.2.2.2.2.getD 1 0)) ≤ z12.2.2.2.1)) else none else none else some false) y10) = some true := by
    intro rows h0 h2 hr hi hs
    rw [hs]
    simp only [Bool.not_true, cond_false, Option.bind_some]
    rw [bif_neq (by omega), stronger_loop hr h2 (by omega) (by omega) (by omega) (by omega), Option.bind_some]
    cases hb : anyB (fun i => badR u v (rows.getD i R0)) 0 rows.length with
    | true => rfl
    | false =>
      have hle : A * u + B * v ≤ C := hi fun r hr' => by
        obtain ⟨i, hi', e⟩ := mem_getD (d := R0) hr'
        rw [← e]
        have : ¬ (rows.getD i R0).2.1 * u + (rows.getD i R0).2.2.1 * v > (rows.getD i R0).2.2.2 := fun h => by
          have := (anyB_iff (P := fun i => badR u v (rows.getD i R0)) (i := 0) (k := rows.length)).2 ⟨i, Nat.zero_le _, by omega, decide_eq_true h⟩
          rw [hb] at this; cases this
        omega
      simp only [cond_false, Sum.elim_inr]
      rw [awake41_true, Option.bind_some, cond_true]
      simp only [List.length_cons, List.length_nil, List.getD_cons_zero, List.getD_cons_succ]
      simp (disch := omega) only [dif_dec, dif_ndec, bif_eq, bif_neq, bif_ne, bif_nne, w64, wu64, Int.toNat_natCast, Option.bind_some, cond_true, cond_false, Bool.not_true, Bool.not_false, Sum.elim_inl, Sum.elim_inr]
      rw [decide_eq_true hle]
  have hform : (formB (0, (A, (B, C))) && decide (-1073741824 ≤ A + B ∧ A + B ≤ 1073741824)) = true := by
    unfold formB
    rw [Bool.and_eq_true, decide_eq_true_eq, decide_eq_true_eq]
    simp only []
    omega
  by_cases p : 0 < A ∧ 0 < B
  · refine fin [(0, (A + B, ((0 : Int), C))), (0, ((0 : Int), (A + B, C)))] (by simp) (by simp) (fun r hr => ?_) (fun h => ?_) ?_
    · simp only [List.mem_cons, List.not_mem_nil, or_false] at hr
      rcases hr with rfl | rfl
      · exact ⟨rfl, by simp only []; omega, by simp only []; omega, by simp⟩
      · exact ⟨rfl, by simp only []; omega, by simp only []; omega, by simp⟩
    · have e1 := h _ (List.mem_cons_self ..)
      have e2 := h _ (List.mem_cons_of_mem _ (List.mem_cons_self ..))
      simp only [Int.zero_mul, Int.add_zero, Int.zero_add] at e1 e2
      exact split_strong (by omega) (by omega) e1 e2
    · unfold splitV
      simp only []
      rw [hform, cond_true, decide_eq_true p.1, decide_eq_true p.2]
      rfl
  · refine fin [(0, (A, (B, C)))] (by simp) (by simp) (fun r hr => ?_) (fun h => ?_) ?_
    · simp only [List.mem_cons, List.not_mem_nil, or_false] at hr
      subst hr
      exact ⟨rfl, by simp only []; omega, by simp only []; omega, p⟩
    · exact h _ (List.mem_cons_self ..)
    · unfold splitV
      simp only []
      rw [hform, cond_true]
      by_cases q : 0 < A
      · rw [decide_eq_true q, decide_eq_false (fun h => p ⟨q, h⟩)]; rfl
      · rw [decide_eq_false q]; rfl
theorem stronger_good (x : ArgT [.lf (.int .i64), .lf (.int .i64), .lf (.int .i64), .lf (.int .i64), .lf (.int .i64)]) (g : GoodAll [.lf (.int .i64), .lf (.int .i64), .lf (.int .i64), .lf (.int .i64), .lf (.int .i64)] x) : armplanlaw41_ProfileStronger.F x.1 x.2.1 x.2.2.1 x.2.2.2.1 x.2.2.2.2.1 = some true := stronger_law _ _ _ _ _
end Go.Abs
