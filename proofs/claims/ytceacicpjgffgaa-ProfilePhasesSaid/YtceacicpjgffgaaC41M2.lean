/- A part of the proof that the text with the row names: printed readings of functions, or plain lemmas about them. -/
import Derived.Test.YtceacicpjgffgaaC41M1
set_option linter.unusedVariables false
set_option linter.unusedSimpArgs false
namespace Go.Abs
open Go
def NearP (x : List Int) : Prop := ∀ i, i < x.length → -1073741824 ≤ x.getD i 0 ∧ x.getD i 0 ≤ 1073741824
theorem near_iff {x : List Int} : nearB x = true ↔ NearP x := by
  unfold nearB
  rw [allB_iff]
  exact ⟨fun h i hi => of_decide_eq_true (h i (Nat.zero_le _) (by omega)), fun h i _ hi => decide_eq_true (h i (by omega))⟩
theorem lev1_near {n : Nat} {x : List Int} (h : Lev1 n x) : NearP x := fun i hi => by have := h.2 i (by rw [← h.1]; exact hi); omega

/-! ### Satisfied rows -/
theorem sat_val {r : RT} {x : List Int} (h : VRow x.length r) (hx : NearP x) (hl : x.length ≤ 2 ^ 60) : profile_satisfied.F r.1 r.2.1 r.2.2.1 r.2.2.2 x = some (satB r x) := by
  obtain ⟨h1, h2, h3, h4, h5, h6⟩ := h
  have e : (r.1 + 1).toNat = r.1.toNat + 1 := by omega
  obtain ⟨n1, n2⟩ := hx r.1.toNat (by omega)
  obtain ⟨n3, n4⟩ := hx (r.1.toNat + 1) (by omega)
  have m1 := mul_bd h1.1 h1.2 n1 n2
  have m2 := mul_bd h2.1 h2.2 n3 n4
  rw [profile_satisfied.F_eq]
  unfold profile_satisfied.F0 satB
  rw [w64 (n := r.1 + 1) (by omega) (by omega), e]
  simp (disch := omega) only [dif_dec, dif_ndec, bif_eq, bif_neq, bif_ne, bif_nne, w64, wu64, Int.toNat_natCast, Option.bind_some, cond_true, cond_false, Bool.not_true, Bool.not_false, Sum.elim_inl, Sum.elim_inr]
theorem holds_val {r : RT} {x : List Int} (h : VRow x.length r) (hx : NearP x) (hl : x.length ≤ 2 ^ 60) : armplanref40_holds.F r.1 r.2.1 r.2.2.1 r.2.2.2 x = some (satB r x) := by
  obtain ⟨h1, h2, h3, h4, h5, h6⟩ := h
  have e : (r.1 + 1).toNat = r.1.toNat + 1 := by omega
  obtain ⟨n1, n2⟩ := hx r.1.toNat (by omega)
  obtain ⟨n3, n4⟩ := hx (r.1.toNat + 1) (by omega)
  have m1 := mul_bd h1.1 h1.2 n1 n2
  have m2 := mul_bd h2.1 h2.2 n3 n4
  rw [armplanref40_holds.F_eq]
  unfold armplanref40_holds.F0 satB
  rw [w64 (n := r.1 + 1) (by omega) (by omega), e]
  simp (disch := omega) only [dif_dec, dif_ndec, bif_eq, bif_neq, bif_ne, bif_nne, w64, wu64, Int.toNat_natCast, Option.bind_some, cond_true, cond_false, Bool.not_true, Bool.not_false, Sum.elim_inl, Sum.elim_inr]
theorem containsF_val {rows : List RT} {x : List Int} (h : RowsP x.length rows) (hx : NearP x) (hl : x.length ≤ 2 ^ 60) (hr : rows.length ≤ 2 ^ 60) : slices_ContainsFunc_Row__profile_Feasible_1.F rows x = some (!satsB rows x, x) := by
  rw [slices_ContainsFunc_Row__profile_Feasible_1.F_eq]
  unfold slices_ContainsFunc_Row__profile_Feasible_1.F0
  rw [slices_IndexFunc_Row__profile_Feasible_1.F_eq]
  unfold slices_IndexFunc_Row__profile_Feasible_1.F0
  have h := loop_find (step := slices_IndexFunc_Row__profile_Feasible_1.p0.step) (fun i : Nat => (rows, (rows.length : Int), (i : Int), x)) rows.length (fun i => bif (fun k => !satB (rows.getD k R0) x) i then some (.inl ((i : Int), x)) else none) (.inr x) (by
    intro i hi
    have hv := sat_val (h i hi) hx hl
    unfold slices_IndexFunc_Row__profile_Feasible_1.p0.step slices_IndexFunc_Row__profile_Feasible_1.p0.round
    rw [profile_Feasible_1.F_eq]
    unfold profile_Feasible_1.F0
    simp only []
    simp (disch := omega) only [dif_dec, dif_ndec, bif_eq, bif_neq, bif_ne, bif_nne, w64, wu64, Int.toNat_natCast, Option.bind_some, cond_true, cond_false, Bool.not_true, Bool.not_false, Sum.elim_inl, Sum.elim_inr, hv]
    cases satB (rows.getD i R0) x <;> rfl) (by
    unfold slices_IndexFunc_Row__profile_Feasible_1.p0.step slices_IndexFunc_Row__profile_Feasible_1.p0.round
    simp only []
    simp (disch := omega) only [dif_dec, dif_ndec, bif_eq, bif_neq, bif_ne, bif_nne, w64, wu64, Int.toNat_natCast, Option.bind_some, cond_true, cond_false, Bool.not_true, Bool.not_false, Sum.elim_inl, Sum.elim_inr]) rows.length 0 (by omega)
  rw [show ((0 : Nat) : Int) = 0 from rfl] at h
  obtain ⟨v, e1, e2⟩ := find_any (fun k => !satB (rows.getD k R0) x) x rows.length 0
  rw [h, Option.bind_some, e1]
  simp only [Option.bind_some, e2, any_not]
  rfl
theorem containsG_val {rows : List RT} {x : List Int} (h : RowsP x.length rows) (hx : NearP x) (hl : x.length ≤ 2 ^ 60) (hr : rows.length ≤ 2 ^ 60) : slices_ContainsFunc_Row__profile_Greatest_1.F rows x = some (!satsB rows x, x) := by
  rw [slices_ContainsFunc_Row__profile_Greatest_1.F_eq]
  unfold slices_ContainsFunc_Row__profile_Greatest_1.F0
  rw [slices_IndexFunc_Row__profile_Greatest_1.F_eq]
  unfold slices_IndexFunc_Row__profile_Greatest_1.F0
  have h := loop_find (step := slices_IndexFunc_Row__profile_Greatest_1.p0.step) (fun i : Nat => (rows, (rows.length : Int), (i : Int), x)) rows.length (fun i => bif (fun k => !satB (rows.getD k R0) x) i then some (.inl ((i : Int), x)) else none) (.inr x) (by
    intro i hi
    have hv := sat_val (h i hi) hx hl
    unfold slices_IndexFunc_Row__profile_Greatest_1.p0.step slices_IndexFunc_Row__profile_Greatest_1.p0.round
    rw [profile_Greatest_1.F_eq]
    unfold profile_Greatest_1.F0
    simp only []
    simp (disch := omega) only [dif_dec, dif_ndec, bif_eq, bif_neq, bif_ne, bif_nne, w64, wu64, Int.toNat_natCast, Option.bind_some, cond_true, cond_false, Bool.not_true, Bool.not_false, Sum.elim_inl, Sum.elim_inr, hv]
    cases satB (rows.getD i R0) x <;> rfl) (by
    unfold slices_IndexFunc_Row__profile_Greatest_1.p0.step slices_IndexFunc_Row__profile_Greatest_1.p0.round
    simp only []
    simp (disch := omega) only [dif_dec, dif_ndec, bif_eq, bif_neq, bif_ne, bif_nne, w64, wu64, Int.toNat_natCast, Option.bind_some, cond_true, cond_false, Bool.not_true, Bool.not_false, Sum.elim_inl, Sum.elim_inr]) rows.length 0 (by omega)
  rw [show ((0 : Nat) : Int) = 0 from rfl] at h
  obtain ⟨v, e1, e2⟩ := find_any (fun k => !satB (rows.getD k R0) x) x rows.length 0
  rw [h, Option.bind_some, e1]
  simp only [Option.bind_some, e2, any_not]
  rfl
theorem containsR_val {rows : List RT} {x : List Int} (h : RowsP x.length rows) (hx : NearP x) (hl : x.length ≤ 2 ^ 60) (hr : rows.length ≤ 2 ^ 60) : slices_ContainsFunc_Row__profile_Refutes_1.F rows x = some (lowB rows x, x) := by
  rw [slices_ContainsFunc_Row__profile_Refutes_1.F_eq]
  unfold slices_ContainsFunc_Row__profile_Refutes_1.F0
  rw [slices_IndexFunc_Row__profile_Refutes_1.F_eq]
  unfold slices_IndexFunc_Row__profile_Refutes_1.F0
  have h := loop_find (step := slices_IndexFunc_Row__profile_Refutes_1.p0.step) (fun i : Nat => (rows, (rows.length : Int), (i : Int), x)) rows.length (fun i => bif (fun k => decide ((rows.getD k R0).2.1 ≤ 0 ∧ (rows.getD k R0).2.2.1 ≤ 0) && !satB (rows.getD k R0) x) i then some (.inl ((i : Int), x)) else none) (.inr x) (by
    intro i hi
    have hv := sat_val (h i hi) hx hl
    unfold slices_IndexFunc_Row__profile_Refutes_1.p0.step slices_IndexFunc_Row__profile_Refutes_1.p0.round
    rw [profile_Refutes_1.F_eq]
    unfold profile_Refutes_1.F0
    simp only []
    by_cases a : (rows.getD i R0).2.1 ≤ 0
    · by_cases b : (rows.getD i R0).2.2.1 ≤ 0
      · rw [decide_eq_true (show (rows.getD i R0).2.1 ≤ 0 ∧ (rows.getD i R0).2.2.1 ≤ 0 from ⟨a, b⟩)]
        simp (disch := omega) only [dif_dec, dif_ndec, bif_eq, bif_neq, bif_ne, bif_nne, w64, wu64, Int.toNat_natCast, Option.bind_some, cond_true, cond_false, Bool.not_true, Bool.not_false, Sum.elim_inl, Sum.elim_inr, hv]
        cases satB (rows.getD i R0) x <;> rfl
      · rw [decide_eq_false (show ¬ ((rows.getD i R0).2.1 ≤ 0 ∧ (rows.getD i R0).2.2.1 ≤ 0) from fun h => b h.2)]
        simp (disch := omega) only [dif_dec, dif_ndec, bif_eq, bif_neq, bif_ne, bif_nne, w64, wu64, Int.toNat_natCast, Option.bind_some, cond_true, cond_false, Bool.not_true, Bool.not_false, Sum.elim_inl, Sum.elim_inr]
        rfl
    · rw [decide_eq_false (show ¬ ((rows.getD i R0).2.1 ≤ 0 ∧ (rows.getD i R0).2.2.1 ≤ 0) from fun h => a h.1)]
      simp (disch := omega) only [dif_dec, dif_ndec, bif_eq, bif_neq, bif_ne, bif_nne, w64, wu64, Int.toNat_natCast, Option.bind_some, cond_true, cond_false, Bool.not_true, Bool.not_false, Sum.elim_inl, Sum.elim_inr]
      rfl) (by
    unfold slices_IndexFunc_Row__profile_Refutes_1.p0.step slices_IndexFunc_Row__profile_Refutes_1.p0.round
    simp only []
    simp (disch := omega) only [dif_dec, dif_ndec, bif_eq, bif_neq, bif_ne, bif_nne, w64, wu64, Int.toNat_natCast, Option.bind_some, cond_true, cond_false, Bool.not_true, Bool.not_false, Sum.elim_inl, Sum.elim_inr]) rows.length 0 (by omega)
  rw [show ((0 : Nat) : Int) = 0 from rfl] at h
  obtain ⟨v, e1, e2⟩ := find_any (fun k => decide ((rows.getD k R0).2.1 ≤ 0 ∧ (rows.getD k R0).2.2.1 ≤ 0) && !satB (rows.getD k R0) x) x rows.length 0
  rw [h, Option.bind_some, e1]
  simp only [Option.bind_some, e2]
  rfl

/-! ### Feasible -/
theorem und_if {α : Type} (v t : Int) (no yes : α) : (bif decide (v < 0) then no else bif decide (v > t) then no else yes) = bif decide (0 ≤ v ∧ v ≤ t) then yes else no := by
  by_cases q1 : v < 0
  · rw [dif_dec q1, decide_eq_false (show ¬ (0 ≤ v ∧ v ≤ t) by omega)]; rfl
  · rw [dif_ndec q1]
    by_cases q2 : v > t
    · rw [dif_dec q2, decide_eq_false (show ¬ (0 ≤ v ∧ v ≤ t) by omega)]; rfl
    · rw [dif_ndec q2, decide_eq_true (show 0 ≤ v ∧ v ≤ t by omega)]; rfl
theorem under_near {top x : List Int} {rows : List RT} (h : ValidP top rows) (hl : x.length = top.length) (hu : underB top x = true) : NearP x := by
  intro i hi
  unfold underB at hu
  rw [allB_iff] at hu
  have h1 := of_decide_eq_true (hu i (Nat.zero_le _) (by omega))
  have h2 := h.t i (by omega)
  omega
theorem feas_val (top : List Int) (rows : List RT) (x : List Int) : profile_Feasible.F top rows x = some (feasB top rows x) := by
  rw [profile_Feasible.F_eq]
  unfold profile_Feasible.F0 feasB
  rw [valid_val, Option.bind_some]
  cases hv : validB top rows with
  | false => rfl
  | true =>
    have hV := validB_iff.1 hv
    have h65 := hV.n65
    have hrl := hV.rl
    rw [Bool.not_true, cond_false, Bool.true_and]
    by_cases a : x.length = top.length
    · rw [bif_nne (by omega), decide_eq_true a, Bool.true_and]
      have l0 := loop_find (step := profile_Feasible.p0.step) (fun i : Nat => (top, rows, x, (x.length : Int), (i : Int), x)) x.length (fun i => bif decide (0 ≤ x.getD i 0 ∧ x.getD i 0 ≤ top.getD i 0) then none else some (.inl false)) (.inr (rows, x)) (by
        intro i hi
        unfold profile_Feasible.p0.step profile_Feasible.p0.round
        simp only []
        simp (disch := omega) only [dif_dec, dif_ndec, bif_eq, bif_neq, bif_ne, bif_nne, w64, wu64, Int.toNat_natCast, Option.bind_some, cond_true, cond_false, Bool.not_true, Bool.not_false, Sum.elim_inl, Sum.elim_inr]
        rw [und_if]
        cases decide (0 ≤ x.getD i 0 ∧ x.getD i 0 ≤ top.getD i 0) <;> rfl) (by
        unfold profile_Feasible.p0.step profile_Feasible.p0.round
        simp only []
        simp (disch := omega) only [dif_dec, dif_ndec, bif_eq, bif_neq, bif_ne, bif_nne, w64, wu64, Int.toNat_natCast, Option.bind_some, cond_true, cond_false, Bool.not_true, Bool.not_false, Sum.elim_inl, Sum.elim_inr]) x.length 0 (by omega)
      rw [show ((0 : Nat) : Int) = 0 from rfl] at l0
      rw [l0, Option.bind_some, findE_all (P := fun i => decide (0 ≤ x.getD i 0 ∧ x.getD i 0 ≤ top.getD i 0)) fun j _ _ => rfl]
      show Sum.elim _ _ (bif underB top x then _ else _) = _
      cases hu : underB top x with
      | false => rfl
      | true =>
        simp only [cond_true, Sum.elim_inr]
        rw [containsF_val (by rw [a]; exact hV.r) (under_near hV a hu) (by omega) (by omega), Option.bind_some, Bool.not_not]
        rfl
    · rw [bif_ne (by omega), decide_eq_false a]
      rfl
theorem rfeas_val (top : List Int) (rows : List RT) (x : List Int) : armplanref40_Feasible.F top rows x = some (feasB top rows x) := by
  rw [armplanref40_Feasible.F_eq]
  unfold armplanref40_Feasible.F0 feasB
  rw [rvalid_val, Option.bind_some]
  cases hv : validB top rows with
  | false => rfl
  | true =>
    have hV := validB_iff.1 hv
    have h65 := hV.n65
    have hrl := hV.rl
    rw [Bool.not_true, cond_false, Bool.true_and]
    by_cases a : x.length = top.length
    · rw [bif_nne (by omega), decide_eq_true a, Bool.true_and]
      have l0 := loop_find (step := armplanref40_Feasible.p0.step) (fun i : Nat => (top, rows, x, (i : Int))) x.length (fun i => bif decide (0 ≤ x.getD i 0 ∧ x.getD i 0 ≤ top.getD i 0) then none else some (.inl false)) (.inr (rows, x)) (by
        intro i hi
        unfold armplanref40_Feasible.p0.step armplanref40_Feasible.p0.round
        simp only []
        simp (disch := omega) only [dif_dec, dif_ndec, bif_eq, bif_neq, bif_ne, bif_nne, w64, wu64, Int.toNat_natCast, Option.bind_some, cond_true, cond_false, Bool.not_true, Bool.not_false, Sum.elim_inl, Sum.elim_inr]
        rw [und_if]
        cases decide (0 ≤ x.getD i 0 ∧ x.getD i 0 ≤ top.getD i 0) <;> rfl) (by
        unfold armplanref40_Feasible.p0.step armplanref40_Feasible.p0.round
        simp only []
        simp (disch := omega) only [dif_dec, dif_ndec, bif_eq, bif_neq, bif_ne, bif_nne, w64, wu64, Int.toNat_natCast, Option.bind_some, cond_true, cond_false, Bool.not_true, Bool.not_false, Sum.elim_inl, Sum.elim_inr]) x.length 0 (by omega)
      rw [show ((0 : Nat) : Int) = 0 from rfl] at l0
      rw [l0, Option.bind_some, findE_all (P := fun i => decide (0 ≤ x.getD i 0 ∧ x.getD i 0 ≤ top.getD i 0)) fun j _ _ => rfl]
      show Sum.elim _ _ (bif underB top x then _ else _) = _
      cases hu : underB top x with
      | false => rfl
      | true =>
        simp only [cond_true, Sum.elim_inr]
        have hn := under_near hV a hu
        have l1 := loop_find (step := armplanref40_Feasible.p1.step) (fun i : Nat => (rows, x, (i : Int))) rows.length (fun i => bif satB (rows.getD i R0) x then none else some (.inl false)) (.inr ()) (by
          intro i hi
          have hv := holds_val (by rw [a]; exact hV.r i hi) hn (by omega)
          unfold armplanref40_Feasible.p1.step armplanref40_Feasible.p1.round
          simp only []
          simp (disch := omega) only [dif_dec, dif_ndec, bif_eq, bif_neq, bif_ne, bif_nne, w64, wu64, Int.toNat_natCast, Option.bind_some, cond_true, cond_false, Bool.not_true, Bool.not_false, Sum.elim_inl, Sum.elim_inr, hv]
          cases satB (rows.getD i R0) x <;> rfl) (by
          unfold armplanref40_Feasible.p1.step armplanref40_Feasible.p1.round
          simp only []
          simp (disch := omega) only [dif_dec, dif_ndec, bif_eq, bif_neq, bif_ne, bif_nne, w64, wu64, Int.toNat_natCast, Option.bind_some, cond_true, cond_false, Bool.not_true, Bool.not_false, Sum.elim_inl, Sum.elim_inr]) rows.length 0 (by omega)
        rw [show ((0 : Nat) : Int) = 0 from rfl] at l1
        rw [l1, Option.bind_some, findE_all (P := fun i => satB (rows.getD i R0) x) fun j _ _ => rfl]
        show Sum.elim _ _ (bif satsB rows x then _ else _) = _
        cases satsB rows x <;> rfl
    · rw [bif_ne (by omega), decide_eq_false a]
      rfl

/-! ### Bound -/
theorem quot_eq {a b : Int} (hb : 0 < b) (h0 : -4611686018427387904 ≤ a) (h1 : a ≤ 4611686018427387904) : (bif decide (a.tmod b < 0) then some (IntKind.wrap .i64 (IntKind.wrap .i64 (a.tdiv b) - 1)) else some (IntKind.wrap .i64 (a.tdiv b))) = some (a / b) := by
  rcases Int.lt_or_le a 0 with ha | ha
  · have n0 : ¬ 0 ≤ a := by omega
    have hlo : a ≤ a / b := by
      rw [Int.le_ediv_iff_mul_le hb]
      have := mulnp (a := a) (x := b) (y := 1) (by omega) (by omega)
      omega
    have hhi : a / b ≤ 0 := by
      have := Int.ediv_le_ediv (a := a) (b := 0) hb (by omega)
      rwa [Int.zero_ediv] at this
    have hm := Int.emod_nonneg a (show b ≠ 0 by omega)
    have hm' := Int.emod_lt_of_pos a hb
    by_cases hd : b ∣ a
    · have e1 : a.tmod b = 0 := by rw [Int.tmod_eq_emod]; simp [hd, Int.emod_eq_zero_of_dvd hd]
      have e2 : a.tdiv b = a / b := by rw [Int.tdiv_eq_ediv]; simp [hd]
      rw [e1, e2, dif_ndec (by omega), w64 (by omega) (by omega)]
    · have e1 : a.tmod b = a % b - b := by rw [Int.tmod_eq_emod]; simp [n0, hd]; omega
      have e2 : a.tdiv b = a / b + 1 := by rw [Int.tdiv_eq_ediv]; simp [n0, hd]; omega
      rw [e1, e2, dif_dec (by omega), w64 (n := a / b + 1) (by omega) (by omega), w64 (by omega) (by omega), Int.add_sub_cancel]
  · have hm := Int.emod_nonneg a (show b ≠ 0 by omega)
    have hq : 0 ≤ a / b := Int.ediv_nonneg ha (by omega)
    have hq' : a / b ≤ a := Int.ediv_le_self b ha
    rw [Int.tmod_eq_emod_of_nonneg ha, dif_ndec (by omega), Int.tdiv_eq_ediv_of_nonneg ha, w64 (by omega) (by omega)]
theorem quotient_val {a b : Int} (hb : 0 < b) (h0 : -4611686018427387904 ≤ a) (h1 : a ≤ 4611686018427387904) : profile_quotient.F a b = some (a / b) := by
  rw [profile_quotient.F_eq]
  unfold profile_quotient.F0
  rw [bif_ne (by omega), bif_ne (by omega)]
  exact quot_eq hb h0 h1
theorem floor_val {a b : Int} (hb : 0 < b) (h0 : -4611686018427387904 ≤ a) (h1 : a ≤ 4611686018427387904) : armplanref1_Floor.F a b = some (a / b) := by
  rw [armplanref1_Floor.F_eq]
  unfold armplanref1_Floor.F0
  rw [bif_ne (by omega), bif_ne (by omega)]
  exact quot_eq hb h0 h1
theorem containsN_val {x : List Int} (hl : x.length ≤ 2 ^ 60) : slices_ContainsFunc_int64__profile_Bound_1.F x = some (!nearB x) := by
  rw [slices_ContainsFunc_int64__profile_Bound_1.F_eq]
  unfold slices_ContainsFunc_int64__profile_Bound_1.F0
  rw [slices_IndexFunc_int64__profile_Bound_1.F_eq]
  unfold slices_IndexFunc_int64__profile_Bound_1.F0
  have h := loop_find (step := slices_IndexFunc_int64__profile_Bound_1.p0.step) (fun i : Nat => (x, (x.length : Int), (i : Int))) x.length (fun i => bif (fun k => !decide (-1073741824 ≤ x.getD k 0 ∧ x.getD k 0 ≤ 1073741824)) i then some (.inl (i : Int)) else none) (.inr ()) (by
    intro i hi
    unfold slices_IndexFunc_int64__profile_Bound_1.p0.step slices_IndexFunc_int64__profile_Bound_1.p0.round
    rw [profile_Bound_1.F_eq]
    unfold profile_Bound_1.F0
    simp only []
    rw [within_val (by omega) (by omega)]
    simp (disch := omega) only [dif_dec, dif_ndec, bif_eq, bif_neq, bif_ne, bif_nne, w64, wu64, Int.toNat_natCast, Option.bind_some, cond_true, cond_false, Bool.not_true, Bool.not_false, Sum.elim_inl, Sum.elim_inr]
    have e : (decide (-1073741824 ≤ x.getD i 0) && decide (x.getD i 0 ≤ 1073741824)) = decide (-1073741824 ≤ x.getD i 0 ∧ x.getD i 0 ≤ 1073741824) := (Bool.decide_and ..).symm
    rw [e]
    cases decide (-1073741824 ≤ x.getD i 0 ∧ x.getD i 0 ≤ 1073741824) <;> rfl) (by
    unfold slices_IndexFunc_int64__profile_Bound_1.p0.step slices_IndexFunc_int64__profile_Bound_1.p0.round
    simp only []
    simp (disch := omega) only [dif_dec, dif_ndec, bif_eq, bif_neq, bif_ne, bif_nne, w64, wu64, Int.toNat_natCast, Option.bind_some, cond_true, cond_false, Bool.not_true, Bool.not_false, Sum.elim_inl, Sum.elim_inr]) x.length 0 (by omega)
  rw [show ((0 : Nat) : Int) = 0 from rfl] at h
  obtain ⟨v, e1, e2⟩ := idx_any (fun k => !decide (-1073741824 ≤ x.getD k 0 ∧ x.getD k 0 ≤ 1073741824)) x.length 0
  rw [h, Option.bind_some, e1]
  simp only [Option.bind_some, e2, any_not]
  rfl
theorem act_beq (r : RT) : (decide (r.2.1 > 0) == decide (r.2.2.1 > 0)) = !actB r := by
  unfold actB
  show (decide (0 < r.2.1) == decide (0 < r.2.2.1)) = _
  cases decide (0 < r.2.1) <;> cases decide (0 < r.2.2.1) <;> rfl
theorem act_pos {r : RT} (h : actB r = true) (hA : ¬ 0 < r.2.1) : 0 < r.2.2.1 := by
  unfold actB at h
  rw [decide_eq_false hA] at h
  cases hb : decide (0 < r.2.2.1) with
  | false => rw [hb] at h; cases h
  | true => exact of_decide_eq_true hb
theorem form_bd {r : RT} (h : formB r = true) : (-1073741824 ≤ r.2.1 ∧ r.2.1 ≤ 1073741824) ∧ (-1073741824 ≤ r.2.2.1 ∧ r.2.2.1 ≤ 1073741824) ∧ (-1152921504606846976 ≤ r.2.2.2 ∧ r.2.2.2 ≤ 1152921504606846976) := by
  unfold formB at h
  have := of_decide_eq_true h
  omega
theorem bound_val (r : RT) {x : List Int} (hl : x.length ≤ 2 ^ 60) : profile_Bound.F r.1 r.2.1 r.2.2.1 r.2.2.2 x = some (boundV r x) := by
  rw [profile_Bound.F_eq]
  unfold profile_Bound.F0 boundV bndOk
  rw [act_beq, inRange_val, containsN_val hl]
  cases ha : actB r with
  | false => rfl
  | true =>
    rw [Bool.not_true, cond_false, Option.bind_some, Bool.true_and]
    cases hf : formB r with
    | false => rfl
    | true =>
      obtain ⟨f1, f2, f3⟩ := form_bd hf
      rw [Bool.not_true, cond_false, Bool.true_and]
      by_cases c1 : r.1 < 0
      · rw [dif_dec c1, decide_eq_false (show ¬ (0 ≤ r.1 ∧ r.1 ≤ (x.length : Int) - 2) by omega)]; rfl
      · rw [dif_ndec c1, w64 (n := (x.length : Int) - 1) (by omega) (by omega)]
        by_cases c2 : r.1 ≥ (x.length : Int) - 1
        · rw [dif_dec c2, decide_eq_false (show ¬ (0 ≤ r.1 ∧ r.1 ≤ (x.length : Int) - 2) by omega)]; rfl
        · rw [dif_ndec c2, decide_eq_true (show 0 ≤ r.1 ∧ r.1 ≤ (x.length : Int) - 2 by omega), Bool.true_and, Option.bind_some]
          cases hn : nearB x with
          | false => rfl
          | true =>
            have hn := near_iff.1 hn
            have e : (r.1 + 1).toNat = r.1.toNat + 1 := by omega
            obtain ⟨n1, n2⟩ := hn r.1.toNat (by omega)
            obtain ⟨n3, n4⟩ := hn (r.1.toNat + 1) (by omega)
            have m1 := mul_bd f1.1 f1.2 n1 n2
            have m2 := mul_bd f2.1 f2.2 n3 n4
            rw [Bool.not_true, cond_false, cond_true, w64 (n := r.1 + 1) (by omega) (by omega), e]
            unfold tgt bnd
            by_cases hA : 0 < r.2.1
            · rw [if_pos hA, if_pos hA, dif_dec hA, dif_dec (by omega), dif_dec (by omega), w64 (n := r.2.2.1 * x.getD (r.1.toNat + 1) 0) (by omega) (by omega), w64 (by omega) (by omega), quotient_val hA (by omega) (by omega), Option.bind_some, show ((r.1.toNat : Nat) : Int) = r.1 by omega]
            · have hB := act_pos ha hA
              rw [if_neg hA, if_neg hA, dif_ndec hA, dif_dec (by omega), dif_dec (by omega), w64 (n := r.2.1 * x.getD r.1.toNat 0) (by omega) (by omega), w64 (by omega) (by omega), quotient_val hB (by omega) (by omega), Option.bind_some, show ((r.1.toNat + 1 : Nat) : Int) = r.1 + 1 by omega]
theorem near_if {α : Type} (v : Int) (no yes : α) : (bif decide (v < -1073741824) then no else bif decide (v > 1073741824) then no else yes) = bif decide (-1073741824 ≤ v ∧ v ≤ 1073741824) then yes else no := by
  by_cases q1 : v < -1073741824
  · rw [dif_dec q1, decide_eq_false (show ¬ (-1073741824 ≤ v ∧ v ≤ 1073741824) by omega)]; rfl
  · rw [dif_ndec q1]
    by_cases q2 : v > 1073741824
    · rw [dif_dec q2, decide_eq_false (show ¬ (-1073741824 ≤ v ∧ v ≤ 1073741824) by omega)]; rfl
    · rw [dif_ndec q2, decide_eq_true (show -1073741824 ≤ v ∧ v ≤ 1073741824 by omega)]; rfl
theorem rbound_val (r : RT) {x : List Int} (hl : x.length ≤ 2 ^ 60) : armplanref40_Bound.F r.1 r.2.1 r.2.2.1 r.2.2.2 x = some (boundV r x) := by
  rw [armplanref40_Bound.F_eq]
  unfold armplanref40_Bound.F0 boundV bndOk
  rw [act_beq, formed_val, Option.bind_some]
  cases hf : formB r with
  | false => rw [Bool.false_and, Bool.and_false]; rfl
  | true =>
    obtain ⟨f1, f2, f3⟩ := form_bd hf
    rw [Bool.not_true, cond_false, Bool.true_and]
    cases ha : actB r with
    | false => rfl
    | true =>
      rw [Bool.not_true, cond_false, Bool.true_and]
      by_cases c1 : r.1 < 0
      · rw [dif_dec c1, decide_eq_false (show ¬ (0 ≤ r.1 ∧ r.1 ≤ (x.length : Int) - 2) by omega)]; rfl
      · rw [dif_ndec c1, w64 (n := (x.length : Int) - 2) (by omega) (by omega)]
        by_cases c2 : r.1 > (x.length : Int) - 2
        · rw [dif_dec c2, decide_eq_false (show ¬ (0 ≤ r.1 ∧ r.1 ≤ (x.length : Int) - 2) by omega)]; rfl
        · rw [dif_ndec c2, decide_eq_true (show 0 ≤ r.1 ∧ r.1 ≤ (x.length : Int) - 2 by omega), Bool.true_and]
          have l0 := loop_find (step := armplanref40_Bound.p0.step) (fun i : Nat => (x, (i : Int), r.1, r.2.1, r.2.2.1, r.2.2.2)) x.length (fun i => bif decide (-1073741824 ≤ x.getD i 0 ∧ x.getD i 0 ≤ 1073741824) then none else some (.inl (0, 0, false))) (.inr (x, r.1, r.2.1, r.2.2.1, r.2.2.2)) (by
            intro i hi
            unfold armplanref40_Bound.p0.step armplanref40_Bound.p0.round
            simp only []
            simp (disch := omega) only [dif_dec, dif_ndec, bif_eq, bif_neq, bif_ne, bif_nne, w64, wu64, Int.toNat_natCast, Option.bind_some, cond_true, cond_false, Bool.not_true, Bool.not_false, Sum.elim_inl, Sum.elim_inr]
            rw [near_if]
            cases decide (-1073741824 ≤ x.getD i 0 ∧ x.getD i 0 ≤ 1073741824) <;> rfl) (by
            unfold armplanref40_Bound.p0.step armplanref40_Bound.p0.round
            simp only []
            simp (disch := omega) only [dif_dec, dif_ndec, bif_eq, bif_neq, bif_ne, bif_nne, w64, wu64, Int.toNat_natCast, Option.bind_some, cond_true, cond_false, Bool.not_true, Bool.not_false, Sum.elim_inl, Sum.elim_inr]) x.length 0 (by omega)
          rw [show ((0 : Nat) : Int) = 0 from rfl] at l0
          rw [l0, Option.bind_some, findE_all (P := fun i => decide (-1073741824 ≤ x.getD i 0 ∧ x.getD i 0 ≤ 1073741824)) fun j _ _ => rfl]
          show Sum.elim _ _ (bif nearB x then _ else _) = _
          cases hn : nearB x with
          | false => rfl
          | true =>
            have hn := near_iff.1 hn
            have e : (r.1 + 1).toNat = r.1.toNat + 1 := by omega
            obtain ⟨n1, n2⟩ := hn r.1.toNat (by omega)
            obtain ⟨n3, n4⟩ := hn (r.1.toNat + 1) (by omega)
            have m1 := mul_bd f1.1 f1.2 n1 n2
            have m2 := mul_bd f2.1 f2.2 n3 n4
            simp only [cond_true, Sum.elim_inr]
            rw [w64 (n := r.1 + 1) (by omega) (by omega), e]
            unfold tgt bnd
            by_cases hA : 0 < r.2.1
            · rw [if_pos hA, if_pos hA, dif_dec hA, dif_dec (by omega), dif_dec (by omega), w64 (n := r.2.2.1 * x.getD (r.1.toNat + 1) 0) (by omega) (by omega), w64 (by omega) (by omega), floor_val hA (by omega) (by omega), Option.bind_some, show ((r.1.toNat : Nat) : Int) = r.1 by omega]
            · have hB := act_pos ha hA
              rw [if_neg hA, if_neg hA, dif_ndec hA, dif_dec (by omega), dif_dec (by omega), w64 (n := r.2.1 * x.getD r.1.toNat 0) (by omega) (by omega), w64 (by omega) (by omega), floor_val hB (by omega) (by omega), Option.bind_some, show ((r.1.toNat + 1 : Nat) : Int) = r.1 + 1 by omega]
end Go.Abs
