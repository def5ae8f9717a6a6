/- A part of the proof that the text with the row names: printed readings of functions, or plain lemmas about them. -/
import Derived.Test.YtanopckddijfcaaDoorC8GLRobotBetween
import Derived.Test.YtanopckddijfcaaDoorC8M6
set_option linter.unusedVariables false
set_option linter.unusedSimpArgs false
namespace Go.Abs
open Go Go.Proofs
theorem from_val (l : List Int) : armplanmake_From.F l = some (l, 0) := by
  rw [armplanmake_From.F_eq]
  rfl
theorem mkRobot_val {l : List Int} (hl : l.length ≤ 2 ^ 60) : ∃ r, armplanmake_Robot.F l = some r ∧ GoodR r.1 r.2 := by
  rw [armplanmake_Robot.F_eq]
  unfold armplanmake_Robot.F0
  rw [from_val]
  simp only [Option.bind_some]
  obtain ⟨r, h1, h2, _⟩ := robot_val hl (p := 0) (by decide) (by decide)
  rw [h1]
  exact ⟨_, rfl, h2⟩
theorem getD_mem {α : Type} {l : List α} {d : α} {i : Nat} (h : i < l.length) : l.getD i d ∈ l := by
  rw [List.getD_eq_getElem?_getD, List.getElem?_eq_getElem h]
  exact List.getElem_mem _
theorem mem_getD {α : Type} {l : List α} {d x : α} (h : x ∈ l) : ∃ i, i < l.length ∧ l.getD i d = x := by
  obtain ⟨i, hi, e⟩ := List.getElem_of_mem h
  exact ⟨i, hi, by rw [List.getD_eq_getElem?_getD, List.getElem?_eq_getElem hi, e]; rfl⟩
theorem hasB_iff {l : List Int} {v : Int} : hasB l v = true ↔ v ∈ l := by
  unfold hasB
  rw [anyB_iff]
  constructor
  · rintro ⟨j, _, h2, h3⟩
    rw [beq_iff_eq] at h3
    rw [h3]
    exact getD_mem (by omega)
  · intro h
    obtain ⟨i, hi, e⟩ := mem_getD (d := 0) h
    exact ⟨i, Nat.zero_le _, by omega, by rw [e]; exact beq_self_eq_true v⟩
theorem btwL_iff {js : List JT} {a b x : Int} : ∀ {k i : Nat}, x ∈ btwL js a b i k ↔ ∃ j : Nat, i ≤ j ∧ j < i + k ∧ (hasB (chainL js 11 a) (j : Int) == hasB (chainL js 11 b) (j : Int)) = false ∧ x = (j : Int)
  | 0, i => by simp [btwL]; omega
  | k + 1, i => by
    rw [btwL, List.mem_append, btwL_iff]
    constructor
    · rintro (h | ⟨j, h1, h2, h3⟩)
      · cases hb : (hasB (chainL js 11 a) (i : Int) == hasB (chainL js 11 b) (i : Int)) with
        | true => rw [hb, if_pos rfl] at h; cases h
        | false => rw [hb, if_neg (by simp)] at h; simp at h; exact ⟨i, by omega, by omega, hb, h⟩
      · exact ⟨j, by omega, by omega, h3⟩
    · rintro ⟨j, h1, h2, h3, h4⟩
      by_cases e : j = i
      · subst e
        left
        rw [h3, if_neg (by simp), h4]
        simp
      · exact .inr ⟨j, by omega, by omega, h3, h4⟩
theorem lmember_val {l : List Int} (v : Int) (hl : l.length ≤ 2 ^ 60) : armplanlaw8_member.F l v = some (hasB l v) := by
  rw [armplanlaw8_member.F_eq]
  unfold armplanlaw8_member.F0 hasB
  have := loop_find (step := armplanlaw8_member.p0.step) (fun i : Nat => (l, v, (i : Int))) l.length (fun i => bif (fun i => v == l.getD i 0) i then some (.inl true) else none) (.inr ()) (by
    intro i hi
    have hc : (l.getD i 0 == v) = (v == l.getD i 0) := by rw [Bool.eq_iff_iff, beq_iff_eq, beq_iff_eq]; exact eq_comm
    unfold armplanlaw8_member.p0.step armplanlaw8_member.p0.round
    simp only []
    simp (disch := omega) only [dif_dec, dif_ndec, bif_eq, bif_neq, bif_ne, bif_nne, w64, wu64, Int.toNat_natCast, Option.bind_some, cond_true, cond_false, Bool.not_true, Bool.not_false, Sum.elim_inl, Sum.elim_inr, hc]
    cases (v == l.getD i 0) <;> rfl) (by
    unfold armplanlaw8_member.p0.step armplanlaw8_member.p0.round
    simp only []
    simp (disch := omega) only [dif_dec, dif_ndec, bif_eq, bif_neq, bif_ne, bif_nne, w64, wu64, Int.toNat_natCast, Option.bind_some, cond_true, cond_false, Bool.not_true, Bool.not_false, Sum.elim_inl, Sum.elim_inr]) l.length 0 (by omega)
  rw [show ((0 : Nat) : Int) = 0 from rfl] at this
  rw [this, Option.bind_some, findE_any (P := fun i => v == l.getD i 0) (g := fun _ => .inl true) fun j _ _ => rfl]
  cases anyB (fun i => v == l.getD i 0) 0 l.length <;> rfl
theorem sameInt_refl {l : List Int} (hl : l.length ≤ 2 ^ 60) : armplanmake_Same_int.F l l = some true := by
  rw [armplanmake_Same_int.F_eq]
  unfold armplanmake_Same_int.F0
  rw [bif_nne rfl]
  have := loop_count (step := armplanmake_Same_int.p0.step) (fun j : Nat => (l, l, (j : Int))) l.length (Sum.inr ()) (by
    intro j hj
    unfold armplanmake_Same_int.p0.step armplanmake_Same_int.p0.round
    simp only [bne_self_eq_false]
    simp (disch := omega) only [dif_dec, dif_ndec, bif_eq, bif_neq, bif_ne, bif_nne, w64, wu64, Int.toNat_natCast, Option.bind_some, cond_true, cond_false, Bool.not_true, Bool.not_false, Sum.elim_inl, Sum.elim_inr]
    rfl) (by
    unfold armplanmake_Same_int.p0.step armplanmake_Same_int.p0.round
    simp only []
    simp (disch := omega) only [dif_dec, dif_ndec, bif_eq, bif_neq, bif_ne, bif_nne, w64, wu64, Int.toNat_natCast, Option.bind_some, cond_true, cond_false, Bool.not_true, Bool.not_false, Sum.elim_inl, Sum.elim_inr]) l.length 0 (by omega)
  rw [show ((0 : Nat) : Int) = 0 from rfl] at this
  rw [this]
  rfl
theorem btwL_symm (js : List JT) (a b : Int) : ∀ (k i : Nat), btwL js a b i k = btwL js b a i k
  | 0, _ => rfl
  | k + 1, i => by
    simp only [btwL]
    have e : (hasB (chainL js 11 a) (i : Int) == hasB (chainL js 11 b) (i : Int)) = (hasB (chainL js 11 b) (i : Int) == hasB (chainL js 11 a) (i : Int)) := by
      cases hasB (chainL js 11 a) (i : Int) <;> cases hasB (chainL js 11 b) (i : Int) <;> rfl
    rw [e, btwL_symm js a b k (i + 1)]
theorem btwL_self (js : List JT) (a : Int) : ∀ (k i : Nat), btwL js a a i k = []
  | 0, _ => rfl
  | k + 1, i => by
    simp only [btwL]
    rw [btwL_self js a k (i + 1), beq_self_eq_true, if_pos rfl]
    rfl
/-- A place on the way lies on exactly one of the ways to a third link. -/
theorem btw_third {js : List JT} {x y z : Int} {n : Nat} {v : Int} (h : v ∈ btwL js x y 0 n) : (hasB (btwL js x z 0 n) v == hasB (btwL js z y 0 n) v) = false := by
  obtain ⟨j, _, h2, h3, rfl⟩ := btwL_iff.1 h
  have key : ∀ a b : Int, hasB (btwL js a b 0 n) (j : Int) = !(hasB (chainL js 11 a) (j : Int) == hasB (chainL js 11 b) (j : Int)) := by
    intro a b
    cases hb : (hasB (chainL js 11 a) (j : Int) == hasB (chainL js 11 b) (j : Int)) with
    | false => exact hasB_iff.2 (btwL_iff.2 ⟨j, Nat.zero_le _, h2, hb, rfl⟩)
    | true =>
      rw [Bool.not_true, Bool.eq_false_iff]
      intro e
      obtain ⟨i, _, _, h5, h6⟩ := btwL_iff.1 (hasB_iff.1 e)
      obtain rfl : j = i := by omega
      rw [h5] at hb
      cases hb
  rw [key, key]
  revert h3
  cases hasB (chainL js 11 x) (j : Int) <;> cases hasB (chainL js 11 y) (j : Int) <;> cases hasB (chainL js 11 z) (j : Int) <;> simp
theorem btw_check {x : Int} {js : List JT} {ms : List MT} {u v w : List Int} (hu : u.length ≤ 100) (hv : v.length ≤ 100) (hw : w.length ≤ 100) (h : ∀ a ∈ u, (hasB v a == hasB w a) = false) :
    loopF armplanlaw8_RobotBetween.p0.step (x, 0, js, ms, u, v, w) = some (.inr (x, js, ms)) := by
  have := loop_count (step := armplanlaw8_RobotBetween.p0.step) (fun i : Nat => (x, (i : Int), js, ms, u, v, w)) u.length (.inr (x, js, ms)) (by
    intro i hi
    have hm := h _ (getD_mem (d := 0) hi)
    have e1 : ((i : Int) + 1) = ((i + 1 : Nat) : Int) := by omega
    unfold armplanlaw8_RobotBetween.p0.step armplanlaw8_RobotBetween.p0.round
    simp only []
    simp (disch := omega) only [dif_dec, dif_ndec, bif_eq, bif_neq, bif_ne, bif_nne, w64, wu64, Int.toNat_natCast, Option.bind_some, cond_true, cond_false, Bool.not_true, Bool.not_false, Sum.elim_inl, Sum.elim_inr]
    rw [lmember_val _ (by omega), lmember_val _ (by omega)]
    simp (disch := omega) only [dif_dec, dif_ndec, bif_eq, bif_neq, bif_ne, bif_nne, w64, wu64, Int.toNat_natCast, Option.bind_some, cond_true, cond_false, Bool.not_true, Bool.not_false, Sum.elim_inl, Sum.elim_inr, hm, e1]) (by
    unfold armplanlaw8_RobotBetween.p0.step armplanlaw8_RobotBetween.p0.round
    simp only []
    simp (disch := omega) only [dif_dec, dif_ndec, bif_eq, bif_neq, bif_ne, bif_nne, w64, wu64, Int.toNat_natCast, Option.bind_some, cond_true, cond_false, Bool.not_true, Bool.not_false, Sum.elim_inl, Sum.elim_inr]) u.length 0 (by omega)
  exact this
theorem between_true {l : List Int} (hl : l.length ≤ 2 ^ 60) (a b c : Int) : armplanlaw8_RobotBetween.F l a b c = some true := by
  rw [armplanlaw8_RobotBetween.F_eq]
  unfold armplanlaw8_RobotBetween.F0
  obtain ⟨⟨js, ms⟩, hR, hG⟩ := mkRobot_val hl
  simp only [] at hG
  have hc := chkRobot_good hG
  have hz := chkRobot_zero hc
  have h1 := hz.1
  have h10 := hz.2.1
  rw [hR]
  simp only [Option.bind_some]
  rw [w64 (n := (js.length : Int) + 1) (by omega) (by omega), round_val (by omega) (by omega), round_val (by omega) (by omega), round_val (by omega) (by omega)]
  simp only [Option.bind_some]
  have a0 : 0 ≤ a % ((js.length : Int) + 1) := Int.emod_nonneg _ (by omega)
  have a1 : a % ((js.length : Int) + 1) < (js.length : Int) + 1 := Int.emod_lt_of_pos _ (by omega)
  have b0 : 0 ≤ b % ((js.length : Int) + 1) := Int.emod_nonneg _ (by omega)
  have b1 : b % ((js.length : Int) + 1) < (js.length : Int) + 1 := Int.emod_lt_of_pos _ (by omega)
  have c0 : 0 ≤ c % ((js.length : Int) + 1) := Int.emod_nonneg _ (by omega)
  have c1 : c % ((js.length : Int) + 1) < (js.length : Int) + 1 := Int.emod_lt_of_pos _ (by omega)
  generalize a % ((js.length : Int) + 1) = x0 at *
  generalize b % ((js.length : Int) + 1) = y0 at *
  generalize c % ((js.length : Int) + 1) = z0 at *
  rw [w64 (n := x0 - 1) (by omega) (by omega), w64 (n := y0 - 1) (by omega) (by omega), w64 (n := z0 - 1) (by omega) (by omega)]
  have hx : linkB js.length (x0 - 1) = true := linkB_of (by omega) (by omega)
  have hy : linkB js.length (y0 - 1) = true := linkB_of (by omega) (by omega)
  have hzz : linkB js.length (z0 - 1) = true := linkB_of (by omega) (by omega)
  generalize x0 - 1 = x at *
  generalize y0 - 1 = y at *
  generalize z0 - 1 = z at *
  rw [between_val' hc hx hy, between_val' hc hx hzz, between_val' hc hzz hy, between_val' hc hy hx, between_val' hc hx hx]
  simp only [Option.bind_some]
  have n1 : (btwL js x y 0 js.length).length ≤ js.length := btwL_length
  have n2 : (btwL js x z 0 js.length).length ≤ js.length := btwL_length
  have n3 : (btwL js z y 0 js.length).length ≤ js.length := btwL_length
  rw [← btwL_symm js x y, sameInt_refl (by omega), btwL_self]
  simp only [Option.bind_some, Bool.not_true, cond_false, List.length_nil]
  rw [btw_check (by omega) (by omega) (by omega) fun v hv => btw_third hv, awake8_val]
  simp only [Option.bind_some, Sum.elim_inr, cond_true]
  rw [rigid_val hc]
  unfold rigidB
  rw [hx, btwL_self]
  rfl
theorem between_good (x : ArgT [.lf (.slc (.int .i64)), .lf (.int .i64), .lf (.int .i64), .lf (.int .i64)]) (g : GoodAll [.lf (.slc (.int .i64)), .lf (.int .i64), .lf (.int .i64), .lf (.int .i64)] x) : armplanlaw8_RobotBetween.F x.1 x.2.1 x.2.2.1 x.2.2.2.1 = some true := by
  obtain ⟨⟨g1, _⟩, _⟩ := g
  simp only [minB, reachBytes] at g1
  exact between_true (by omega) _ _ _
end Go.Abs
