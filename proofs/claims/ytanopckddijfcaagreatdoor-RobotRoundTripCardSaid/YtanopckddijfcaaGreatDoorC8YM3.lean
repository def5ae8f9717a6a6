/- A part of the proof that the text with the row names: printed readings of functions, or plain lemmas about them. -/
import Derived.Test.YtanopckddijfcaaGreatDoorC8YM0
import Derived.Test.YtanopckddijfcaaGreatDoorC8YM2
set_option linter.unusedVariables false
set_option linter.unusedSimpArgs false
namespace Go.Abs
open Go

def abcB : ByteArray := ⟨#[97, 98, 99, 100, 101, 102, 103, 104, 105, 106]⟩
def letterB (i : Nat) : ByteArray := abcB.extract i (i + 1)
theorem letter_val {i : Nat} (h : i < 10) : armplanmake_letter.F (i : Int) = some (letterB i) := by
  rw [armplanmake_letter.F_eq]
  unfold armplanmake_letter.F0
  have hs : ((⟨#[97, 98, 99, 100, 101, 102, 103, 104, 105, 106]⟩ : ByteArray).size : Int) = 10 := rfl
  rw [hs, w64 (by omega) (by omega)]
  simp (disch := omega) only [dif_dec, dif_ndec, bif_eq, bif_neq, bif_ne, bif_nne, w64, wu64, Int.toNat_natCast, Option.bind_some, cond_true, cond_false, Bool.not_true, Bool.not_false, Sum.elim_inl, Sum.elim_inr]
  rfl
def JPost (i : Nat) (l : List Int) (r : ByteArray × Int × Int × Int × Int × Int × Int × Int × Int × Int × Int × Int × List Int × Int) : Prop :=
  r.1 = letterB i ∧ (0 ≤ r.2.1 ∧ r.2.1 ≤ 5) ∧ (r.2.2.1 = (i : Int) - 1 ∨ r.2.2.1 = -1) ∧ (0 ≤ r.2.2.2.1 ∧ r.2.2.2.1 ≤ 131072) ∧ (-65536 ≤ r.2.2.2.2.1 ∧ r.2.2.2.2.1 ≤ 65536) ∧ (-65536 ≤ r.2.2.2.2.2.1 ∧ r.2.2.2.2.2.1 ≤ 65536) ∧
  (r.2.2.2.2.2.2.1 ≤ r.2.2.2.2.2.2.2.1 ∧ -reachV r.2.1 ≤ r.2.2.2.2.2.2.1 ∧ r.2.2.2.2.2.2.2.1 ≤ reachV r.2.1) ∧ (1 ≤ r.2.2.2.2.2.2.2.2.1 ∧ r.2.2.2.2.2.2.2.2.1 ≤ 4) ∧ r.2.2.2.2.2.2.2.2.2.1 = 65536 ∧ (65536 ≤ r.2.2.2.2.2.2.2.2.2.2.1 ∧ r.2.2.2.2.2.2.2.2.2.2.1 ≤ 65538) ∧ r.2.2.2.2.2.2.2.2.2.2.2.1 = 327680 ∧
  r.2.2.2.2.2.2.2.2.2.2.2.2.1 = l ∧ 0 ≤ r.2.2.2.2.2.2.2.2.2.2.2.2.2 ∧ r.2.2.2.2.2.2.2.2.2.2.2.2.2 ≤ 2 ^ 62
theorem kinds8 : ∀ n : Nat, n < 8 → 0 ≤ (([3, 3, 1, 2, 4, 5, 3, 0] : List Int).getD n 0) ∧ (([3, 3, 1, 2, 4, 5, 3, 0] : List Int).getD n 0) ≤ 5 := by decide
theorem reach_turn {k : Int} (h0 : 0 ≤ k) (h5 : k ≤ 5) (n0 : k ≠ 0) (n4 : k ≠ 4) (n5 : k ≠ 5) : reachV k = 524288 := by
  have : k = 1 ∨ k = 2 ∨ k = 3 := by omega
  rcases this with rfl | rfl | rfl <;> rfl
theorem tdiv8 {x : Int} (h : -1000000 ≤ x) (h' : x ≤ 1000000) : -125000 ≤ x.tdiv 8 ∧ x.tdiv 8 ≤ 125000 ∧ (0 ≤ x → x.tdiv 8 = x / 8) ∧ (x ≤ 0 → x.tdiv 8 ≤ 0 ∧ x / 8 ≤ x.tdiv 8) := by
  rcases Int.lt_or_le x 0 with h0 | h0
  · have e : x.tdiv 8 = -((-x) / 8) := by
      have := Int.neg_tdiv x 8
      have h2 := Int.tdiv_eq_ediv_of_nonneg (a := -x) (b := 8) (by omega)
      omega
    omega
  · have := Int.tdiv_eq_ediv_of_nonneg (b := 8) h0
    omega
theorem joint_val {i : Nat} {l : List Int} {p : Int} (hi : i < 10) (hl : l.length ≤ 2 ^ 60) (hp : 0 ≤ p) (hp' : p ≤ 2 ^ 62) : ∃ r, armplanmake_joint.F (i : Int) l p = some r ∧ JPost i l r := by
  rw [armplanmake_joint.F_eq]
  unfold armplanmake_joint.F0
  rw [letter_val hi, Option.bind_some]
  refine next_bind (by omega) (by omega) hl hp hp' fun we q1 a1 a2 a3 a4 => ?_
  simp only []
  refine next_bind (by omega) (by omega) hl a3 a4 fun ac q2 b1 b2 b3 b4 => ?_
  simp only []
  refine next_bind (by omega) (by omega) hl b3 b4 fun kd q3 c1 c2 c3 c4 => ?_
  simp only []
  simp (disch := omega) only [dif_dec, dif_ndec, bif_eq, bif_neq, bif_ne, bif_nne, w64, wu64, Int.toNat_natCast, Option.bind_some, cond_true, cond_false, Bool.not_true, Bool.not_false, Sum.elim_inl, Sum.elim_inr]
  obtain ⟨k0, k5⟩ := kinds8 kd.toNat (by omega)
  generalize ([3, 3, 1, 2, 4, 5, 3, 0] : List Int).getD kd.toNat 0 = k at *
  refine next_bind (by omega) (by omega) hl c3 c4 fun pr q4 d1 d2 d3 d4 => ?_
  simp only []
  -- the limits, whatever stands before
  have tail : ∀ (pa x y z q : Int), (pa = (i : Int) - 1 ∨ pa = -1) → (0 ≤ x ∧ x ≤ 131072) → (-65536 ≤ y ∧ y ≤ 65536) → (-65536 ≤ z ∧ z ≤ 65536) → 0 ≤ q → q ≤ 2 ^ 62 →
      ∃ r, (bif k == 0 then some (letterB i, k, pa, x, y, z, (0 : Int), (0 : Int), 1 + we, (65536 : Int), 65536 + ac, (327680 : Int), l, q) else bif k == 4 then
        (armplanmake_Source_Next.F 3 l q).bind fun r8 => (armplanmake_Source_Next.F 4 r8.2.1 r8.2.2).bind fun r9 => some (letterB i, k, pa, x, y, z, IntKind.wrap .i64 (IntKind.wrap .i64 (0 - r8.1) * 65536), IntKind.wrap .i64 (r9.1 * 32768), 1 + we, (65536 : Int), 65536 + ac, (327680 : Int), r9.2.1, r9.2.2)
        else bif k == 5 then
        (armplanmake_Source_Next.F 3 l q).bind fun r8 => (armplanmake_Source_Next.F 4 r8.2.1 r8.2.2).bind fun r9 => some (letterB i, k, pa, x, y, z, IntKind.wrap .i64 (IntKind.wrap .i64 (0 - r8.1) * 65536), IntKind.wrap .i64 (r9.1 * 32768), 1 + we, (65536 : Int), 65536 + ac, (327680 : Int), r9.2.1, r9.2.2)
        else (armplanmake_Source_Next.F 5 l q).bind fun r12 => (armplanmake_Source_Next.F 4 r12.2.1 r12.2.2).bind fun r13 => (armplanmake_Source_Next.F 3 r13.2.1 r13.2.2).bind fun r14 => some (letterB i, k, pa, x, y, z, IntKind.wrap .i64 ((IntKind.wrap .i64 (IntKind.wrap .i64 (0 - r12.1) * 65536)).tdiv 8), IntKind.wrap .i64 (IntKind.wrap .i64 ((IntKind.wrap .i64 (IntKind.wrap .i64 (1 + r13.1) * 65536)).tdiv 8) + r14.1), 1 + we, (65536 : Int), 65536 + ac, (327680 : Int), r14.2.1, r14.2.2)) = some r ∧ JPost i l r := by
    intro pa x y z q hpa hx hy hz hq hq'
    have slide : reachV k = 4194304 → ∃ r, ((armplanmake_Source_Next.F 3 l q).bind fun r8 => (armplanmake_Source_Next.F 4 r8.2.1 r8.2.2).bind fun r9 => some (letterB i, k, pa, x, y, z, IntKind.wrap .i64 (IntKind.wrap .i64 (0 - r8.1) * 65536), IntKind.wrap .i64 (r9.1 * 32768), 1 + we, (65536 : Int), 65536 + ac, (327680 : Int), r9.2.1, r9.2.2)) = some r ∧ JPost i l r := by
      intro hr
      refine next_bind (by omega) (by omega) hl hq hq' fun v p e1 e2 e3 e4 => ?_
      simp only []
      refine next_bind (by omega) (by omega) hl e3 e4 fun v' p' f1 f2 f3 f4 => ⟨_, rfl, ?_⟩
      unfold JPost
      simp (disch := omega) only [dif_dec, dif_ndec, bif_eq, bif_neq, bif_ne, bif_nne, w64, wu64, Int.toNat_natCast, Option.bind_some, cond_true, cond_false, Bool.not_true, Bool.not_false, Sum.elim_inl, Sum.elim_inr, hr]
      refine ⟨by trivial, ⟨k0, k5⟩, hpa, hx, hy, hz, ?_, ?_, by trivial, ?_, by trivial, by trivial, f3, f4⟩ <;> omega
    by_cases h0 : k = 0
    · rw [bif_eq h0]
      refine ⟨_, rfl, rfl, ⟨k0, k5⟩, hpa, hx, hy, hz, ?_, ?_, rfl, ?_, rfl, rfl, hq, hq'⟩
      · have := reachV_range k; simp only []; omega
      · simp only []; omega
      · simp only []; omega
    · rw [bif_neq h0]
      by_cases h4 : k = 4
      · rw [bif_eq h4]
        exact slide (by rw [h4]; rfl)
      · rw [bif_neq h4]
        by_cases h5 : k = 5
        · rw [bif_eq h5]
          exact slide (by rw [h5]; rfl)
        · rw [bif_neq h5]
          have hr := reach_turn k0 k5 h0 h4 h5
          refine next_bind (by omega) (by omega) hl hq hq' fun v p e1 e2 e3 e4 => ?_
          simp only []
          refine next_bind (by omega) (by omega) hl e3 e4 fun v' p' f1 f2 f3 f4 => ?_
          simp only []
          refine next_bind (by omega) (by omega) hl f3 f4 fun v'' p'' g1 g2 g3 g4 => ⟨_, rfl, ?_⟩
          have t1 := tdiv8 (x := (0 - v) * 65536) (by omega) (by omega)
          have t2 := tdiv8 (x := (1 + v') * 65536) (by omega) (by omega)
          unfold JPost
          simp (disch := omega) only [dif_dec, dif_ndec, bif_eq, bif_neq, bif_ne, bif_nne, w64, wu64, Int.toNat_natCast, Option.bind_some, cond_true, cond_false, Bool.not_true, Bool.not_false, Sum.elim_inl, Sum.elim_inr, hr]
          refine ⟨by trivial, ⟨k0, k5⟩, hpa, hx, hy, hz, ?_, ?_, by trivial, ?_, by trivial, by trivial, g3, g4⟩ <;> omega
  have wr : ∀ v : Int, -2 ≤ v → v ≤ 2 → -65536 ≤ IntKind.wrap .i64 (v * 32768) ∧ IntKind.wrap .i64 (v * 32768) ≤ 65536 := fun v h1 h2 => by
    rw [w64 (by omega) (by omega)]; omega
  by_cases h1 : pr = 1
  · rw [bif_eq h1]
    by_cases h0 : (i : Int) > 0
    · rw [dif_dec h0]
      refine signed_bind (by omega) (by omega) hl d3 d4 fun v p e1 e2 e3 e4 => ?_
      simp only []
      refine signed_bind (by omega) (by omega) hl e3 e4 fun v' p' f1 f2 f3 f4 => ?_
      exact tail (-1) 131072 _ _ _ (.inr rfl) (by omega) (wr v (by omega) (by omega)) (wr v' (by omega) (by omega)) f3 f4
    · rw [dif_ndec h0]
      exact tail (-1) 0 0 0 _ (.inr rfl) (by omega) (by omega) (by omega) d3 d4
  · rw [bif_neq h1]
    by_cases h0 : (i : Int) > 0
    · rw [dif_dec h0]
      refine signed_bind (by omega) (by omega) hl d3 d4 fun v p e1 e2 e3 e4 => ?_
      simp only []
      refine signed_bind (by omega) (by omega) hl e3 e4 fun v' p' f1 f2 f3 f4 => ?_
      exact tail ((i : Int) - 1) 131072 _ _ _ (.inl rfl) (by omega) (wr v (by omega) (by omega)) (wr v' (by omega) (by omega)) f3 f4
    · rw [dif_ndec h0]
      exact tail ((i : Int) - 1) 0 0 0 _ (.inl rfl) (by omega) (by omega) (by omega) d3 d4
/-- A joint as it is made. -/
def GoodJ (i : Nat) (j : JT) : Prop :=
  j.1 = letterB i ∧ (0 ≤ j.2.1 ∧ j.2.1 ≤ 5) ∧ (j.2.2.1 = (i : Int) - 1 ∨ j.2.2.1 = -1) ∧ (0 ≤ j.2.2.2.1.1 ∧ j.2.2.2.1.1 ≤ 131072) ∧ (-65536 ≤ j.2.2.2.1.2.1 ∧ j.2.2.2.1.2.1 ≤ 65536) ∧ (-65536 ≤ j.2.2.2.1.2.2 ∧ j.2.2.2.1.2.2 ≤ 65536) ∧
  (j.2.2.2.2.1 ≤ j.2.2.2.2.2.1 ∧ -reachV j.2.1 ≤ j.2.2.2.2.1 ∧ j.2.2.2.2.2.1 ≤ reachV j.2.1) ∧ (1 ≤ j.2.2.2.2.2.2.1 ∧ j.2.2.2.2.2.2.1 ≤ 4) ∧ j.2.2.2.2.2.2.2.1 = 65536 ∧ (65536 ≤ j.2.2.2.2.2.2.2.2.1 ∧ j.2.2.2.2.2.2.2.2.1 ≤ 65538) ∧ j.2.2.2.2.2.2.2.2.2 = 327680
def GoodM (n : Int) (m : MT) : Prop := (0 ≤ m.1 ∧ m.1 < n) ∧ (1 ≤ m.2.1 ∧ m.2.1 ≤ 9000) ∧ (-98304 ≤ m.2.2.1 ∧ m.2.2.1 ≤ 98304) ∧ m.2.2.2.1 = 0 ∧ (-65536 ≤ m.2.2.2.2 ∧ m.2.2.2.2 ≤ 65536)
/-- A robot as it is made. -/
def GoodR (js : List JT) (ms : List MT) : Prop := 1 ≤ js.length ∧ js.length ≤ 3 ∧ (∀ i, i < js.length → GoodJ i (js.getD i J0)) ∧ ms.length ≤ 2 ∧ ∀ i, i < ms.length → GoodM js.length (ms.getD i M0)
theorem getD_app {α : Type} {l : List α} {x d : α} {i : Nat} (h : i < (l ++ [x]).length) : (i < l.length ∧ (l ++ [x]).getD i d = l.getD i d) ∨ (i = l.length ∧ (l ++ [x]).getD i d = x) := by
  simp only [List.length_append, List.length_cons, List.length_nil] at h
  rcases Nat.lt_or_ge i l.length with h1 | h1
  · left
    refine ⟨h1, ?_⟩
    rw [List.getD_eq_getElem?_getD, List.getElem?_append_left h1, ← List.getD_eq_getElem?_getD]
  · right
    have : i = l.length := by omega
    refine ⟨this, ?_⟩
    subst this
    rw [List.getD_eq_getElem?_getD, List.getElem?_append_right (Nat.le_refl _)]
    simp
theorem robot_val {l : List Int} {p : Int} (hl : l.length ≤ 2 ^ 60) (hp : 0 ≤ p) (hp' : p ≤ 2 ^ 62) : ∃ r, armplanmake_robot.F l p = some r ∧ (GoodR r.1 r.2.1 ∧ r.2.2.1 = l ∧ 0 ≤ r.2.2.2 ∧ r.2.2.2 ≤ 2 ^ 62) := by
  rw [armplanmake_robot.F_eq]
  unfold armplanmake_robot.F0
  refine next_bind (by omega) (by omega) hl hp hp' fun n p1 a1 a2 a3 a4 => ?_
  simp only []
  rw [w64 (by omega) (by omega)]
  refine some_bind (P := fun r => r.1 = 1 + n ∧ r.2.1 = l ∧ 0 ≤ r.2.2.1 ∧ r.2.2.1 ≤ 2 ^ 62 ∧ (r.2.2.2.length : Int) = 1 + n ∧ ∀ i, i < r.2.2.2.length → GoodJ i (r.2.2.2.getD i J0)) ?_ ?_
  · refine loop_rule (step := armplanmake_robot.p0.step) (fun s => s.1 = 1 + n ∧ s.2.1 = (s.2.2.2.2.length : Int) ∧ s.2.2.1 = l ∧ 0 ≤ s.2.2.2.1 ∧ s.2.2.2.1 ≤ 2 ^ 62 ∧ (s.2.2.2.2.length : Int) ≤ 1 + n ∧ ∀ i, i < s.2.2.2.2.length → GoodJ i (s.2.2.2.2.getD i J0)) _ (fun s => (1 + n - s.2.1).toNat) ?_ _ ⟨rfl, rfl, rfl, a3, a4, by simp only [List.length_nil]; omega, fun i hi => by simp at hi⟩
    rintro ⟨s1, s2, s3, s4, js⟩ hs
    simp only [] at hs
    obtain ⟨rfl, rfl, rfl, b3, b4, b5, b6⟩ := hs
    simp only [armplanmake_robot.p0.step, armplanmake_robot.p0.round]
    by_cases h : (js.length : Int) < 1 + n
    · rw [dif_dec h]
      obtain ⟨r, hr, j1, j2, j3, j4, j5, j6, j7, j8, j9, j10, j11, j12, j13, j14⟩ := joint_val (i := js.length) (p := s4) (by omega) hl b3 b4
      rw [hr]
      simp only [Option.bind_some]
      have hlen : ∀ x : JT, (js ++ [x]).length = js.length + 1 := fun x => by simp
      left
      rw [dif_dec (by simp only [List.length_cons, List.length_nil]; omega), w64 (by omega) (by omega)]
      refine ⟨_, rfl, ⟨rfl, by rw [hlen]; push_cast; rfl, j12, j13, j14, by rw [hlen]; push_cast; omega, fun i hi => ?_⟩, ?_⟩
      · rcases getD_app (d := J0) hi with ⟨h1, h2⟩ | ⟨h1, h2⟩
        · simp only []
          rw [h2]
          exact b6 i h1
        · simp only []
          rw [h2, h1]
          exact ⟨j1, j2, j3, j4, j5, j6, j7, j8, j9, j10, j11⟩
      · simp only []; omega
    · rw [dif_ndec h]
      exact .inr ⟨_, rfl, rfl, rfl, b3, b4, by simp only []; omega, b6⟩
  · rintro ⟨r1, r2, r3, js⟩ ⟨rfl, rfl, c3, c4, c5, c6⟩
    simp only [] at *
    refine next_bind (by omega) (by omega) hl c3 c4 fun k p2 d1 d2 d3 d4 => ?_
    simp only []
    refine some_bind (P := fun r => r.1 = r2 ∧ 0 ≤ r.2.1 ∧ r.2.1 ≤ 2 ^ 62 ∧ r.2.2.1 = js ∧ (r.2.2.2.length : Int) = k ∧ ∀ i, i < r.2.2.2.length → GoodM js.length (r.2.2.2.getD i M0)) ?_ ?_
    · refine loop_rule (step := armplanmake_robot.p1.step) (fun s => s.1 = 1 + n ∧ 0 ≤ s.2.1 ∧ s.2.1 + (s.2.2.2.2.2.length : Int) = k ∧ s.2.2.1 = r2 ∧ 0 ≤ s.2.2.2.1 ∧ s.2.2.2.1 ≤ 2 ^ 62 ∧ s.2.2.2.2.1 = js ∧ ∀ i, i < s.2.2.2.2.2.length → GoodM js.length (s.2.2.2.2.2.getD i M0)) _ (fun s => s.2.1.toNat) ?_ _ ⟨rfl, d1, by simp, rfl, d3, d4, rfl, fun i hi => by simp at hi⟩
      rintro ⟨s1, s2, s3, s4, s5, ms⟩ hs
      simp only [] at hs
      obtain ⟨rfl, e1, e2, rfl, e3, e4, rfl, e5⟩ := hs
      simp only [armplanmake_robot.p1.step, armplanmake_robot.p1.round]
      by_cases h : s2 > 0
      · rw [dif_dec h]
        obtain ⟨v1, q1, h1, f1, f2, f3, f4⟩ := next_val (k := 1 + n) (l := s3) (by omega) (by omega) hl e3 e4
        obtain ⟨v2, q2, h2, g1, g2, g3, g4⟩ := next_val (k := 9000) (l := s3) (by omega) (by omega) hl f3 f4
        obtain ⟨v3, q3, h3, k1, k2, k3, k4⟩ := signed_val (k := 3) (l := s3) (by omega) (by omega) hl g3 g4
        obtain ⟨v4, q4, h4, m1, m2, m3, m4⟩ := signed_val (k := 2) (l := s3) (by omega) (by omega) hl k3 k4
        have hlen : ∀ x : MT, (ms ++ [x]).length = ms.length + 1 := fun x => by simp
        left
        simp only [h1, h2, h3, h4, Option.bind_some]
        rw [dif_dec (by simp only [List.length_cons, List.length_nil]; omega)]
        simp (disch := omega) only [dif_dec, dif_ndec, bif_eq, bif_neq, bif_ne, bif_nne, w64, wu64, Int.toNat_natCast, Option.bind_some, cond_true, cond_false, Bool.not_true, Bool.not_false, Sum.elim_inl, Sum.elim_inr]
        refine ⟨_, rfl, ⟨by trivial, by simp only []; omega, by simp only [hlen]; push_cast; omega, by trivial, m3, m4, by trivial, fun i hi => ?_⟩, by simp only []; omega⟩
        rcases getD_app (d := M0) hi with ⟨h1, h2⟩ | ⟨h1, h2⟩
        · rw [h2]
          exact e5 i h1
        · rw [h2]
          unfold GoodM
          simp only []
          refine ⟨⟨?_, ?_⟩, ⟨?_, ?_⟩, ⟨?_, ?_⟩, ?_, ?_, ?_⟩ <;> first | trivial | omega
      · rw [dif_ndec h]
        exact .inr ⟨_, rfl, rfl, e3, e4, rfl, by simp only []; omega, e5⟩
    · rintro ⟨t1, t2, js', ms⟩ ⟨rfl, g1, g2, rfl, g3, g4⟩
      simp only [] at *
      exact ⟨_, rfl, ⟨by simp only []; omega, by simp only []; omega, c6, by simp only []; omega, g4⟩, rfl, g1, g2⟩

end Go.Abs
