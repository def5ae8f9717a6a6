/- A part of the proof that the text with the row names: printed readings of functions, or plain lemmas about them. -/
import Derived.Test.YtomabhiochmojaaC35M0
import Derived.Test.YtomabhiochmojaaC35M2
set_option linter.unusedVariables false
set_option linter.unusedSimpArgs false
namespace Go.Abs
open Go

def abcB : ByteArray := ⟨#[97, 98, 99, 100, 101, 102, 103, 104, 105, 106]⟩
def letterB (i : Nat) : ByteArray := abcB.extract i (i + 1)
theorem letter_val {i : Nat} (h : i < 10) : mk_letter.F (i : Int) = some (letterB i) := by
  rw [mk_letter.F_eq]
  unfold mk_letter.F0
  have hs : ((⟨#[97, 98, 99, 100, 101, 102, 103, 104, 105, 106]⟩ : ByteArray).size : Int) = 10 := rfl
  rw [hs, w64 (by omega) (by omega)]
  simp (disch := omega) only [dif_dec, dif_ndec, bif_eq, bif_neq, bif_ne, bif_nne, w64, wu64, Int.toNat_natCast, Option.bind_some, cond_true, cond_false, Bool.not_true, Bool.not_false, Sum.elim_inl, Sum.elim_inr]
  rfl
def JPost (i : Nat) (l : List Int) (r : ByteArray × Int × Int × Int × Int × Int × Int × Int × Int × Int × Int × Int × List Int × Int) : Prop :=
  r.1 = letterB i ∧ (0 ≤ r.2.1 ∧ r.2.1 ≤ 5) ∧ (r.2.2.1 = (i : Int) - 1 ∨ r.2.2.1 = -1) ∧ (0 ≤ r.2.2.2.1 ∧ r.2.2.2.1 ≤ 131072) ∧ (-65536 ≤ r.2.2.2.2.1 ∧ r.2.2.2.2.1 ≤ 65536) ∧ (-65536 ≤ r.2.2.2.2.2.1 ∧ r.2.2.2.2.2.1 ≤ 65536) ∧
  (r.2.2.2.2.2.2.1 ≤ r.2.2.2.2.2.2.2.1 ∧ -reachV r.2.1 ≤ r.2.2.2.2.2.2.1 ∧ r.2.2.2.2.2.2.2.1 ≤ reachV r.2.1) ∧ (1 ≤ r.2.2.2.2.2.2.2.2.1 ∧ r.2.2.2.2.2.2.2.2.1 ≤ 4) ∧ r.2.2.2.2.2.2.2.2.2.1 = 65536 ∧ (65536 ≤ r.2.2.2.2.2.2.2.2.2.2.1 ∧ r.2.2.2.2.2.2.2.2.2.2.1 ≤ 65538) ∧ r.2.2.2.2.2.2.2.2.2.2.2.1 = 327680 ∧
  r.2.2.2.2.2.2.2.2.2.2.2.2.1 = l ∧ 0 ≤ r.2.2.2.2.2.2.2.2.2.2.2.2.2 ∧ r.2.2.2.2.2.2.2.2.2.2.2.2.2 ≤ 2 ^ 62
theorem kinds8 : ∀ n : Nat, n < 8 → 0 ≤ (([3, 3, 1, 2, 4, 5, 3, 0] : List Int).getD n 0) ∧ (([3, 3, 1, 2, 4, 5, 3, 0] : List Int).getD n 0) ≤ 5 := by decide
theorem reach_turn {k : Int} (h0 : 0 ≤ k) (h5 : k ≤ 5) (n0 : k ≠ 0) (n4 : k ≠ 4) (n5 : k ≠ 5) : reachV k = 524288 := by
  have : k = 1 ∨ k = 2 ∨ k = 3 := by omega
  rcases this with rfl | rfl | rfl <;> rfl
theorem tdiv8 {x : Int} (h : -1000000 ≤ x) (h' : x ≤ 1000000) : -125000 ≤ x.tdiv 8 ∧ x.tdiv 8 ≤ 125000 ∧ (0 ≤ x → x.tdiv 8 = x / 8) ∧ (x ≤ 0 → x.tdiv 8 ≤ 0 ∧ x / 8 ≤ x.tdiv 8) := by
  rcases Int.lt_or_le x 0 with h0 | h0
  · have e : x.tdiv 8 = -((-x) / 8) := by
      have := Int.neg_tdiv x 8
      have h2 := Int.tdiv_eq_ediv_of_nonneg (a := -x) (b := 8) (by omega)
      omega
    omega
  · have := Int.tdiv_eq_ediv_of_nonneg (b := 8) h0
    omega
theorem joint_val {i : Nat} {l : List Int} {p : Int} (hi : i < 10) (hl : l.length ≤ 2 ^ 60) (hp : 0 ≤ p) (hp' : p ≤ 2 ^ 62) : ∃ r, mk_joint.F (i : Int) l p = some r ∧ JPost i l r := by
  rw [mk_joint.F_eq]
  unfold mk_joint.F0
  rw [letter_val hi, Option.bind_some]
  refine next_bind (by omega) (by omega) hl hp hp' fun we q1 a1 a2 a3 a4 => ?_
  simp only []
  refine next_bind (by omega) (by omega) hl a3 a4 fun ac q2 b1 b2 b3 b4 => ?_
  simp only []
  refine next_bind (by omega) (by omega) hl b3 b4 fun kd q3 c1 c2 c3 c4 => ?_
  simp only []
  simp (disch := omega) only [dif_dec, dif_ndec, bif_eq, bif_neq, bif_ne, bif_nne, w64, wu64, Int.toNat_natCast, Option.bind_some, cond_true, cond_false, Bool.not_true, Bool.not_false, Sum.elim_inl, Sum.elim_inr]
  obtain ⟨k0, k5⟩ := kinds8 kd.toNat (by omega)
  generalize ([3, 3, 1, 2, 4, 5, 3, 0] : List Int).getD kd.toNat 0 = k at *
  refine next_bind (by omega) (by omega) hl c3 c4 fun pr q4 d1 d2 d3 d4 => ?_
  simp only []
  -- the limits, whatever stands before
  have tail : ∀ (pa x y z q : Int), (pa = (i : Int) - 1 ∨ pa = -1) → (0 ≤ x ∧ x ≤ 131072) → (-65536 ≤ y ∧ y ≤ 65536) → (-65536 ≤ z ∧ z ≤ 65536) → 0 ≤ q → q ≤ 2 ^ 62 →
      ∃ r, (bif k == 0 then some (letterB i, k, pa, x, y, z, (0 : Int), (0 : Int), 1 + we, (65536 : Int), 65536 + ac, (327680 : Int), l, q) else bif k == 4 then
        (mk_Source_Next.F 3 l q).bind fun r8 => (mk_Source_Next.F 4 r8.2.1 r8.2.2).bind fun r9 => some (letterB i, k, pa, x, y, z, IntKind.wrap .i64 (IntKind.wrap .i64 (0 - r8.1) * 65536), IntKind.wrap .i64 (r9.1 * 32768), 1 + we, (65536 : Int), 65536 + ac, (327680 : Int), r9.2.1, r9.2.2)
        else bif k == 5 then
        (mk_Source_Next.F 3 l q).bind fun r8 => (mk_Source_Next.F 4 r8.2.1 r8.2.2).bind fun r9 => some (letterB i, k, pa, x, y, z, IntKind.wrap .i64 (IntKind.wrap .i64 (0 - r8.1) * 65536), IntKind.wrap .i64 (r9.1 * 32768), 1 + we, (65536 : Int), 65536 + ac, (327680 : Int), r9.2.1, r9.2.2)
        else (mk_Source_Next.F 5 l q).bind fun r12 => (mk_Source_Next.F 4 r12.2.1 r12.2.2).bind fun r13 => (mk_Source_Next.F 3 r13.2.1 r13.2.2).bind fun r14 => some (letterB i, k, pa, x, y, z, IntKind.wrap .i64 ((IntKind.wrap .i64 (IntKind.wrap .i64 (0 - r12.1) * 65536)).tdiv 8), IntKind.wrap .i64 (IntKind.wrap .i64 ((IntKind.wrap .i64 (IntKind.wrap .i64 (1 + r13.1) * 65536)).tdiv 8) + r14.1), 1 + we, (65536 : Int), 65536 + ac, (327680 : Int), r14.2.1, r14.2.2)) = some r ∧ JPost i l r := by
    intro pa x y z q hpa hx hy hz hq hq'
    have slide : reachV k = 4194304 → ∃ r, ((mk_Source_Next.F 3 l q).bind fun r8 => (mk_Source_Next.F 4 r8.2.1 r8.2.2).bind fun r9 => some (letterB i, k, pa, x, y, z, IntKind.wrap .i64 (IntKind.wrap .i64 (0 - r8.1) * 65536), IntKind.wrap .i64 (r9.1 * 32768), 1 + we, (65536 : Int), 65536 + ac, (327680 : Int), r9.2.1, r9.2.2)) = some r ∧ JPost i l r := by
      intro hr
      refine next_bind (by omega) (by omega) hl hq hq' fun v p e1 e2 e3 e4 => ?_
      simp only []
      refine next_bind (by omega) (by omega) hl e3 e4 fun v' p' f1 f2 f3 f4 => ⟨_, rfl, ?_⟩
      unfold JPost
      simp (disch := omega) only [dif_dec, dif_ndec, bif_eq, bif_neq, bif_ne, bif_nne, w64, wu64, Int.toNat_natCast, Option.bind_some, cond_true, cond_false, Bool.not_true, Bool.not_false, Sum.elim_inl, Sum.elim_inr, hr]
      refine ⟨by trivial, ⟨k0, k5⟩, hpa, hx, hy, hz, ?_, ?_, by trivial, ?_, by trivial, by trivial, f3, f4⟩ <;> omega
    by_cases h0 : k = 0
    · rw [bif_eq h0]
      refine ⟨_, rfl, rfl, ⟨k0, k5⟩, hpa, hx, hy, hz, ?_, ?_, rfl, ?_, rfl, rfl, hq, hq'⟩
      · have := reachV_range k; simp only []; omega
      · simp only []; omega
      · simp only []; omega
    · rw [bif_neq h0]
      by_cases h4 : k = 4
      · rw [bif_eq h4]
        exact slide (by rw [h4]; rfl)
      · rw [bif_neq h4]
        by_cases h5 : k = 5
        · rw [bif_eq h5]
          exact slide (by rw [h5]; rfl)
        · rw [bif_neq h5]
          have hr := reach_turn k0 k5 h0 h4 h5
          refine next_bind (by omega) (by omega) hl hq hq' fun v p e1 e2 e3 e4 => ?_
          simp only []
          refine next_bind (by omega) (by omega) hl e3 e4 fun v' p' f1 f2 f3 f4 => ?_
          simp only []
          refine next_bind (by omega) (by omega) hl f3 f4 fun v'' p'' g1 g2 g3 g4 => ⟨_, rfl, ?_⟩
          have t1 := tdiv8 (x := (0 - v) * 65536) (by omega) (by omega)
          have t2 := tdiv8 (x := (1 + v') * 65536) (by omega) (by omega)
          unfold JPost
          simp (disch := omega) only [dif_dec, dif_ndec, bif_eq, bif_neq, bif_ne, bif_nne, w64, wu64, Int.toNat_natCast, Option.bind_some, cond_true, cond_false, Bool.not_true, Bool.not_false, Sum.elim_inl, Sum.elim_inr, hr]
          refine ⟨by trivial, ⟨k0, k5⟩, hpa, hx, hy, hz, ?_, ?_, by trivial, ?_, by trivial, by trivial, g3, g4⟩ <;> omega
  have wr : ∀ v : Int, -2 ≤ v → v ≤ 2 → -65536 ≤ IntKind.wrap .i64 (v * 32768) ∧ IntKind.wrap .i64 (v * 32768) ≤ 65536 := fun v h1 h2 => by
    rw [w64 (by omega) (by omega)]; omega
  by_cases h1 : pr = 1
  · rw [bif_eq h1]
    by_cases h0 : (i : Int) > 0
    · rw [dif_dec h0]
      refine signed_bind (by omega) (by omega) hl d3 d4 fun v p e1 e2 e3 e4 => ?_
      simp only []
      refine signed_bind (by omega) (by omega) hl e3 e4 fun v' p' f1 f2 f3 f4 => ?_
      exact tail (-1) 131072 _ _ _ (.inr rfl) (by omega) (wr v (by omega) (by omega)) (wr v' (by omega) (by omega)) f3 f4
    · rw [dif_ndec h0]
      exact tail (-1) 0 0 0 _ (.inr rfl) (by omega) (by omega) (by omega) d3 d4
  · rw [bif_neq h1]
    by_cases h0 : (i : Int) > 0
    · rw [dif_dec h0]
      refine signed_bind (by omega) (by omega) hl d3 d4 fun v p e1 e2 e3 e4 => ?_
      simp only []
      refine signed_bind (by omega) (by omega) hl e3 e4 fun v' p' f1 f2 f3 f4 => ?_
      exact tail ((i : Int) - 1) 131072 _ _ _ (.inl rfl) (by omega) (wr v (by omega) (by omega)) (wr v' (by omega) (by omega)) f3 f4
    · rw [dif_ndec h0]
      exact tail ((i : Int) - 1) 0 0 0 _ (.inl rfl) (by omega) (by omega) (by omega) d3 d4
/-- A joint as it is made. -/
def GoodJ (i : Nat) (j : JT) : Prop :=
  j.1 = letterB i ∧ (0 ≤ j.2.1 ∧ j.2.1 ≤ 5) ∧ (j.2.2.1 = (i : Int) - 1 ∨ j.2.2.1 = -1) ∧ (0 ≤ j.2.2.2.1.1 ∧ j.2.2.2.1.1 ≤ 131072) ∧ (-65536 ≤ j.2.2.2.1.2.1 ∧ j.2.2.2.1.2.1 ≤ 65536) ∧ (-65536 ≤ j.2.2.2.1.2.2 ∧ j.2.2.2.1.2.2 ≤ 65536) ∧
  (j.2.2.2.2.1 ≤ j.2.2.2.2.2.1 ∧ -reachV j.2.1 ≤ j.2.2.2.2.1 ∧ j.2.2.2.2.2.1 ≤ reachV j.2.1) ∧ (1 ≤ j.2.2.2.2.2.2.1 ∧ j.2.2.2.2.2.2.1 ≤ 4) ∧ j.2.2.2.2.2.2.2.1 = 65536 ∧ (65536 ≤ j.2.2.2.2.2.2.2.2.1 ∧ j.2.2.2.2.2.2.2.2.1 ≤ 65538) ∧ j.2.2.2.2.2.2.2.2.2 = 327680
def GoodM (n : Int) (m : MT) : Prop := (0 ≤ m.1 ∧ m.1 < n) ∧ (1 ≤ m.2.1 ∧ m.2.1 ≤ 9000) ∧ (-98304 ≤ m.2.2.1 ∧ m.2.2.1 ≤ 98304) ∧ m.2.2.2.1 = 0 ∧ (-65536 ≤ m.2.2.2.2 ∧ m.2.2.2.2 ≤ 65536)
/-- A robot as it is made. -/
def GoodR (js : List JT) (ms : List MT) : Prop := 1 ≤ js.length ∧ js.length ≤ 3 ∧ (∀ i, i < js.length → GoodJ i (js.getD i J0)) ∧ ms.length ≤ 2 ∧ ∀ i, i < ms.length → GoodM js.length (ms.getD i M0)
theorem getD_app {α : Type} {l : List α} {x d : α} {i : Nat} (h : i < (l ++ [x]).length) : (i < l.length ∧ (l ++ [x]).getD i d = l.getD i d) ∨ (i = l.length ∧ (l ++ [x]).getD i d = x) := by
  simp only [List.length_append, List.length_cons, List.length_nil] at h
  rcases Nat.lt_or_ge i l.length with h1 | h1
  · left
    refine ⟨h1, ?_⟩
    rw [List.getD_eq_getElem?_getD, List.getElem?_append_left h1, ← List.getD_eq_getElem?_getD]
  · right
    have : i = l.length := by omega
    refine ⟨this, ?_⟩
    subst this
    rw [List.getD_eq_getElem?_getD, List.getElem?_append_right (Nat.le_refl _)]
    simp
theorem robot_val {l : List Int} {p : Int} (hl : l.length ≤ 2 ^ 60) (hp : 0 ≤ p) (hp' : p ≤ 2 ^ 62) : ∃ r, mk_robot.F l p = some r ∧ (GoodR r.1 r.2.1 ∧ r.2.2.1 = l ∧ 0 ≤ r.2.2.2 ∧ r.2.2.2 ≤ 2 ^ 62) := by
  rw [mk_robot.F_eq]
  unfold mk_robot.F0
  refine next_bind (by omega) (by omega) hl hp hp' fun n p1 a1 a2 a3 a4 => ?_
  simp only []
  rw [w64 (by omega) (by omega)]
  refine some_bind (P := fun r => r.1 = 1 + n ∧ r.2.1 = l ∧ 0 ≤ r.2.2.1 ∧ r.2.2.1 ≤ 2 ^ 62 ∧ (r.2.2.2.length : Int) = 1 + n ∧ ∀ i, i < r.2.2.2.length → GoodJ i (r.2.2.2.getD i J0)) ?_ ?_
  · refine loop_rule (step := mk_robot.p0.step) (fun s => s.1 = 1 + n ∧ s.2.1 = (s.2.2.2.2.length : Int) ∧ s.2.2.1 = l ∧ 0 ≤ s.2.2.2.1 ∧ s.2.2.2.1 ≤ 2 ^ 62 ∧ (s.2.2.2.2.length : Int) ≤ 1 + n ∧ ∀ i, i < s.2.2.2.2.length → GoodJ i (s.2.2.2.2.getD i J0)) _ (fun s => (1 + n - s.2.1).toNat) ?_ _ ⟨rfl, rfl, rfl, a3, a4, by simp only [List.length_nil]; omega, fun i hi => by simp at hi⟩
    rintro ⟨s1, s2, s3, s4, js⟩ hs
    simp only [] at hs
    obtain ⟨rfl, rfl, rfl, b3, b4, b5, b6⟩ := hs
    simp only [mk_robot.p0.step, mk_robot.p0.round]
    by_cases h : (js.length : Int) < 1 + n
    · rw [dif_dec h]
      obtain ⟨r, hr, j1, j2, j3, j4, j5, j6, j7, j8, j9, j10, j11, j12, j13, j14⟩ := joint_val (i := js.length) (p := s4) (by omega) hl b3 b4
      rw [hr]
      simp only [Option.bind_some]
      have hlen : ∀ x : JT, (js ++ [x]).length = js.length + 1 := fun x => by simp
      left
      rw [dif_dec (by simp only [List.length_cons, List.length_nil]; omega), w64 (by omega) (by omega)]
      refine ⟨_, rfl, ⟨rfl, by rw [hlen]; push_cast; rfl, j12, j13, j14, by rw [hlen]; push_cast; omega, fun i hi => ?_⟩, ?_⟩
      · rcases getD_app (d := J0) hi with ⟨h1, h2⟩ | ⟨h1, h2⟩
        · simp only []
          rw [h2]
          exact b6 i h1
        · simp only []
          rw [h2, h1]
          exact ⟨j1, j2, j3, j4, j5, j6, j7, j8, j9, j10, j11⟩
      · simp only []; omega
    · rw [dif_ndec h]
      exact .inr ⟨_, rfl, rfl, rfl, b3, b4, by simp only []; omega, b6⟩
  · rintro ⟨r1, r2, r3, js⟩ ⟨rfl, rfl, c3, c4, c5, c6⟩
    simp only [] at *
    refine next_bind (by omega) (by omega) hl c3 c4 fun k p2 d1 d2 d3 d4 => ?_
    simp only []
    refine some_bind (P := fun r => r.1 = r2 ∧ 0 ≤ r.2.1 ∧ r.2.1 ≤ 2 ^ 62 ∧ r.2.2.1 = js ∧ (r.2.2.2.length : Int) = k ∧ ∀ i, i < r.2.2.2.length → GoodM js.length (r.2.2.2.getD i M0)) ?_ ?_
    · refine loop_rule (step := mk_robot.p1.step) (fun s => s.1 = 1 + n ∧ 0 ≤ s.2.1 ∧ s.2.1 + (s.2.2.2.2.2.length : Int) = k ∧ s.2.2.1 = r2 ∧ 0 ≤ s.2.2.2.1 ∧ s.2.2.2.1 ≤ 2 ^ 62 ∧ s.2.2.2.2.1 = js ∧ ∀ i, i < s.2.2.2.2.2.length → GoodM js.length (s.2.2.2.2.2.getD i M0)) _ (fun s => s.2.1.toNat) ?_ _ ⟨rfl, d1, by simp, rfl, d3, d4, rfl, fun i hi => by simp at hi⟩
      rintro ⟨s1, s2, s3, s4, s5, ms⟩ hs
      simp only [] at hs
      obtain ⟨rfl, e1, e2, rfl, e3, e4, rfl, e5⟩ := hs
      simp only [mk_robot.p1.step, mk_robot.p1.round]
      by_cases h : s2 > 0
      · rw [dif_dec h]
        obtain ⟨v1, q1, h1, f1, f2, f3, f4⟩ := next_val (k := 1 + n) (l := s3) (by omega) (by omega) hl e3 e4
        obtain ⟨v2, q2, h2, g1, g2, g3, g4⟩ := next_val (k := 9000) (l := s3) (by omega) (by omega) hl f3 f4
        obtain ⟨v3, q3, h3, k1, k2, k3, k4⟩ := signed_val (k := 3) (l := s3) (by omega) (by omega) hl g3 g4
        obtain ⟨v4, q4, h4, m1, m2, m3, m4⟩ := signed_val (k := 2) (l := s3) (by omega) (by omega) hl k3 k4
        have hlen : ∀ x : MT, (ms ++ [x]).length = ms.length + 1 := fun x => by simp
        left
        simp only [h1, h2, h3, h4, Option.bind_some]
        rw [dif_dec (by simp only [List.length_cons, List.length_nil]; omega)]
        simp (disch := omega) only [dif_dec, dif_ndec, bif_eq, bif_neq, bif_ne, bif_nne, w64, wu64, Int.toNat_natCast, Option.bind_some, cond_true, cond_false, Bool.not_true, Bool.not_false, Sum.elim_inl, Sum.elim_inr]
        refine ⟨_, rfl, ⟨by trivial, by simp only []; omega, by simp only [hlen]; push_cast; omega, by trivial, m3, m4, by trivial, fun i hi => ?_⟩, by simp only []; omega⟩
        rcases getD_app (d := M0) hi with ⟨h1, h2⟩ | ⟨h1, h2⟩
        · rw [h2]
          exact e5 i h1
        · rw [h2]
          unfold GoodM
          simp only []
          refine ⟨⟨?_, ?_⟩, ⟨?_, ?_⟩, ⟨?_, ?_⟩, ?_, ?_, ?_⟩ <;> first | trivial | omega
      · rw [dif_ndec h]
        exact .inr ⟨_, rfl, rfl, e3, e4, rfl, by simp only []; omega, e5⟩
    · rintro ⟨t1, t2, js', ms⟩ ⟨rfl, g1, g2, rfl, g3, g4⟩
      simp only [] at *
      exact ⟨_, rfl, ⟨by simp only []; omega, by simp only []; omega, c6, by simp only []; omega, g4⟩, rfl, g1, g2⟩
def GoodP (v : PT) : Prop := (-500000 ≤ v.1 ∧ v.1 ≤ 500000) ∧ (-500000 ≤ v.2.1 ∧ v.2.1 ≤ 500000) ∧ (-500000 ≤ v.2.2 ∧ v.2.2 ≤ 500000)
abbrev P0 : PT := (0, (0, 0))
theorem points_val {x y z : Int} {l : List Int} {p : Int} (hx : -294912 ≤ x ∧ x ≤ 294912) (hy : -294912 ≤ y ∧ y ≤ 294912) (hz : -294912 ≤ z ∧ z ≤ 294912) (hl : l.length ≤ 2 ^ 60) (hp : 0 ≤ p) (hp' : p ≤ 2 ^ 62) :
    ∃ r, mk_points.F x y z l p = some r ∧ (r.1 = l ∧ 0 ≤ r.2.1 ∧ r.2.1 ≤ 2 ^ 62 ∧ 1 ≤ r.2.2.length ∧ r.2.2.length ≤ 4 ∧ ∀ i, i < r.2.2.length → GoodP (r.2.2.getD i P0)) := by
  rw [mk_points.F_eq]
  unfold mk_points.F0
  refine next_bind (by omega) (by omega) hl hp hp' fun n p1 a1 a2 a3 a4 => ?_
  simp only []
  refine some_bind (P := fun r => r.1 = l ∧ 0 ≤ r.2.1 ∧ r.2.1 ≤ 2 ^ 62 ∧ 1 ≤ r.2.2.length ∧ r.2.2.length ≤ 4 ∧ ∀ i, i < r.2.2.length → GoodP (r.2.2.getD i P0)) ?_ (fun r h => ⟨_, rfl, h⟩)
  refine loop_rule (step := mk_points.p0.step) (fun s => 0 ≤ s.1 ∧ s.1 + (s.2.2.2.2.2.2.length : Int) = 1 + n ∧ s.2.1 = l ∧ 0 ≤ s.2.2.1 ∧ s.2.2.1 ≤ 2 ^ 62 ∧ s.2.2.2.1 = x ∧ s.2.2.2.2.1 = y ∧ s.2.2.2.2.2.1 = z ∧ 1 ≤ s.2.2.2.2.2.2.length ∧ ∀ i, i < s.2.2.2.2.2.2.length → GoodP (s.2.2.2.2.2.2.getD i P0)) _ (fun s => s.1.toNat) ?_ _ ⟨a1, by simp only [List.length_cons, List.length_nil]; omega, rfl, a3, a4, rfl, rfl, rfl, by simp, fun i hi => by
    have : i = 0 := by simpa using hi
    subst this
    simp only [List.getD_cons_zero]
    unfold GoodP
    simp only []
    omega⟩
  rintro ⟨s1, s2, s3, s4, s5, s6, ps⟩ hs
  simp only [] at hs
  obtain ⟨b1, b2, rfl, b3, b4, rfl, rfl, rfl, b5, b6⟩ := hs
  simp only [mk_points.p0.step, mk_points.p0.round]
  by_cases h : s1 > 0
  · rw [dif_dec h]
    obtain ⟨v1, q1, h1, f1, f2, f3, f4⟩ := signed_val (k := 3) (l := s2) (by omega) (by omega) hl b3 b4
    obtain ⟨v2, q2, h2, g1, g2, g3, g4⟩ := signed_val (k := 2) (l := s2) (by omega) (by omega) hl f3 f4
    obtain ⟨v3, q3, h3, k1, k2, k3, k4⟩ := signed_val (k := 2) (l := s2) (by omega) (by omega) hl g3 g4
    have hlen : ∀ x : PT, (ps ++ [x]).length = ps.length + 1 := fun x => by simp
    left
    simp only [h1, h2, h3, Option.bind_some]
    rw [dif_dec (by simp only [List.length_cons, List.length_nil]; omega)]
    simp (disch := omega) only [dif_dec, dif_ndec, bif_eq, bif_neq, bif_ne, bif_nne, w64, wu64, Int.toNat_natCast, Option.bind_some, cond_true, cond_false, Bool.not_true, Bool.not_false, Sum.elim_inl, Sum.elim_inr]
    refine ⟨_, rfl, ⟨by simp only []; omega, by simp only [hlen]; push_cast; omega, by trivial, k3, k4, by trivial, by trivial, by trivial, by simp only [hlen]; omega, fun i hi => ?_⟩, by simp only []; omega⟩
    rcases getD_app (d := P0) hi with ⟨h1, h2⟩ | ⟨h1, h2⟩
    · rw [h2]
      exact b6 i h1
    · rw [h2]
      unfold GoodP
      simp only []
      omega
  · rw [dif_ndec h]
    exact .inr ⟨_, rfl, rfl, b3, b4, b5, by simp only []; omega, b6⟩
def GoodS (n : Int) (x : ShT) : Prop := (-1 ≤ x.1 ∧ x.1 < n) ∧ (1 ≤ x.2.1 ∧ x.2.1 ≤ 32768) ∧ (1 ≤ x.2.2.length ∧ x.2.2.length ≤ 4) ∧ ∀ i, i < x.2.2.length → GoodP (x.2.2.getD i P0)
def GoodK (n : Int) (x : SkT) : Prop := x.1 = -1 ∧ 0 ≤ x.2 ∧ x.2 < n
/-- A scene as it is made. -/
structure GoodScene (js : List JT) (ms : List MT) (sh : List ShT) (sk : List SkT) : Prop where
  r : GoodR js ms
  s1 : 1 ≤ sh.length
  s2 : sh.length ≤ 6
  s : ∀ i, i < sh.length → GoodS js.length (sh.getD i Sh0)
  k1 : sk.length ≤ 1
  k : ∀ i, i < sk.length → GoodK js.length (sk.getD i (0, 0))
theorem scene_val {l : List Int} (hl : l.length ≤ 2 ^ 60) : ∃ r, mk_Scene.F l = some r ∧ GoodScene r.1 r.2.1 r.2.2.1 r.2.2.2 := by
  rw [mk_Scene.F_eq]
  unfold mk_Scene.F0
  rw [mk_From.F_eq]
  unfold mk_From.F0
  rw [Option.bind_some]
  refine some_bind (robot_val hl (p := 0) (by omega) (by omega)) ?_
  rintro ⟨js, ms, l', p⟩ ⟨hR, rfl, p1, p2⟩
  simp only [] at *
  have hj1 := hR.1
  have hj3 := hR.2.1
  refine some_bind (P := fun r => r.1 = l' ∧ 0 ≤ r.2.1 ∧ r.2.1 ≤ 2 ^ 62 ∧ r.2.2.1 = js ∧ r.2.2.2.1 = ms ∧ r.2.2.2.2.length ≤ 3 ∧ ∀ i, i < r.2.2.2.2.length → GoodS js.length (r.2.2.2.2.getD i Sh0)) ?_ ?_
  · have H := loop_rule (step := mk_Scene.p0.step) (fun s => 0 ≤ s.1 ∧ s.1 ≤ (js.length : Int) ∧ (s.2.2.2.2.2.length : Int) ≤ s.1 ∧ s.2.1 = l' ∧ 0 ≤ s.2.2.1 ∧ s.2.2.1 ≤ 2 ^ 62 ∧ s.2.2.2.1 = js ∧ s.2.2.2.2.1 = ms ∧ ∀ i, i < s.2.2.2.2.2.length → GoodS js.length (s.2.2.2.2.2.getD i Sh0))
      (fun r => r.1 = l' ∧ 0 ≤ r.2.1 ∧ r.2.1 ≤ 2 ^ 62 ∧ r.2.2.1 = js ∧ r.2.2.2.1 = ms ∧ r.2.2.2.2.length ≤ 3 ∧ ∀ i, i < r.2.2.2.2.length → GoodS js.length (r.2.2.2.2.getD i Sh0)) (fun s => (js.length - s.1.toNat)) (by
      rintro ⟨s1, s2, s3, js', ms', sh⟩ hs
      simp only [] at hs
      obtain ⟨b1, b2, b3, rfl, b4, b5, rfl, rfl, b6⟩ := hs
      simp only [mk_Scene.p0.step, mk_Scene.p0.round]
      by_cases h : s1 < (js'.length : Int)
      · rw [dif_dec h]
        obtain ⟨v1, q1, h1, f1, f2, f3, f4⟩ := next_val (k := 5) (l := s2) (by omega) (by omega) hl b4 b5
        simp only [h1, Option.bind_some]
        left
        by_cases h4 : v1 < 4
        · rw [dif_dec h4]
          obtain ⟨v2, q2, h2, g1, g2, g3, g4⟩ := next_val (k := 3) (l := s2) (by omega) (by omega) hl f3 f4
          obtain ⟨v3, q3, h3, k1, k2, k3, k4⟩ := next_val (k := 4) (l := s2) (by omega) (by omega) hl g3 g4
          simp only [h2, h3, Option.bind_some]
          rw [w64 (n := v3 * 32768) (by omega) (by omega)]
          obtain ⟨⟨r1, r2, ps⟩, h5, m1, m2, m3, m4, m5, m6⟩ := points_val (x := v3 * 32768) (y := 0) (z := 0) (l := s2) (p := q3) (by omega) (by omega) (by omega) hl k3 k4
          have t1 := tdiv8 (x := (1 + v2) * 65536) (by omega) (by omega)
          have hlen : ∀ x : ShT, (sh ++ [x]).length = sh.length + 1 := fun x => by simp
          simp only [h5, Option.bind_some] at *
          rw [dif_dec (by simp only [List.length_cons, List.length_nil]; omega)]
          simp (disch := omega) only [dif_dec, dif_ndec, bif_eq, bif_neq, bif_ne, bif_nne, w64, wu64, Int.toNat_natCast, Option.bind_some, cond_true, cond_false, Bool.not_true, Bool.not_false, Sum.elim_inl, Sum.elim_inr]
          refine ⟨_, rfl, ⟨by simp only []; omega, by simp only []; omega, by simp only [hlen]; push_cast; omega, m1, m2, m3, by trivial, by trivial, fun i hi => ?_⟩, by simp only []; omega⟩
          rcases getD_app (d := Sh0) hi with ⟨h1, h2⟩ | ⟨h1, h2⟩
          · rw [h2]
            exact b6 i h1
          · rw [h2]
            refine ⟨⟨by simp only []; omega, by simp only []; omega⟩, ⟨by simp only []; omega, by simp only []; omega⟩, ⟨m4, m5⟩, m6⟩
        · rw [dif_ndec h4]
          simp (disch := omega) only [dif_dec, dif_ndec, bif_eq, bif_neq, bif_ne, bif_nne, w64, wu64, Int.toNat_natCast, Option.bind_some, cond_true, cond_false, Bool.not_true, Bool.not_false, Sum.elim_inl, Sum.elim_inr]
          exact ⟨_, rfl, ⟨by simp only []; omega, by simp only []; omega, by simp only []; omega, by trivial, f3, f4, by trivial, by trivial, b6⟩, by simp only []; omega⟩
      · rw [dif_ndec h]
        exact .inr ⟨_, rfl, rfl, b4, b5, rfl, rfl, by simp only []; omega, b6⟩) (0, l', p, js, ms, []) ⟨by simp, by simp only []; omega, by simp, rfl, p1, p2, rfl, rfl, fun i hi => by simp at hi⟩
    exact H
  · rintro ⟨r1, r2, js', ms', sh⟩ ⟨rfl, c1, c2, rfl, rfl, c3, c4⟩
    simp only [] at *
    refine next_bind (by omega) (by omega) hl c1 c2 fun n q1 d1 d2 d3 d4 => ?_
    simp only []
    rw [w64 (by omega) (by omega)]
    refine some_bind (P := fun r => r.1 = r1 ∧ 0 ≤ r.2.1 ∧ r.2.1 ≤ 2 ^ 62 ∧ r.2.2.1 = js' ∧ r.2.2.2.1 = ms' ∧ r.2.2.2.2.length ≤ 6 ∧ 1 ≤ r.2.2.2.2.length ∧ ∀ i, i < r.2.2.2.2.length → GoodS js'.length (r.2.2.2.2.getD i Sh0)) ?_ ?_
    · refine loop_rule (step := mk_Scene.p1.step) (fun s => 0 ≤ s.1 ∧ s.1 + (s.2.2.2.2.2.length : Int) = 1 + n + sh.length ∧ s.2.1 = r1 ∧ 0 ≤ s.2.2.1 ∧ s.2.2.1 ≤ 2 ^ 62 ∧ s.2.2.2.1 = js' ∧ s.2.2.2.2.1 = ms' ∧ ∀ i, i < s.2.2.2.2.2.length → GoodS js'.length (s.2.2.2.2.2.getD i Sh0)) _ (fun s => s.1.toNat) ?_ _ ⟨by simp only []; omega, by simp only [], rfl, d3, d4, rfl, rfl, c4⟩
      rintro ⟨s1, s2, s3, js2, ms2, sh2⟩ hs
      simp only [] at hs
      obtain ⟨b1, b2, rfl, b4, b5, rfl, rfl, b6⟩ := hs
      simp only [mk_Scene.p1.step, mk_Scene.p1.round]
      by_cases h : s1 > 0
      · rw [dif_dec h]
        obtain ⟨v1, q1, h1, f1, f2, f3, f4⟩ := signed_val (k := 9) (l := s2) (by omega) (by omega) hl b4 b5
        obtain ⟨v2, q2, h2, g1, g2, g3, g4⟩ := signed_val (k := 9) (l := s2) (by omega) (by omega) hl f3 f4
        obtain ⟨v3, q3, h3, k1, k2, k3, k4⟩ := signed_val (k := 2) (l := s2) (by omega) (by omega) hl g3 g4
        obtain ⟨v4, q4, h4, n1, n2, n3, n4⟩ := next_val (k := 4) (l := s2) (by omega) (by omega) hl k3 k4
        simp only [h1, h2, h3, h4, Option.bind_some]
        left
        rw [w64 (n := v1 * 32768) (by omega) (by omega), w64 (n := v2 * 32768) (by omega) (by omega), w64 (n := v3 * 32768) (by omega) (by omega)]
        obtain ⟨⟨r1, r2, ps⟩, h5, m1, m2, m3, m4, m5, m6⟩ := points_val (x := v1 * 32768) (y := v2 * 32768) (z := v3 * 32768) (l := s2) (p := q4) (by omega) (by omega) (by omega) hl n3 n4
        have t1 := tdiv8 (x := (1 + v4) * 65536) (by omega) (by omega)
        have hlen : ∀ x : ShT, (sh2 ++ [x]).length = sh2.length + 1 := fun x => by simp
        simp only [h5, Option.bind_some] at *
        rw [dif_dec (by simp only [List.length_cons, List.length_nil]; omega)]
        simp (disch := omega) only [dif_dec, dif_ndec, bif_eq, bif_neq, bif_ne, bif_nne, w64, wu64, Int.toNat_natCast, Option.bind_some, cond_true, cond_false, Bool.not_true, Bool.not_false, Sum.elim_inl, Sum.elim_inr]
        refine ⟨_, rfl, ⟨by simp only []; omega, by simp only [hlen]; push_cast; omega, m1, m2, m3, by trivial, by trivial, fun i hi => ?_⟩, by simp only []; omega⟩
        rcases getD_app (d := Sh0) hi with ⟨h1, h2⟩ | ⟨h1, h2⟩
        · rw [h2]
          exact b6 i h1
        · rw [h2]
          refine ⟨⟨by simp only []; omega, by simp only []; omega⟩, ⟨by simp only []; omega, by simp only []; omega⟩, ⟨m4, m5⟩, m6⟩
      · rw [dif_ndec h]
        exact .inr ⟨_, rfl, rfl, b4, b5, rfl, rfl, by simp only []; omega, by simp only []; omega, b6⟩
    · rintro ⟨t1, t2, js2, ms2, sh2⟩ ⟨rfl, e1, e2, rfl, rfl, e3, e4, e5⟩
      simp only [] at *
      refine next_bind (by omega) (by omega) hl e1 e2 fun v q2 f1 f2 f3 f4 => ?_
      simp only []
      by_cases h1 : v = 1
      · rw [bif_eq h1]
        refine next_bind (by omega) (by omega) hl f3 f4 fun v' q3 g1 g2 g3 g4 => ?_
        simp only [List.length_cons, List.length_nil]
        simp (disch := omega) only [dif_dec, dif_ndec, bif_eq, bif_neq, bif_ne, bif_nne, w64, wu64, Int.toNat_natCast, Option.bind_some, cond_true, cond_false, Bool.not_true, Bool.not_false, Sum.elim_inl, Sum.elim_inr]
        refine ⟨_, rfl, hR, e4, e3, e5, by simp, fun i hi => ?_⟩
        have : i = 0 := by simpa using hi
        subst this
        exact ⟨rfl, g1, g2⟩
      · rw [bif_neq h1]
        exact ⟨_, rfl, hR, e4, e3, e5, by simp, fun i hi => by simp at hi⟩
end Go.Abs
