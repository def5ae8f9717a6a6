/- A part of the proof that the text with the row names: printed readings of functions, or plain lemmas about them. -/
import Derived.Test.YtanopckddijfcaaDoorC8GLRobotChecks
import Derived.Test.YtanopckddijfcaaDoorC8M7
set_option linter.unusedVariables false
set_option linter.unusedSimpArgs false
namespace Go.Abs
open Go Go.Proofs
theorem from_val (l : List Int) : armplanmake_From.F l = some (l, 0) := by
  rw [armplanmake_From.F_eq]
  rfl
theorem mkRobot_val {l : List Int} (hl : l.length ≤ 2 ^ 60) : ∃ r, armplanmake_Robot.F l = some r ∧ GoodR r.1 r.2 := by
  rw [armplanmake_Robot.F_eq]
  unfold armplanmake_Robot.F0
  rw [from_val]
  simp only [Option.bind_some]
  obtain ⟨r, h1, h2, _⟩ := robot_val hl (p := 0) (by decide) (by decide)
  rw [h1]
  exact ⟨_, rfl, h2⟩
theorem smJ_of {js : List JT} {ms : List MT} (h : chkRobot js ms = 0) : SmJ js := by
  obtain ⟨_, h10, h3, _⟩ := chkRobot_zero h
  refine ⟨by omega, fun j hj => ?_⟩
  obtain ⟨i, hi, e⟩ := List.getElem_of_mem hj
  have h1 := ((h3 i hi).2).nm
  have h2 : js.getD i J0 = j := by rw [List.getD_eq_getElem?_getD, List.getElem?_eq_getElem hi, e]; rfl
  rw [h2] at h1
  unfold nameB at h1
  rw [Bool.and_eq_true, Bool.and_eq_true] at h1
  have := of_decide_eq_true h1.2.1
  omega
theorem checks_true {js0 : List JT} {ms0 : List MT} (a1 : js0.length ≤ 2 ^ 60) (a2 : ms0.length ≤ 2 ^ 60) (a5 : ∀ j ∈ js0, j.1.size ≤ 2 ^ 60) {l : List Int} (hl : l.length ≤ 2 ^ 60) (a b c : Int) : armplanlaw8_RobotChecks.F js0 ms0 l a b c = some true := by
  rw [armplanlaw8_RobotChecks.F_eq]
  unfold armplanlaw8_RobotChecks.F0
  obtain ⟨⟨js, ms⟩, hR, hG⟩ := mkRobot_val hl
  simp only [] at hG
  have hc := chkRobot_good hG
  have hz := chkRobot_zero hc
  obtain ⟨⟨js', ms'⟩, hr, ⟨e1, e2⟩, e3⟩ := changed_val (js := js) (ms := ms) (a := a) (b := b) (c := c) hz.1 hz.2.1 (smJ_of hc) hz.2.2.2.1
  simp only [] at e1 e2 e3
  have l1 := hz.2.1
  have l2 := hz.2.2.2.1
  rw [hR]
  simp only [Option.bind_some]
  rw [hr]
  simp only [Option.bind_some]
  rw [awake8_val, robotCheck_val (js := js) (ms := ms) (by omega) (by omega), hc, robotCheck_val a1 a2, rrobotCheck_val a1 a2 a5, robotCheck_val (js := js') (ms := ms') (by omega) (by omega), rrobotCheck_val (js := js') (ms := ms') (by omega) (by omega) (fun j hj => by have := e2 j hj; omega)]
  simp only [Option.bind_some, beq_self_eq_true, cond_true]
abbrev checksAk : List AK := [.ag (.pair (.slc (.pair .str (.pair (.int .i64) (.pair (.int .i64) (.pair (.pair (.int .i64) (.pair (.int .i64) (.int .i64))) (.pair (.int .i64) (.pair (.int .i64) (.pair (.int .i64) (.pair (.int .i64) (.pair (.int .i64) (.int .i64))))))))))) (.slc (.pair (.int .i64) (.pair (.int .i64) (.pair (.int .i64) (.pair (.int .i64) (.int .i64))))))), .lf (.slc (.int .i64)), .lf (.int .i64), .lf (.int .i64), .lf (.int .i64)]
theorem checks_good (x : ArgT checksAk) (g : GoodAll checksAk x) : armplanlaw8_RobotChecks.F x.1.1 x.1.2 x.2.1 x.2.2.1 x.2.2.2.1 x.2.2.2.2.1 = some true := by
  obtain ⟨⟨⟨g1, g2⟩, g3, _⟩, ⟨g6, _⟩, _⟩ := g
  simp only [minB, reachBytes] at g1 g3 g6
  refine checks_true (by omega) (by omega) (fun j hj => ?_) (by omega) _ _ _
  have : j.1.size ≤ reachBytes := (g2 j hj).1
  simp only [reachBytes] at this
  omega
end Go.Abs
