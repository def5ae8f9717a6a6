/- A part of the proof that the text with the row names: printed readings of functions, or plain lemmas about them. -/
import Derived.Test.YtanopckddijfcaaGreatDoorC8YLRobotRoundTrip
import Derived.Test.YtanopckddijfcaaGreatDoorC8YR3
import Derived.Test.YtanopckddijfcaaGreatDoorC8YM7
set_option linter.unusedVariables false
set_option linter.unusedSimpArgs false
namespace Go.Abs
open Go Go.Proofs
theorem from_val (l : List Int) : armplanmake_From.F l = some (l, 0) := by
  rw [armplanmake_From.F_eq]
  rfl
theorem mkRobot_val {l : List Int} (hl : l.length ≤ 2 ^ 60) : ∃ r, armplanmake_Robot.F l = some r ∧ GoodR r.1 r.2 := by
  rw [armplanmake_Robot.F_eq]
  unfold armplanmake_Robot.F0
  rw [from_val]
  simp only [Option.bind_some]
  obtain ⟨r, h1, h2, _⟩ := robot_val hl (p := 0) (by decide) (by decide)
  rw [h1]
  exact ⟨_, rfl, h2⟩
theorem take_snoc {α : Type} {l : List α} {d : α} {i : Nat} (h : i < l.length) : l.take i ++ [l.getD i d] = l.take (i + 1) := by
  rw [List.take_add_one, List.getElem?_eq_getElem h, List.getD_eq_getElem?_getD, List.getElem?_eq_getElem h]
  rfl
theorem read_js {js : List JT} {ms : List MT} (h : chkRobot js ms = 0) : ∀ (d i : Nat) (m : List (ByteArray × Int)), i + d = js.length → MInv js i m →
    ∃ m', MInv js js.length m' ∧ loopF robot_Read.p0.step (outM js ms ms.length, ((outM js ms ms.length).length : Int), ((2 * i : Nat) : Int), 0, 0, js.take i, [], m) = loopF robot_Read.p0.step (outM js ms ms.length, ((outM js ms ms.length).length : Int), ((2 * js.length : Nat) : Int), 0, 0, js, [], m')
  | 0, i, m, hid, hm => by
    obtain rfl : i = js.length := by omega
    exact ⟨m, hm, by rw [List.take_length]⟩
  | d + 1, i, m, hid, hm => by
    obtain ⟨h1, h2, h3, h4, h5⟩ := chkRobot_zero h
    have hi : i < js.length := by omega
    have hlen := outM_len js ms ms.length
    have hn := (h3 i hi).1
    have hF := (h3 i hi).2
    have hm2 := hm.next hn
    obtain ⟨m', hm', ih⟩ := read_js h d (i + 1) _ (by omega) hm2
    refine ⟨m', hm', ?_⟩
    have ha := outJ_at (js := js) (i := i) js.length hi
    have hg := hm2.get i (by omega)
    have s1 := read_step (l := outM js ms ms.length) (q := 2 * i) (A := js.take i) (B := []) (C := m) (by omega) (by omega) (by rw [outM_low (by omega)]; exact ha.1) (fun p => st_joint (read_joint hi h2 (fun k hk => (h3 k (by omega)).2) hn hm))
    have s2 := read_step (l := outM js ms ms.length) (q := 2 * i + 1) (A := js.take i ++ [half (js.getD i J0)]) (B := []) (C := setM (js.getD i J0).1 (i : Int) m) (by omega) (by omega) (by rw [outM_low (by omega)]; exact ha.2) (fun p => st_limit (read_limit (by rw [List.length_take]; omega) (by omega) hg hF.sp hF.ac hF.tq))
    rw [loop_next s1 rfl, loop_next s2 rfl, take_snoc hi, show 2 * i + 1 + 1 = 2 * (i + 1) by omega]
    exact ih
theorem read_ms {js : List JT} {ms : List MT} (h : chkRobot js ms = 0) {m : List (ByteArray × Int)} (hm : MInv js js.length m) : ∀ (d k : Nat), k + d = ms.length →
    loopF robot_Read.p0.step (outM js ms ms.length, ((outM js ms ms.length).length : Int), ((2 * js.length + k : Nat) : Int), 0, 0, js, ms.take k, m) = some (.inr (0, 0, js, ms, m))
  | 0, k, hid => by
    obtain rfl : k = ms.length := by omega
    have hlen := outM_len js ms ms.length
    refine loop_end ?_
    rw [List.take_length]
    unfold robot_Read.p0.step robot_Read.p0.round
    simp only []
    simp (disch := omega) only [dif_dec, dif_ndec, bif_eq, bif_neq, bif_ne, bif_nne, w64, wu64, Int.toNat_natCast, Option.bind_some, cond_true, cond_false, Bool.not_true, Bool.not_false, Sum.elim_inl, Sum.elim_inr]
  | d + 1, k, hid => by
    obtain ⟨h1, h2, h3, h4, h5⟩ := chkRobot_zero h
    have hk : k < ms.length := by omega
    have hlen := outM_len js ms ms.length
    have hc := h5 k hk
    have hlk := chkM_link hc
    have hg := hm.get (ms.getD k M0).1.toNat (by omega)
    rw [show (((ms.getD k M0).1.toNat : Nat) : Int) = (ms.getD k M0).1 by omega] at hg
    have s1 := read_step (l := outM js ms ms.length) (q := 2 * js.length + k) (A := js) (B := ms.take k) (C := m) (by omega) (by omega) (outM_at ms.length hk) (fun p => st_mass (read_mass h4 hg hc))
    rw [loop_next s1 rfl, take_snoc hk, show 2 * js.length + k + 1 = 2 * js.length + (k + 1) by omega]
    exact read_ms h hm d (k + 1) (by omega)
theorem read_back {js : List JT} {ms : List MT} (h : chkRobot js ms = 0) : robot_Read.F (outM js ms ms.length) = some (js, ms, 0, 0) := by
  obtain ⟨h1, h2, h3, h4, h5⟩ := chkRobot_zero h
  rw [robot_Read.F_eq]
  unfold robot_Read.F0
  obtain ⟨m', hm', hl⟩ := read_js h js.length 0 [] (by omega) ⟨fun k hk => by omega, fun s hs => by cases hs⟩
  rw [List.take_zero, show ((2 * 0 : Nat) : Int) = 0 from rfl] at hl
  have h2' := read_ms h hm' ms.length 0 (by omega)
  rw [List.take_zero, Nat.add_zero] at h2'
  rw [hl, h2']
  simp only [Option.bind_some, Sum.elim_inr]
  rw [robotCheck_val (by omega) (by omega), h]
  rfl
theorem names_small {js : List JT} (h : SmJ js) : ∀ j ∈ js, j.1.size ≤ 2 ^ 60 := fun j hj => by have := h.2 j hj; omega
theorem sameRobot_refl {js : List JT} {ms : List MT} (hj : js.length ≤ 2 ^ 60) (hm : ms.length ≤ 2 ^ 60) : armplanmake_SameRobot.F js ms js ms = some true := by
  rw [armplanmake_SameRobot.F_eq]
  unfold armplanmake_SameRobot.F0
  rw [same_Joint hj, same_Mass hm]
  rfl
theorem smJ_of {js : List JT} {ms : List MT} (h : chkRobot js ms = 0) : SmJ js := by
  obtain ⟨_, h10, h3, _⟩ := chkRobot_zero h
  refine ⟨by omega, fun j hj => ?_⟩
  obtain ⟨i, hi, e⟩ := List.getElem_of_mem hj
  have h1 := ((h3 i hi).2).nm
  have h2 : js.getD i J0 = j := by rw [List.getD_eq_getElem?_getD, List.getElem?_eq_getElem hi, e]; rfl
  rw [h2] at h1
  unfold nameB at h1
  rw [Bool.and_eq_true, Bool.and_eq_true] at h1
  have := of_decide_eq_true h1.2.1
  omega
theorem trip_true {l : List Int} (hl : l.length ≤ 2 ^ 60) (a b c : Int) : armplanlaw8_RobotRoundTrip.F l a b c = some true := by
  rw [armplanlaw8_RobotRoundTrip.F_eq]
  unfold armplanlaw8_RobotRoundTrip.F0
  obtain ⟨⟨js, ms⟩, hR, hG⟩ := mkRobot_val hl
  simp only [] at hG
  have hc := chkRobot_good hG
  have hz := chkRobot_zero hc
  obtain ⟨⟨js', ms'⟩, hr, e1, e3⟩ := changed_val (js := js) (ms := ms) (a := a) (b := b) (c := c) hz.1 hz.2.1 (smJ_of hc) hz.2.2.2.1
  simp only [] at e1 e3
  have e0 := e1.1
  have l1 := hz.2.1
  have l2 := hz.2.2.2.1
  rw [hR]
  simp only [Option.bind_some]
  rw [hr]
  simp only [Option.bind_some]
  rw [rrobotCheck_val (js := js') (ms := ms') (by omega) (by omega) (names_small e1)]
  simp only [Option.bind_some]
  by_cases hx : chkRobot js' ms' = 0
  · rw [hx, write_val hx]
    simp only [Option.bind_some, beq_self_eq_true, cond_true]
    rw [read_back hx]
    simp only [Option.bind_some]
    rw [awake8_val, sameRobot_refl (by omega) (by omega)]
    rfl
  · rw [beq_false_of_ne hx, write_val hc]
    simp only [Option.bind_some, cond_false]
    rw [read_back hc]
    simp only [Option.bind_some]
    rw [awake8_val, sameRobot_refl (by omega) (by omega)]
    rfl
theorem roundTrip_good (x : ArgT [.lf (.slc (.int .i64)), .lf (.int .i64), .lf (.int .i64), .lf (.int .i64)]) (g : GoodAll [.lf (.slc (.int .i64)), .lf (.int .i64), .lf (.int .i64), .lf (.int .i64)] x) : armplanlaw8_RobotRoundTrip.F x.1 x.2.1 x.2.2.1 x.2.2.2.1 = some true := by
  obtain ⟨⟨g1, _⟩, _⟩ := g
  simp only [minB, reachBytes] at g1
  exact trip_true (by omega) _ _ _
end Go.Abs
