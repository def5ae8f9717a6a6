/- A part of the proof that the text with the row names: printed readings of functions, or plain lemmas about them. -/
import Derived.Test.YtanopckddijfcaaGreatDoorC8Yb
set_option linter.unusedVariables false
set_option linter.unusedSimpArgs false
namespace Go.Abs
open Go Go.Proofs

/-! ### armplan/armplanlaw8.RobotRoundTrip: function 5 -/
noncomputable def armplanlaw8_RobotRoundTrip.F0 (a0 : List (Int)) (a1 : Int) (a2 : Int) (a3 : Int) : Option (Bool) :=
  ((armplanmake_Robot.F a0).bind fun r1 => ((armplanlaw8_changed.F r1.1 r1.2 a1 a2 a3).bind fun r2 => ((armplanref6_CheckRobot.F r2.1 r2.2).bind fun r3 => (bif (r3 == (0 : Int)) then ((robot_Write.F r2.1 r2.2).bind fun r4 => ((robot_Read.F r4).bind fun r5 => ((armplanlaw8_awake.F ()).bind fun r6 => (bif r6 then (bif ((r5.2.2.1 == (0 : Int)) && ((r5.2.2.2 == (0 : Int)) && true)) then ((armplanmake_SameRobot.F r2.1 r2.2 r5.1 r5.2.1).bind fun r7 => some r7) else some false) else some false)))) else ((robot_Write.F r1.1 r1.2).bind fun r8 => ((robot_Read.F r8).bind fun r9 => ((armplanlaw8_awake.F ()).bind fun r10 => (bif r10 then (bif ((r9.2.2.1 == (0 : Int)) && ((r9.2.2.2 == (0 : Int)) && true)) then ((armplanmake_SameRobot.F r1.1 r1.2 r9.1 r9.2.1).bind fun r11 => some r11) else some false) else some false))))))))
noncomputable def armplanlaw8_RobotRoundTrip.F : (List (Int)) → Int → Int → Int → Option (Bool) := lock armplanlaw8_RobotRoundTrip.F0
theorem armplanlaw8_RobotRoundTrip.F_eq : armplanlaw8_RobotRoundTrip.F = armplanlaw8_RobotRoundTrip.F0 := lock_eq _
noncomputable def armplanlaw8_RobotRoundTrip.p : Proc := { nargs := 4, inS := ⟨[(0, .lf (.dat (.int .i64))), (1, .lf (.sc (.int .i64))), (2, .lf (.sc (.int .i64))), (3, .lf (.sc (.int .i64)))], []⟩, outS := ⟨[(0, .lf (.sc .bool))], []⟩, n0 := 0, R := Bool, F := fun x => armplanlaw8_RobotRoundTrip.F x.1.1 x.1.2.1 x.1.2.2.1 x.1.2.2.2.1, post := fun r => ((r, ()), ()), un := fun x => x.1.1 }
noncomputable def armplanlaw8_RobotRoundTrip.E : Env := { P := Tryz.prog, ty := tyTab [], glob := glob0, proc := procTab [(11, armplanmake_Robot.p), (13, armplanlaw8_changed.p), (14, armplanref6_CheckRobot.p), (16, robot_Write.p), (15, robot_Read.p), (9, armplanlaw8_awake.p), (17, armplanmake_SameRobot.p)], lproc := lprocTab [], n0 := 0, ntmps := 41 }
theorem armplanlaw8_RobotRoundTrip.ok : ProcsOk armplanlaw8_RobotRoundTrip.E := AllSound.ok (l := [(11, armplanmake_Robot.p), (13, armplanlaw8_changed.p), (14, armplanref6_CheckRobot.p), (16, robot_Write.p), (15, robot_Read.p), (9, armplanlaw8_awake.p), (17, armplanmake_SameRobot.p)]) (by kernel_rfl) rfl ⟨armplanmake_Robot.sound, armplanlaw8_changed.sound, armplanref6_CheckRobot.sound, robot_Write.sound, robot_Read.sound, armplanlaw8_awake.sound, armplanmake_SameRobot.sound, trivial⟩
noncomputable def armplanlaw8_RobotRoundTrip.body0 : Code := (match Tryz.f5.body with | some c => c | none => .skip)
noncomputable def armplanlaw8_RobotRoundTrip.ann : Ann := .z
set_option maxRecDepth 100000 in
theorem armplanlaw8_RobotRoundTrip.eq (x : Tup armplanlaw8_RobotRoundTrip.p.inS) : peFn armplanlaw8_RobotRoundTrip.E Tryz.f5 armplanlaw8_RobotRoundTrip.ann armplanlaw8_RobotRoundTrip.p x = armplanlaw8_RobotRoundTrip.p.F x := by
  have h : peFn armplanlaw8_RobotRoundTrip.E Tryz.f5 armplanlaw8_RobotRoundTrip.ann armplanlaw8_RobotRoundTrip.p x = armplanlaw8_RobotRoundTrip.F0 x.1.1 x.1.2.1 x.1.2.2.1 x.1.2.2.2.1 := by kernel_rfl
  exact h.trans (by show _ = armplanlaw8_RobotRoundTrip.F x.1.1 x.1.2.1 x.1.2.2.1 x.1.2.2.2.1; rw [armplanlaw8_RobotRoundTrip.F_eq])
set_option maxRecDepth 100000 in
theorem armplanlaw8_RobotRoundTrip.sound : ProcSound Tryz.prog glob0 5 armplanlaw8_RobotRoundTrip.p :=
  fn_sound (E := armplanlaw8_RobotRoundTrip.E) (c := armplanlaw8_RobotRoundTrip.body0) (ann := armplanlaw8_RobotRoundTrip.ann) armplanlaw8_RobotRoundTrip.ok Tryz.func5 (of_decide_eq_true (by kernel_rfl)) rfl rfl rfl (by decide +kernel) ((SubsOk_z _ _) : SubsOk armplanlaw8_RobotRoundTrip.E armplanlaw8_RobotRoundTrip.body0 armplanlaw8_RobotRoundTrip.ann) (fun _ => rfl) rfl armplanlaw8_RobotRoundTrip.eq

end Go.Abs
