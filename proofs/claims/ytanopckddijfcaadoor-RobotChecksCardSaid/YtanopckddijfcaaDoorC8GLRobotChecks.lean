/- A part of the proof that the text with the row names: printed readings of functions, or plain lemmas about them. -/
import Derived.Test.YtanopckddijfcaaDoorC8Gb
set_option linter.unusedVariables false
set_option linter.unusedSimpArgs false
namespace Go.Abs
open Go Go.Proofs

/-! ### armplan/armplanlaw8.RobotChecks: function 3 -/
noncomputable def armplanlaw8_RobotChecks.F0 (a0 : List ((ByteArray × (Int × (Int × ((Int × (Int × Int)) × (Int × (Int × (Int × (Int × (Int × Int))))))))))) (a1 : List ((Int × (Int × (Int × (Int × Int)))))) (a2 : List (Int)) (a3 : Int) (a4 : Int) (a5 : Int) : Option (Bool) :=
  ((armplanmake_Robot.F a2).bind fun r1 => ((armplanlaw8_changed.F r1.1 r1.2 a3 a4 a5).bind fun r2 => ((armplanlaw8_awake.F ()).bind fun r3 => (bif r3 then ((robot_Check.F r1.1 r1.2).bind fun r4 => (bif (r4 == (0 : Int)) then ((robot_Check.F a0 a1).bind fun r5 => ((armplanref6_CheckRobot.F a0 a1).bind fun r6 => (bif (r5 == r6) then ((robot_Check.F r2.1 r2.2).bind fun r7 => ((armplanref6_CheckRobot.F r2.1 r2.2).bind fun r8 => some (r7 == r8))) else some false))) else some false)) else some false))))
noncomputable def armplanlaw8_RobotChecks.F : (List ((ByteArray × (Int × (Int × ((Int × (Int × Int)) × (Int × (Int × (Int × (Int × (Int × Int))))))))))) → (List ((Int × (Int × (Int × (Int × Int)))))) → (List (Int)) → Int → Int → Int → Option (Bool) := lock armplanlaw8_RobotChecks.F0
theorem armplanlaw8_RobotChecks.F_eq : armplanlaw8_RobotChecks.F = armplanlaw8_RobotChecks.F0 := lock_eq _
noncomputable def armplanlaw8_RobotChecks.p : Proc := { nargs := 5, inS := ⟨[(0, .ag [.dat (.pair .str (.pair (.int .i64) (.pair (.int .i64) (.pair (.pair (.int .i64) (.pair (.int .i64) (.int .i64))) (.pair (.int .i64) (.pair (.int .i64) (.pair (.int .i64) (.pair (.int .i64) (.pair (.int .i64) (.int .i64)))))))))), .dat (.pair (.int .i64) (.pair (.int .i64) (.pair (.int .i64) (.pair (.int .i64) (.int .i64)))))]), (1, .lf (.dat (.int .i64))), (2, .lf (.sc (.int .i64))), (3, .lf (.sc (.int .i64))), (4, .lf (.sc (.int .i64)))], []⟩, outS := ⟨[(0, .lf (.sc .bool))], []⟩, n0 := 0, R := Bool, F := fun x => armplanlaw8_RobotChecks.F x.1.1.1 x.1.1.2.1 x.1.2.1 x.1.2.2.1 x.1.2.2.2.1 x.1.2.2.2.2.1, post := fun r => ((r, ()), ()), un := fun x => x.1.1 }
noncomputable def armplanlaw8_RobotChecks.E : Env := { P := Tryd.prog, ty := tyTab [], glob := glob0, proc := procTab [(6, armplanmake_Robot.p), (7, armplanlaw8_changed.p), (8, armplanlaw8_awake.p), (9, robot_Check.p), (10, armplanref6_CheckRobot.p)], lproc := lprocTab [], n0 := 0, ntmps := 40 }
theorem armplanlaw8_RobotChecks.ok : ProcsOk armplanlaw8_RobotChecks.E := AllSound.ok (l := [(6, armplanmake_Robot.p), (7, armplanlaw8_changed.p), (8, armplanlaw8_awake.p), (9, robot_Check.p), (10, armplanref6_CheckRobot.p)]) (by kernel_rfl) rfl ⟨armplanmake_Robot.sound, armplanlaw8_changed.sound, armplanlaw8_awake.sound, robot_Check.sound, armplanref6_CheckRobot.sound, trivial⟩
noncomputable def armplanlaw8_RobotChecks.body0 : Code := (match Tryd.f3.body with | some c => c | none => .skip)
noncomputable def armplanlaw8_RobotChecks.ann : Ann := .z
set_option maxRecDepth 100000 in
theorem armplanlaw8_RobotChecks.eq (x : Tup armplanlaw8_RobotChecks.p.inS) : peFn armplanlaw8_RobotChecks.E Tryd.f3 armplanlaw8_RobotChecks.ann armplanlaw8_RobotChecks.p x = armplanlaw8_RobotChecks.p.F x := by
  have h : peFn armplanlaw8_RobotChecks.E Tryd.f3 armplanlaw8_RobotChecks.ann armplanlaw8_RobotChecks.p x = armplanlaw8_RobotChecks.F0 x.1.1.1 x.1.1.2.1 x.1.2.1 x.1.2.2.1 x.1.2.2.2.1 x.1.2.2.2.2.1 := by kernel_rfl
  exact h.trans (by show _ = armplanlaw8_RobotChecks.F x.1.1.1 x.1.1.2.1 x.1.2.1 x.1.2.2.1 x.1.2.2.2.1 x.1.2.2.2.2.1; rw [armplanlaw8_RobotChecks.F_eq])
set_option maxRecDepth 100000 in
theorem armplanlaw8_RobotChecks.sound : ProcSound Tryd.prog glob0 3 armplanlaw8_RobotChecks.p :=
  fn_sound (E := armplanlaw8_RobotChecks.E) (c := armplanlaw8_RobotChecks.body0) (ann := armplanlaw8_RobotChecks.ann) armplanlaw8_RobotChecks.ok Tryd.func3 (of_decide_eq_true (by kernel_rfl)) rfl rfl rfl (by decide +kernel) ((SubsOk_z _ _) : SubsOk armplanlaw8_RobotChecks.E armplanlaw8_RobotChecks.body0 armplanlaw8_RobotChecks.ann) (fun _ => rfl) rfl armplanlaw8_RobotChecks.eq

end Go.Abs
