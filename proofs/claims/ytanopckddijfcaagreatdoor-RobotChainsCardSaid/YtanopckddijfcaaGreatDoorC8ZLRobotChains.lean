/- A part of the proof that the text with the row names: printed readings of functions, or plain lemmas about them. -/
import Derived.Test.YtanopckddijfcaaGreatDoorC8Zb
set_option linter.unusedVariables false
set_option linter.unusedSimpArgs false
namespace Go.Abs
open Go Go.Proofs

/-! ### armplan/armplanlaw8.RobotChains: function 4 -/
noncomputable def armplanlaw8_RobotChains.F0 (a0 : List ((ByteArray × (Int × (Int × ((Int × (Int × Int)) × (Int × (Int × (Int × (Int × (Int × Int))))))))))) (a1 : List ((Int × (Int × (Int × (Int × Int)))))) (a2 : ByteArray) (a3 : Int) (a4 : Int) (a5 : List (Int)) : Option (Bool) :=
  ((armplanmake_Robot.F a5).bind fun r1 => ((armplanmake_Round.F a3 (6 : Int)).bind fun r2 => ((armplanmake_Round.F a4 (6 : Int)).bind fun r3 => ((armplanlaw8_awake.F ()).bind fun r4 => (bif r4 then ((armplanlaw8_chains.F a0 a1 a2 a3 a4).bind fun r5 => (bif r5 then ((armplanlaw8_chains.F a0 a1 (⟨#[97]⟩ : ByteArray) (IntKind.wrap .i64 (r2 - (2 : Int))) (IntKind.wrap .i64 (r3 - (2 : Int)))).bind fun r6 => (bif r6 then ((armplanlaw8_chains.F r1.1 r1.2 (⟨#[98]⟩ : ByteArray) (IntKind.wrap .i64 (r2 - (2 : Int))) (IntKind.wrap .i64 (r3 - (2 : Int)))).bind fun r7 => (bif r7 then ((armplanlaw8_chains.F r1.1 r1.2 a2 a3 a4).bind fun r8 => some r8) else some false)) else some false)) else some false)) else some false)))))
noncomputable def armplanlaw8_RobotChains.F : (List ((ByteArray × (Int × (Int × ((Int × (Int × Int)) × (Int × (Int × (Int × (Int × (Int × Int))))))))))) → (List ((Int × (Int × (Int × (Int × Int)))))) → ByteArray → Int → Int → (List (Int)) → Option (Bool) := lock armplanlaw8_RobotChains.F0
theorem armplanlaw8_RobotChains.F_eq : armplanlaw8_RobotChains.F = armplanlaw8_RobotChains.F0 := lock_eq _
noncomputable def armplanlaw8_RobotChains.p : Proc := { nargs := 5, inS := ⟨[(0, .ag [.dat (.pair .str (.pair (.int .i64) (.pair (.int .i64) (.pair (.pair (.int .i64) (.pair (.int .i64) (.int .i64))) (.pair (.int .i64) (.pair (.int .i64) (.pair (.int .i64) (.pair (.int .i64) (.pair (.int .i64) (.int .i64)))))))))), .dat (.pair (.int .i64) (.pair (.int .i64) (.pair (.int .i64) (.pair (.int .i64) (.int .i64)))))]), (1, .lf (.sc .str)), (2, .lf (.sc (.int .i64))), (3, .lf (.sc (.int .i64))), (4, .lf (.dat (.int .i64)))], []⟩, outS := ⟨[(0, .lf (.sc .bool))], []⟩, n0 := 0, R := Bool, F := fun x => armplanlaw8_RobotChains.F x.1.1.1 x.1.1.2.1 x.1.2.1 x.1.2.2.1 x.1.2.2.2.1 x.1.2.2.2.2.1, post := fun r => ((r, ()), ()), un := fun x => x.1.1 }
noncomputable def armplanlaw8_RobotChains.E : Env := { P := Tryz.prog, ty := tyTab [], glob := glob0, proc := procTab [(11, armplanmake_Robot.p), (8, armplanmake_Round.p), (9, armplanlaw8_awake.p), (12, armplanlaw8_chains.p)], lproc := lprocTab [], n0 := 0, ntmps := 49 }
theorem armplanlaw8_RobotChains.ok : ProcsOk armplanlaw8_RobotChains.E := AllSound.ok (l := [(11, armplanmake_Robot.p), (8, armplanmake_Round.p), (9, armplanlaw8_awake.p), (12, armplanlaw8_chains.p)]) (by kernel_rfl) rfl ⟨armplanmake_Robot.sound, armplanmake_Round.sound, armplanlaw8_awake.sound, armplanlaw8_chains.sound, trivial⟩
noncomputable def armplanlaw8_RobotChains.body0 : Code := (match Tryz.f4.body with | some c => c | none => .skip)
noncomputable def armplanlaw8_RobotChains.ann : Ann := .z
set_option maxRecDepth 100000 in
theorem armplanlaw8_RobotChains.eq (x : Tup armplanlaw8_RobotChains.p.inS) : peFn armplanlaw8_RobotChains.E Tryz.f4 armplanlaw8_RobotChains.ann armplanlaw8_RobotChains.p x = armplanlaw8_RobotChains.p.F x := by
  have h : peFn armplanlaw8_RobotChains.E Tryz.f4 armplanlaw8_RobotChains.ann armplanlaw8_RobotChains.p x = armplanlaw8_RobotChains.F0 x.1.1.1 x.1.1.2.1 x.1.2.1 x.1.2.2.1 x.1.2.2.2.1 x.1.2.2.2.2.1 := by kernel_rfl
  exact h.trans (by show _ = armplanlaw8_RobotChains.F x.1.1.1 x.1.1.2.1 x.1.2.1 x.1.2.2.1 x.1.2.2.2.1 x.1.2.2.2.2.1; rw [armplanlaw8_RobotChains.F_eq])
set_option maxRecDepth 100000 in
theorem armplanlaw8_RobotChains.sound : ProcSound Tryz.prog glob0 4 armplanlaw8_RobotChains.p :=
  fn_sound (E := armplanlaw8_RobotChains.E) (c := armplanlaw8_RobotChains.body0) (ann := armplanlaw8_RobotChains.ann) armplanlaw8_RobotChains.ok Tryz.func4 (of_decide_eq_true (by kernel_rfl)) rfl rfl rfl (by decide +kernel) ((SubsOk_z _ _) : SubsOk armplanlaw8_RobotChains.E armplanlaw8_RobotChains.body0 armplanlaw8_RobotChains.ann) (fun _ => rfl) rfl armplanlaw8_RobotChains.eq

end Go.Abs
