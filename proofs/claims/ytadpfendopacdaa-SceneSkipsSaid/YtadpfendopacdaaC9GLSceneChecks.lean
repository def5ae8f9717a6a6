/- A part of the proof that the text with the row names: printed readings of functions, or plain lemmas about them. -/
import Derived.Test.YtadpfendopacdaaC9Ga
set_option linter.unusedVariables false
set_option linter.unusedSimpArgs false
namespace Go.Abs
open Go Go.Proofs

/-! ### armplan/armplanlaw9.SceneChecks: function 3 -/
noncomputable def armplanlaw9_SceneChecks.F0 (a0 : List ((ByteArray × (Int × (Int × ((Int × (Int × Int)) × (Int × (Int × (Int × (Int × (Int × Int))))))))))) (a1 : List ((Int × (Int × (Int × (Int × Int)))))) (a2 : List ((Int × (Int × List ((Int × (Int × Int))))))) (a3 : List ((Int × Int))) (a4 : List (Int)) (a5 : Int) (a6 : Int) (a7 : Int) : Option (Bool) :=
  ((armplanmake_Scene.F a4).bind fun r1 => ((armplanlaw9_changed.F r1.1 r1.2.1 r1.2.2.1 r1.2.2.2 a5 a6 a7).bind fun r2 => ((armplanlaw9_awake.F ()).bind fun r3 => (bif r3 then ((scene_Check.F r1.1 r1.2.1 r1.2.2.1 r1.2.2.2).bind fun r4 => (bif (r4 == (0 : Int)) then ((scene_Check.F a0 a1 a2 a3).bind fun r5 => ((armplanref6_CheckScene.F a0 a1 a2 a3).bind fun r6 => (bif (r5 == r6) then ((scene_Check.F r2.1 r2.2.1 r2.2.2.1 r2.2.2.2).bind fun r7 => ((armplanref6_CheckScene.F r2.1 r2.2.1 r2.2.2.1 r2.2.2.2).bind fun r8 => some (r7 == r8))) else some false))) else some false)) else some false))))
noncomputable def armplanlaw9_SceneChecks.F : (List ((ByteArray × (Int × (Int × ((Int × (Int × Int)) × (Int × (Int × (Int × (Int × (Int × Int))))))))))) → (List ((Int × (Int × (Int × (Int × Int)))))) → (List ((Int × (Int × List ((Int × (Int × Int))))))) → (List ((Int × Int))) → (List (Int)) → Int → Int → Int → Option (Bool) := lock armplanlaw9_SceneChecks.F0
theorem armplanlaw9_SceneChecks.F_eq : armplanlaw9_SceneChecks.F = armplanlaw9_SceneChecks.F0 := lock_eq _
noncomputable def armplanlaw9_SceneChecks.p : Proc := { nargs := 5, inS := ⟨[(0, .ag [.dat (.pair .str (.pair (.int .i64) (.pair (.int .i64) (.pair (.pair (.int .i64) (.pair (.int .i64) (.int .i64))) (.pair (.int .i64) (.pair (.int .i64) (.pair (.int .i64) (.pair (.int .i64) (.pair (.int .i64) (.int .i64)))))))))), .dat (.pair (.int .i64) (.pair (.int .i64) (.pair (.int .i64) (.pair (.int .i64) (.int .i64))))), .dat (.pair (.int .i64) (.pair (.int .i64) (.slc (.pair (.int .i64) (.pair (.int .i64) (.int .i64)))))), .dat (.pair (.int .i64) (.int .i64))]), (1, .lf (.dat (.int .i64))), (2, .lf (.sc (.int .i64))), (3, .lf (.sc (.int .i64))), (4, .lf (.sc (.int .i64)))], []⟩, outS := ⟨[(0, .lf (.sc .bool))], []⟩, n0 := 0, R := Bool, F := fun x => armplanlaw9_SceneChecks.F x.1.1.1 x.1.1.2.1 x.1.1.2.2.1 x.1.1.2.2.2.1 x.1.2.1 x.1.2.2.1 x.1.2.2.2.1 x.1.2.2.2.2.1, post := fun r => ((r, ()), ()), un := fun x => x.1.1 }
noncomputable def armplanlaw9_SceneChecks.E : Env := { P := Try.prog, ty := tyTab [], glob := glob0, proc := procTab [(8, armplanmake_Scene.p), (9, armplanlaw9_changed.p), (10, armplanlaw9_awake.p), (11, scene_Check.p), (12, armplanref6_CheckScene.p)], lproc := lprocTab [], n0 := 0, ntmps := 40 }
theorem armplanlaw9_SceneChecks.ok : ProcsOk armplanlaw9_SceneChecks.E := AllSound.ok (l := [(8, armplanmake_Scene.p), (9, armplanlaw9_changed.p), (10, armplanlaw9_awake.p), (11, scene_Check.p), (12, armplanref6_CheckScene.p)]) (by kernel_rfl) rfl ⟨armplanmake_Scene.sound, armplanlaw9_changed.sound, armplanlaw9_awake.sound, scene_Check.sound, armplanref6_CheckScene.sound, trivial⟩
noncomputable def armplanlaw9_SceneChecks.body0 : Code := (match Try.f3.body with | some c => c | none => .skip)
noncomputable def armplanlaw9_SceneChecks.ann : Ann := .z
set_option maxRecDepth 100000 in
theorem armplanlaw9_SceneChecks.eq (x : Tup armplanlaw9_SceneChecks.p.inS) : peFn armplanlaw9_SceneChecks.E Try.f3 armplanlaw9_SceneChecks.ann armplanlaw9_SceneChecks.p x = armplanlaw9_SceneChecks.p.F x := by
  have h : peFn armplanlaw9_SceneChecks.E Try.f3 armplanlaw9_SceneChecks.ann armplanlaw9_SceneChecks.p x = armplanlaw9_SceneChecks.F0 x.1.1.1 x.1.1.2.1 x.1.1.2.2.1 x.1.1.2.2.2.1 x.1.2.1 x.1.2.2.1 x.1.2.2.2.1 x.1.2.2.2.2.1 := by kernel_rfl
  exact h.trans (by show _ = armplanlaw9_SceneChecks.F x.1.1.1 x.1.1.2.1 x.1.1.2.2.1 x.1.1.2.2.2.1 x.1.2.1 x.1.2.2.1 x.1.2.2.2.1 x.1.2.2.2.2.1; rw [armplanlaw9_SceneChecks.F_eq])
set_option maxRecDepth 100000 in
theorem armplanlaw9_SceneChecks.sound : ProcSound Try.prog glob0 3 armplanlaw9_SceneChecks.p :=
  fn_sound (E := armplanlaw9_SceneChecks.E) (c := armplanlaw9_SceneChecks.body0) (ann := armplanlaw9_SceneChecks.ann) armplanlaw9_SceneChecks.ok Try.func3 (of_decide_eq_true (by kernel_rfl)) rfl rfl rfl (by decide +kernel) ((SubsOk_z _ _) : SubsOk armplanlaw9_SceneChecks.E armplanlaw9_SceneChecks.body0 armplanlaw9_SceneChecks.ann) (fun _ => rfl) rfl armplanlaw9_SceneChecks.eq

end Go.Abs
