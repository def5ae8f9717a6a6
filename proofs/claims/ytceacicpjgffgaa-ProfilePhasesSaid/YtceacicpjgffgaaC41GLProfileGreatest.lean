/- A part of the proof that the text with the row names: printed readings of functions, or plain lemmas about them. -/
import Derived.Test.YtceacicpjgffgaaC41Ga
set_option linter.unusedVariables false
set_option linter.unusedSimpArgs false
namespace Go.Abs
open Go Go.Proofs

/-! ### armplan/armplanlaw41.ProfileGreatest: function 3 -/
noncomputable def armplanlaw41_ProfileGreatest.F0 (a0 : List (Int)) (a1 : List ((Int × (Int × (Int × Int))))) (a2 : Int) (a3 : Int) (a4 : Int) (a5 : Int) (a6 : List (Int)) : Option (Bool) :=
  ((armplanlaw41_few.F a0 a1 ([] : List (Int)) ([] : List (Int))).bind fun r1 => (bif (!r1) then ((armplanlaw41_awake.F ()).bind fun r2 => some r2) else ((armplanmake_Limits.F a6).bind fun r3 => ((armplanlaw41_awake.F ()).bind fun r4 => (bif r4 then ((armplanlaw41_greatest.F a0 a1).bind fun r5 => (bif r5 then ((armplanlaw41_greatest.F r3.1 r3.2).bind fun r6 => (bif r6 then (bif decide (r3.2.length + ([(a2, (a3, (a4, a5)))] : List ((Int × (Int × (Int × Int))))).length < 4398046511104) then ((armplanlaw41_greatest.F r3.1 (r3.2 ++ ([(a2, (a3, (a4, a5)))] : List ((Int × (Int × (Int × Int))))))).bind fun r7 => (bif r7 then ((armplanlaw41_greatest.F r3.1 a1).bind fun r8 => some r8) else some false)) else none) else some false)) else some false)) else some false)))))
noncomputable def armplanlaw41_ProfileGreatest.F : (List (Int)) → (List ((Int × (Int × (Int × Int))))) → Int → Int → Int → Int → (List (Int)) → Option (Bool) := lock armplanlaw41_ProfileGreatest.F0
theorem armplanlaw41_ProfileGreatest.F_eq : armplanlaw41_ProfileGreatest.F = armplanlaw41_ProfileGreatest.F0 := lock_eq _
noncomputable def armplanlaw41_ProfileGreatest.p : Proc := { nargs := 4, inS := ⟨[(0, .lf (.dat (.int .i64))), (1, .lf (.dat (.pair (.int .i64) (.pair (.int .i64) (.pair (.int .i64) (.int .i64)))))), (2, .ag [.sc (.int .i64), .sc (.int .i64), .sc (.int .i64), .sc (.int .i64)]), (3, .lf (.dat (.int .i64)))], []⟩, outS := ⟨[(0, .lf (.sc .bool))], []⟩, n0 := 0, R := Bool, F := fun x => armplanlaw41_ProfileGreatest.F x.1.1 x.1.2.1 x.1.2.2.1.1 x.1.2.2.1.2.1 x.1.2.2.1.2.2.1 x.1.2.2.1.2.2.2.1 x.1.2.2.2.1, post := fun r => ((r, ()), ()), un := fun x => x.1.1 }
noncomputable def armplanlaw41_ProfileGreatest.E : Env := { P := Try.prog, ty := tyTab [(25, (.pair (.int .i64) (.pair (.int .i64) (.pair (.int .i64) (.int .i64)))))], glob := glob0, proc := procTab [(13, armplanlaw41_few.p), (14, armplanlaw41_awake.p), (15, armplanmake_Limits.p), (16, armplanlaw41_greatest.p)], lproc := lprocTab [], n0 := 0, ntmps := 45 }
theorem armplanlaw41_ProfileGreatest.ok : ProcsOk armplanlaw41_ProfileGreatest.E := AllSound.ok (l := [(13, armplanlaw41_few.p), (14, armplanlaw41_awake.p), (15, armplanmake_Limits.p), (16, armplanlaw41_greatest.p)]) (by kernel_rfl) rfl ⟨armplanlaw41_few.sound, armplanlaw41_awake.sound, armplanmake_Limits.sound, armplanlaw41_greatest.sound, trivial⟩
noncomputable def armplanlaw41_ProfileGreatest.body0 : Code := (match Try.f3.body with | some c => c | none => .skip)
noncomputable def armplanlaw41_ProfileGreatest.ann : Ann := .z
set_option maxRecDepth 100000 in
theorem armplanlaw41_ProfileGreatest.eq (x : Tup armplanlaw41_ProfileGreatest.p.inS) : peFn armplanlaw41_ProfileGreatest.E Try.f3 armplanlaw41_ProfileGreatest.ann armplanlaw41_ProfileGreatest.p x = armplanlaw41_ProfileGreatest.p.F x := by
  have h : peFn armplanlaw41_ProfileGreatest.E Try.f3 armplanlaw41_ProfileGreatest.ann armplanlaw41_ProfileGreatest.p x = armplanlaw41_ProfileGreatest.F0 x.1.1 x.1.2.1 x.1.2.2.1.1 x.1.2.2.1.2.1 x.1.2.2.1.2.2.1 x.1.2.2.1.2.2.2.1 x.1.2.2.2.1 := by kernel_rfl
  exact h.trans (by show _ = armplanlaw41_ProfileGreatest.F x.1.1 x.1.2.1 x.1.2.2.1.1 x.1.2.2.1.2.1 x.1.2.2.1.2.2.1 x.1.2.2.1.2.2.2.1 x.1.2.2.2.1; rw [armplanlaw41_ProfileGreatest.F_eq])
set_option maxRecDepth 100000 in
theorem armplanlaw41_ProfileGreatest.sound : ProcSound Try.prog glob0 3 armplanlaw41_ProfileGreatest.p :=
  fn_sound (E := armplanlaw41_ProfileGreatest.E) (c := armplanlaw41_ProfileGreatest.body0) (ann := armplanlaw41_ProfileGreatest.ann) armplanlaw41_ProfileGreatest.ok Try.func3 (of_decide_eq_true (by kernel_rfl)) rfl rfl rfl (by decide +kernel) ((SubsOk_z _ _) : SubsOk armplanlaw41_ProfileGreatest.E armplanlaw41_ProfileGreatest.body0 armplanlaw41_ProfileGreatest.ann) (fun _ => rfl) rfl armplanlaw41_ProfileGreatest.eq

end Go.Abs
