/- A part of the proof that the text with the row names: printed readings of functions, or plain lemmas about them. -/
import Derived.Test.YtceacicpjgffgaaC41GLProfileSafe
set_option linter.unusedVariables false
set_option linter.unusedSimpArgs false
namespace Go.Abs
open Go Go.Proofs

/-! ### armplan/armplanlaw41.ProfileSplits: function 11 -/
noncomputable def armplanlaw41_ProfileSplits.F0 (a0 : Int) (a1 : Int) (a2 : Int) (a3 : Int) (a4 : List (Int)) (a5 : List (Int)) (a6 : Int) (a7 : Int) : Option (Bool) :=
  (bif decide ((a4.length : Int) > (200 : Int)) then ((armplanlaw41_awake.F ()).bind fun r1 => some r1) else ((armplanmake_Limits.F a5).bind fun r2 => ((armplanmake_Round.F a6 (2147483648 : Int)).bind fun r3 => ((armplanmake_Round.F a7 (2147483648 : Int)).bind fun r4 => ((armplanlaw41_awake.F ()).bind fun r5 => (bif r5 then ((armplanlaw41_splits.F a0 a1 a2 a3).bind fun r6 => (bif r6 then ((armplanlaw41_splits.F a0 (IntKind.wrap .i64 (r3 - (1073741824 : Int))) (IntKind.wrap .i64 (r4 - (1073741824 : Int))) (a3.tmod (2305843009213693952 : Int))).bind fun r7 => (bif r7 then ((armplanlaw41_splits.F (3 : Int) (a1.tmod (5 : Int)) (a2.tmod (5 : Int)) (a3.tmod (100 : Int))).bind fun r8 => (bif r8 then ((profile_Phases.F a4).bind fun r9 => ((armplanref40_Phases.F a4).bind fun r10 => ((armplanmake_Same_Phase.F r9 r10).bind fun r11 => (bif r11 then ((profile_Phases.F r2.1).bind fun r12 => ((armplanref40_Phases.F r2.1).bind fun r13 => ((armplanmake_Same_Phase.F r12 r13).bind fun r14 => some r14))) else some false)))) else some false)) else some false)) else some false)) else some false))))))
noncomputable def armplanlaw41_ProfileSplits.F : Int → Int → Int → Int → (List (Int)) → (List (Int)) → Int → Int → Option (Bool) := lock armplanlaw41_ProfileSplits.F0
theorem armplanlaw41_ProfileSplits.F_eq : armplanlaw41_ProfileSplits.F = armplanlaw41_ProfileSplits.F0 := lock_eq _
noncomputable def armplanlaw41_ProfileSplits.p : Proc := { nargs := 5, inS := ⟨[(0, .ag [.sc (.int .i64), .sc (.int .i64), .sc (.int .i64), .sc (.int .i64)]), (1, .lf (.dat (.int .i64))), (2, .lf (.dat (.int .i64))), (3, .lf (.sc (.int .i64))), (4, .lf (.sc (.int .i64)))], []⟩, outS := ⟨[(0, .lf (.sc .bool))], []⟩, n0 := 0, R := Bool, F := fun x => armplanlaw41_ProfileSplits.F x.1.1.1 x.1.1.2.1 x.1.1.2.2.1 x.1.1.2.2.2.1 x.1.2.1 x.1.2.2.1 x.1.2.2.2.1 x.1.2.2.2.2.1, post := fun r => ((r, ()), ()), un := fun x => x.1.1 }
noncomputable def armplanlaw41_ProfileSplits.E : Env := { P := Try.prog, ty := tyTab [], glob := glob0, proc := procTab [(14, armplanlaw41_awake.p), (15, armplanmake_Limits.p), (22, armplanmake_Round.p), (32, armplanlaw41_splits.p), (24, profile_Phases.p), (34, armplanref40_Phases.p), (33, armplanmake_Same_Phase.p)], lproc := lprocTab [], n0 := 0, ntmps := 71 }
theorem armplanlaw41_ProfileSplits.ok : ProcsOk armplanlaw41_ProfileSplits.E := AllSound.ok (l := [(14, armplanlaw41_awake.p), (15, armplanmake_Limits.p), (22, armplanmake_Round.p), (32, armplanlaw41_splits.p), (24, profile_Phases.p), (34, armplanref40_Phases.p), (33, armplanmake_Same_Phase.p)]) (by kernel_rfl) rfl ⟨armplanlaw41_awake.sound, armplanmake_Limits.sound, armplanmake_Round.sound, armplanlaw41_splits.sound, profile_Phases.sound, armplanref40_Phases.sound, armplanmake_Same_Phase.sound, trivial⟩
noncomputable def armplanlaw41_ProfileSplits.body0 : Code := (match Try.f11.body with | some c => c | none => .skip)
noncomputable def armplanlaw41_ProfileSplits.ann : Ann := .z
set_option maxRecDepth 100000 in
theorem armplanlaw41_ProfileSplits.eq (x : Tup armplanlaw41_ProfileSplits.p.inS) : peFn armplanlaw41_ProfileSplits.E Try.f11 armplanlaw41_ProfileSplits.ann armplanlaw41_ProfileSplits.p x = armplanlaw41_ProfileSplits.p.F x := by
  have h : peFn armplanlaw41_ProfileSplits.E Try.f11 armplanlaw41_ProfileSplits.ann armplanlaw41_ProfileSplits.p x = armplanlaw41_ProfileSplits.F0 x.1.1.1 x.1.1.2.1 x.1.1.2.2.1 x.1.1.2.2.2.1 x.1.2.1 x.1.2.2.1 x.1.2.2.2.1 x.1.2.2.2.2.1 := by kernel_rfl
  exact h.trans (by show _ = armplanlaw41_ProfileSplits.F x.1.1.1 x.1.1.2.1 x.1.1.2.2.1 x.1.1.2.2.2.1 x.1.2.1 x.1.2.2.1 x.1.2.2.2.1 x.1.2.2.2.2.1; rw [armplanlaw41_ProfileSplits.F_eq])
set_option maxRecDepth 100000 in
theorem armplanlaw41_ProfileSplits.sound : ProcSound Try.prog glob0 11 armplanlaw41_ProfileSplits.p :=
  fn_sound (E := armplanlaw41_ProfileSplits.E) (c := armplanlaw41_ProfileSplits.body0) (ann := armplanlaw41_ProfileSplits.ann) armplanlaw41_ProfileSplits.ok Try.func11 (of_decide_eq_true (by kernel_rfl)) rfl rfl rfl (by decide +kernel) ((SubsOk_z _ _) : SubsOk armplanlaw41_ProfileSplits.E armplanlaw41_ProfileSplits.body0 armplanlaw41_ProfileSplits.ann) (fun _ => rfl) rfl armplanlaw41_ProfileSplits.eq

end Go.Abs
