/- A part of the proof that the text with the row names: printed readings of functions, or plain lemmas about them. -/
import Derived.Test.YtceacicpjgffgaaC41GLProfilePhases
set_option linter.unusedVariables false
set_option linter.unusedSimpArgs false
namespace Go.Abs
open Go Go.Proofs

/-! ### armplan/armplanlaw41.ProfileReplays: function 8 -/
noncomputable def armplanlaw41_ProfileReplays.F0 (a0 : List (Int)) (a1 : List ((Int × (Int × (Int × Int))))) (a2 : List (Int)) (a3 : List (Int)) (a4 : List (Int)) (a5 : List (Int)) (a6 : Int) (a7 : Int) (a8 : Int) : Option (Bool) :=
  ((armplanlaw41_few.F a0 a1 a2 a3).bind fun r1 => (bif (!r1) then ((armplanlaw41_awake.F ()).bind fun r2 => some r2) else ((armplanmake_Limits.F a4).bind fun r3 => ((armplanref40_Greatest.F r3.1 r3.2).bind fun r4 => ((armplanlaw41_altered.F r4.2.2 a6 a7 a8 (r3.2.length : Int)).bind fun r5 => ((armplanlaw41_awake.F ()).bind fun r6 => (bif r6 then ((armplanlaw41_replays.F a0 a1 a2 a3).bind fun r7 => (bif r7 then ((armplanlaw41_replays.F r3.1 r3.2 r4.2.1 r4.2.2).bind fun r8 => (bif r8 then ((armplanlaw41_replays.F r3.1 r3.2 r4.2.1 r5).bind fun r9 => (bif r9 then ((armplanlaw41_levels.F r3.1 a5).bind fun r10 => ((armplanlaw41_replays.F r3.1 r3.2 r10 r5).bind fun r11 => (bif r11 then ((armplanlaw41_replays.F r3.1 r3.2 a2 a3).bind fun r12 => some r12) else some false))) else some false)) else some false)) else some false)) else some false)))))))
noncomputable def armplanlaw41_ProfileReplays.F : (List (Int)) → (List ((Int × (Int × (Int × Int))))) → (List (Int)) → (List (Int)) → (List (Int)) → (List (Int)) → Int → Int → Int → Option (Bool) := lock armplanlaw41_ProfileReplays.F0
theorem armplanlaw41_ProfileReplays.F_eq : armplanlaw41_ProfileReplays.F = armplanlaw41_ProfileReplays.F0 := lock_eq _
noncomputable def armplanlaw41_ProfileReplays.p : Proc := { nargs := 9, inS := ⟨[(0, .lf (.dat (.int .i64))), (1, .lf (.dat (.pair (.int .i64) (.pair (.int .i64) (.pair (.int .i64) (.int .i64)))))), (2, .lf (.dat (.int .i64))), (3, .lf (.dat (.int .i64))), (4, .lf (.dat (.int .i64))), (5, .lf (.dat (.int .i64))), (6, .lf (.sc (.int .i64))), (7, .lf (.sc (.int .i64))), (8, .lf (.sc (.int .i64)))], []⟩, outS := ⟨[(0, .lf (.sc .bool))], []⟩, n0 := 0, R := Bool, F := fun x => armplanlaw41_ProfileReplays.F x.1.1 x.1.2.1 x.1.2.2.1 x.1.2.2.2.1 x.1.2.2.2.2.1 x.1.2.2.2.2.2.1 x.1.2.2.2.2.2.2.1 x.1.2.2.2.2.2.2.2.1 x.1.2.2.2.2.2.2.2.2.1, post := fun r => ((r, ()), ()), un := fun x => x.1.1 }
noncomputable def armplanlaw41_ProfileReplays.E : Env := { P := Try.prog, ty := tyTab [], glob := glob0, proc := procTab [(13, armplanlaw41_few.p), (14, armplanlaw41_awake.p), (15, armplanmake_Limits.p), (25, armplanref40_Greatest.p), (26, armplanlaw41_altered.p), (27, armplanlaw41_replays.p), (21, armplanlaw41_levels.p)], lproc := lprocTab [], n0 := 0, ntmps := 89 }
theorem armplanlaw41_ProfileReplays.ok : ProcsOk armplanlaw41_ProfileReplays.E := AllSound.ok (l := [(13, armplanlaw41_few.p), (14, armplanlaw41_awake.p), (15, armplanmake_Limits.p), (25, armplanref40_Greatest.p), (26, armplanlaw41_altered.p), (27, armplanlaw41_replays.p), (21, armplanlaw41_levels.p)]) (by kernel_rfl) rfl ⟨armplanlaw41_few.sound, armplanlaw41_awake.sound, armplanmake_Limits.sound, armplanref40_Greatest.sound, armplanlaw41_altered.sound, armplanlaw41_replays.sound, armplanlaw41_levels.sound, trivial⟩
noncomputable def armplanlaw41_ProfileReplays.body0 : Code := (match Try.f8.body with | some c => c | none => .skip)
noncomputable def armplanlaw41_ProfileReplays.ann : Ann := .z
set_option maxRecDepth 100000 in
theorem armplanlaw41_ProfileReplays.eq (x : Tup armplanlaw41_ProfileReplays.p.inS) : peFn armplanlaw41_ProfileReplays.E Try.f8 armplanlaw41_ProfileReplays.ann armplanlaw41_ProfileReplays.p x = armplanlaw41_ProfileReplays.p.F x := by
  have h : peFn armplanlaw41_ProfileReplays.E Try.f8 armplanlaw41_ProfileReplays.ann armplanlaw41_ProfileReplays.p x = armplanlaw41_ProfileReplays.F0 x.1.1 x.1.2.1 x.1.2.2.1 x.1.2.2.2.1 x.1.2.2.2.2.1 x.1.2.2.2.2.2.1 x.1.2.2.2.2.2.2.1 x.1.2.2.2.2.2.2.2.1 x.1.2.2.2.2.2.2.2.2.1 := by kernel_rfl
  exact h.trans (by show _ = armplanlaw41_ProfileReplays.F x.1.1 x.1.2.1 x.1.2.2.1 x.1.2.2.2.1 x.1.2.2.2.2.1 x.1.2.2.2.2.2.1 x.1.2.2.2.2.2.2.1 x.1.2.2.2.2.2.2.2.1 x.1.2.2.2.2.2.2.2.2.1; rw [armplanlaw41_ProfileReplays.F_eq])
set_option maxRecDepth 100000 in
theorem armplanlaw41_ProfileReplays.sound : ProcSound Try.prog glob0 8 armplanlaw41_ProfileReplays.p :=
  fn_sound (E := armplanlaw41_ProfileReplays.E) (c := armplanlaw41_ProfileReplays.body0) (ann := armplanlaw41_ProfileReplays.ann) armplanlaw41_ProfileReplays.ok Try.func8 (of_decide_eq_true (by kernel_rfl)) rfl rfl rfl (by decide +kernel) ((SubsOk_z _ _) : SubsOk armplanlaw41_ProfileReplays.E armplanlaw41_ProfileReplays.body0 armplanlaw41_ProfileReplays.ann) (fun _ => rfl) rfl armplanlaw41_ProfileReplays.eq

end Go.Abs
