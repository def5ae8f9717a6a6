/- A part of the proof that the text with the row names: printed readings of functions, or plain lemmas about them. -/
import Derived.Test.YtceacicpjgffgaaC41GLProfileReplays
set_option linter.unusedVariables false
set_option linter.unusedSimpArgs false
namespace Go.Abs
open Go Go.Proofs

/-! ### armplan/armplanlaw41.ProfileCertified: function 9 -/
noncomputable def armplanlaw41_ProfileCertified.F0 (a0 : List (Int)) (a1 : List (Int)) (a2 : Int) (a3 : Int) (a4 : Int) : Option (Bool) :=
  ((armplanmake_Limits.F a0).bind fun r1 => ((profile_Greatest.F r1.1 r1.2).bind fun r2 => (bif (!r2.1) then ((armplanlaw41_awake.F ()).bind fun r3 => (bif r3 then ((profile_Refutes.F r1.1 r1.2 r2.2.2).bind fun r4 => (bif r4 then ((armplanlaw41_lowered.F r1.1 r1.2 a1).bind fun r5 => ((armplanlaw41_altered.F r2.2.2 a2 a3 a4 (r1.2.length : Int)).bind fun r6 => ((profile_Proves.F r1.1 r1.2 r5 r6).bind fun r7 => some (!r7)))) else some false)) else some false)) else ((armplanlaw41_lowered.F r1.1 r1.2 a1).bind fun r8 => ((armplanlaw41_awake.F ()).bind fun r9 => (bif r9 then ((profile_Proves.F r1.1 r1.2 r2.2.1 r2.2.2).bind fun r10 => (bif r10 then ((armplanlaw41_altered.F r2.2.2 a2 a3 a4 (r1.2.length : Int)).bind fun r11 => ((profile_Refutes.F r1.1 r1.2 r11).bind fun r12 => (bif (!r12) then ((armplanmake_Same_int64.F r2.2.1 r8).bind fun r13 => (bif r13 then some true else ((armplanlaw41_altered.F r2.2.2 a2 a3 a4 (r1.2.length : Int)).bind fun r14 => ((profile_Proves.F r1.1 r1.2 r8 r14).bind fun r15 => some (!r15))))) else some false))) else some false)) else some false))))))
noncomputable def armplanlaw41_ProfileCertified.F : (List (Int)) → (List (Int)) → Int → Int → Int → Option (Bool) := lock armplanlaw41_ProfileCertified.F0
theorem armplanlaw41_ProfileCertified.F_eq : armplanlaw41_ProfileCertified.F = armplanlaw41_ProfileCertified.F0 := lock_eq _
noncomputable def armplanlaw41_ProfileCertified.p : Proc := { nargs := 5, inS := ⟨[(0, .lf (.dat (.int .i64))), (1, .lf (.dat (.int .i64))), (2, .lf (.sc (.int .i64))), (3, .lf (.sc (.int .i64))), (4, .lf (.sc (.int .i64)))], []⟩, outS := ⟨[(0, .lf (.sc .bool))], []⟩, n0 := 0, R := Bool, F := fun x => armplanlaw41_ProfileCertified.F x.1.1 x.1.2.1 x.1.2.2.1 x.1.2.2.2.1 x.1.2.2.2.2.1, post := fun r => ((r, ()), ()), un := fun x => x.1.1 }
noncomputable def armplanlaw41_ProfileCertified.E : Env := { P := Try.prog, ty := tyTab [], glob := glob0, proc := procTab [(15, armplanmake_Limits.p), (19, profile_Greatest.p), (14, armplanlaw41_awake.p), (28, profile_Refutes.p), (17, armplanlaw41_lowered.p), (26, armplanlaw41_altered.p), (29, profile_Proves.p), (30, armplanmake_Same_int64.p)], lproc := lprocTab [], n0 := 0, ntmps := 99 }
theorem armplanlaw41_ProfileCertified.ok : ProcsOk armplanlaw41_ProfileCertified.E := AllSound.ok (l := [(15, armplanmake_Limits.p), (19, profile_Greatest.p), (14, armplanlaw41_awake.p), (28, profile_Refutes.p), (17, armplanlaw41_lowered.p), (26, armplanlaw41_altered.p), (29, profile_Proves.p), (30, armplanmake_Same_int64.p)]) (by kernel_rfl) rfl ⟨armplanmake_Limits.sound, profile_Greatest.sound, armplanlaw41_awake.sound, profile_Refutes.sound, armplanlaw41_lowered.sound, armplanlaw41_altered.sound, profile_Proves.sound, armplanmake_Same_int64.sound, trivial⟩
noncomputable def armplanlaw41_ProfileCertified.body0 : Code := (match Try.f9.body with | some c => c | none => .skip)
noncomputable def armplanlaw41_ProfileCertified.ann : Ann := .z
set_option maxRecDepth 100000 in
theorem armplanlaw41_ProfileCertified.eq (x : Tup armplanlaw41_ProfileCertified.p.inS) : peFn armplanlaw41_ProfileCertified.E Try.f9 armplanlaw41_ProfileCertified.ann armplanlaw41_ProfileCertified.p x = armplanlaw41_ProfileCertified.p.F x := by
  have h : peFn armplanlaw41_ProfileCertified.E Try.f9 armplanlaw41_ProfileCertified.ann armplanlaw41_ProfileCertified.p x = armplanlaw41_ProfileCertified.F0 x.1.1 x.1.2.1 x.1.2.2.1 x.1.2.2.2.1 x.1.2.2.2.2.1 := by kernel_rfl
  exact h.trans (by show _ = armplanlaw41_ProfileCertified.F x.1.1 x.1.2.1 x.1.2.2.1 x.1.2.2.2.1 x.1.2.2.2.2.1; rw [armplanlaw41_ProfileCertified.F_eq])
set_option maxRecDepth 100000 in
theorem armplanlaw41_ProfileCertified.sound : ProcSound Try.prog glob0 9 armplanlaw41_ProfileCertified.p :=
  fn_sound (E := armplanlaw41_ProfileCertified.E) (c := armplanlaw41_ProfileCertified.body0) (ann := armplanlaw41_ProfileCertified.ann) armplanlaw41_ProfileCertified.ok Try.func9 (of_decide_eq_true (by kernel_rfl)) rfl rfl rfl (by decide +kernel) ((SubsOk_z _ _) : SubsOk armplanlaw41_ProfileCertified.E armplanlaw41_ProfileCertified.body0 armplanlaw41_ProfileCertified.ann) (fun _ => rfl) rfl armplanlaw41_ProfileCertified.eq

end Go.Abs
