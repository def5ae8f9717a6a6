/- A part of the proof that the text with the row names: printed readings of functions, or plain lemmas about them. -/
import Derived.Test.YtcljanaleeapnaaDoorG2
set_option linter.unusedVariables false
set_option linter.unusedSimpArgs false
namespace Go.Abs
open Go Go.Proofs

/-! ### armplan/armplanlaw23.SamplerSamples: function 11 -/
noncomputable def armplanlaw23_SamplerSamples.F0 (a0 : List ((Int × Int))) (a1 : List (Int)) (a2 : Int) (a3 : Int) : Option (Bool) :=
  ((armplanmake_Root.F a1).bind fun r1 => ((armplanlaw23_awake.F ()).bind fun r2 => (bif r2 then ((armplanlaw23_samples.F a0 a2 a3).bind fun r3 => (bif r3 then ((armplanlaw23_samples.F r1 a2 a3).bind fun r4 => (bif r4 then ((armplanlaw23_samples.F r1 (ibits .and .u64 a2 (3 : Int)) (ibits .and .u64 a3 (63 : Int))).bind fun r5 => some r5) else some false)) else some false)) else some false)))
noncomputable def armplanlaw23_SamplerSamples.F : (List ((Int × Int))) → (List (Int)) → Int → Int → Option (Bool) := lock armplanlaw23_SamplerSamples.F0
theorem armplanlaw23_SamplerSamples.F_eq : armplanlaw23_SamplerSamples.F = armplanlaw23_SamplerSamples.F0 := lock_eq _
noncomputable def armplanlaw23_SamplerSamples.p : Proc := { nargs := 4, inS := ⟨[(0, .lf (.dat (.pair (.int .i64) (.int .i64)))), (1, .lf (.dat (.int .i64))), (2, .lf (.sc (.int .u64))), (3, .lf (.sc (.int .u64)))], []⟩, outS := ⟨[(0, .lf (.sc .bool))], []⟩, n0 := 0, R := Bool, F := fun x => armplanlaw23_SamplerSamples.F x.1.1 x.1.2.1 x.1.2.2.1 x.1.2.2.2.1, post := fun r => ((r, ()), ()), un := fun x => x.1.1 }
noncomputable def armplanlaw23_SamplerSamples.E : Env := { P := Tryd.prog, ty := tyTab [], glob := glob0, proc := procTab [(20, armplanmake_Root.p), (15, armplanlaw23_awake.p), (29, armplanlaw23_samples.p)], lproc := lprocTab [], n0 := 0, ntmps := 33 }
theorem armplanlaw23_SamplerSamples.ok : ProcsOk armplanlaw23_SamplerSamples.E := AllSound.ok (l := [(20, armplanmake_Root.p), (15, armplanlaw23_awake.p), (29, armplanlaw23_samples.p)]) (by kernel_rfl) rfl ⟨armplanmake_Root.sound, armplanlaw23_awake.sound, armplanlaw23_samples.sound, trivial⟩
noncomputable def armplanlaw23_SamplerSamples.body0 : Code := (match Tryd.f11.body with | some c => c | none => .skip)
noncomputable def armplanlaw23_SamplerSamples.ann : Ann := .z
set_option maxRecDepth 100000 in
theorem armplanlaw23_SamplerSamples.eq (x : Tup armplanlaw23_SamplerSamples.p.inS) : peFn armplanlaw23_SamplerSamples.E Tryd.f11 armplanlaw23_SamplerSamples.ann armplanlaw23_SamplerSamples.p x = armplanlaw23_SamplerSamples.p.F x := by
  have h : peFn armplanlaw23_SamplerSamples.E Tryd.f11 armplanlaw23_SamplerSamples.ann armplanlaw23_SamplerSamples.p x = armplanlaw23_SamplerSamples.F0 x.1.1 x.1.2.1 x.1.2.2.1 x.1.2.2.2.1 := by kernel_rfl
  exact h.trans (by show _ = armplanlaw23_SamplerSamples.F x.1.1 x.1.2.1 x.1.2.2.1 x.1.2.2.2.1; rw [armplanlaw23_SamplerSamples.F_eq])
set_option maxRecDepth 100000 in
theorem armplanlaw23_SamplerSamples.sound : ProcSound Tryd.prog glob0 11 armplanlaw23_SamplerSamples.p :=
  fn_sound (E := armplanlaw23_SamplerSamples.E) (c := armplanlaw23_SamplerSamples.body0) (ann := armplanlaw23_SamplerSamples.ann) armplanlaw23_SamplerSamples.ok Tryd.func11 (of_decide_eq_true (by kernel_rfl)) rfl rfl rfl (by decide +kernel) ((SubsOk_z _ _) : SubsOk armplanlaw23_SamplerSamples.E armplanlaw23_SamplerSamples.body0 armplanlaw23_SamplerSamples.ann) (fun _ => rfl) rfl armplanlaw23_SamplerSamples.eq

end Go.Abs
