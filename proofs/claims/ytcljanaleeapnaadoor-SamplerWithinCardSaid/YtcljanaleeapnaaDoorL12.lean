/- A part of the proof that the text with the row names: printed readings of functions, or plain lemmas about them. -/
import Derived.Test.YtcljanaleeapnaaDoorG2
set_option linter.unusedVariables false
set_option linter.unusedSimpArgs false
namespace Go.Abs
open Go Go.Proofs

/-! ### armplan/armplanlaw23.SamplerWithin: function 12 -/
noncomputable def armplanlaw23_SamplerWithin.F0 (a0 : List (Int)) (a1 : Int) (a2 : Int) : Option (Bool) :=
  ((armplanmake_Root.F a0).bind fun r1 => ((armplanlaw23_awake.F ()).bind fun r2 => (bif r2 then ((sampler_Uniform.F r1 a1 a2).bind fun r3 => ((armplanref10_Has.F r1 r3).bind fun r4 => (bif r4 then ((sampler_Halton.F r1 a2).bind fun r5 => ((armplanref10_Has.F r1 r5).bind fun r6 => some r6)) else some false))) else some false)))
noncomputable def armplanlaw23_SamplerWithin.F : (List (Int)) → Int → Int → Option (Bool) := lock armplanlaw23_SamplerWithin.F0
theorem armplanlaw23_SamplerWithin.F_eq : armplanlaw23_SamplerWithin.F = armplanlaw23_SamplerWithin.F0 := lock_eq _
noncomputable def armplanlaw23_SamplerWithin.p : Proc := { nargs := 3, inS := ⟨[(0, .lf (.dat (.int .i64))), (1, .lf (.sc (.int .u64))), (2, .lf (.sc (.int .u64)))], []⟩, outS := ⟨[(0, .lf (.sc .bool))], []⟩, n0 := 0, R := Bool, F := fun x => armplanlaw23_SamplerWithin.F x.1.1 x.1.2.1 x.1.2.2.1, post := fun r => ((r, ()), ()), un := fun x => x.1.1 }
noncomputable def armplanlaw23_SamplerWithin.E : Env := { P := Tryd.prog, ty := tyTab [], glob := glob0, proc := procTab [(20, armplanmake_Root.p), (15, armplanlaw23_awake.p), (31, sampler_Uniform.p), (30, armplanref10_Has.p), (21, sampler_Halton.p)], lproc := lprocTab [], n0 := 0, ntmps := 26 }
theorem armplanlaw23_SamplerWithin.ok : ProcsOk armplanlaw23_SamplerWithin.E := AllSound.ok (l := [(20, armplanmake_Root.p), (15, armplanlaw23_awake.p), (31, sampler_Uniform.p), (30, armplanref10_Has.p), (21, sampler_Halton.p)]) (by kernel_rfl) rfl ⟨armplanmake_Root.sound, armplanlaw23_awake.sound, sampler_Uniform.sound, armplanref10_Has.sound, sampler_Halton.sound, trivial⟩
noncomputable def armplanlaw23_SamplerWithin.body0 : Code := (match Tryd.f12.body with | some c => c | none => .skip)
noncomputable def armplanlaw23_SamplerWithin.ann : Ann := .z
set_option maxRecDepth 100000 in
theorem armplanlaw23_SamplerWithin.eq (x : Tup armplanlaw23_SamplerWithin.p.inS) : peFn armplanlaw23_SamplerWithin.E Tryd.f12 armplanlaw23_SamplerWithin.ann armplanlaw23_SamplerWithin.p x = armplanlaw23_SamplerWithin.p.F x := by
  have h : peFn armplanlaw23_SamplerWithin.E Tryd.f12 armplanlaw23_SamplerWithin.ann armplanlaw23_SamplerWithin.p x = armplanlaw23_SamplerWithin.F0 x.1.1 x.1.2.1 x.1.2.2.1 := by kernel_rfl
  exact h.trans (by show _ = armplanlaw23_SamplerWithin.F x.1.1 x.1.2.1 x.1.2.2.1; rw [armplanlaw23_SamplerWithin.F_eq])
set_option maxRecDepth 100000 in
theorem armplanlaw23_SamplerWithin.sound : ProcSound Tryd.prog glob0 12 armplanlaw23_SamplerWithin.p :=
  fn_sound (E := armplanlaw23_SamplerWithin.E) (c := armplanlaw23_SamplerWithin.body0) (ann := armplanlaw23_SamplerWithin.ann) armplanlaw23_SamplerWithin.ok Tryd.func12 (of_decide_eq_true (by kernel_rfl)) rfl rfl rfl (by decide +kernel) ((SubsOk_z _ _) : SubsOk armplanlaw23_SamplerWithin.E armplanlaw23_SamplerWithin.body0 armplanlaw23_SamplerWithin.ann) (fun _ => rfl) rfl armplanlaw23_SamplerWithin.eq

end Go.Abs
