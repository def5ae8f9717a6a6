/- A part of the proof that the text with the row names: printed readings of functions, or plain lemmas about them. -/
import Derived.Test.YtcljanaleeapnaaDoorG2
set_option linter.unusedVariables false
set_option linter.unusedSimpArgs false
namespace Go.Abs
open Go Go.Proofs

/-! ### armplan/armplanlaw23.SamplerRadicals: function 3 -/
noncomputable def armplanlaw23_SamplerRadicals.F0 (a0 : Int) (a1 : Int) (a2 : Int) : Option (Bool) :=
  ((sampler_Radical.F a0 a1).bind fun r1 => ((armplanref23_Radical.F a0 a1).bind fun r2 => ((sampler_Radical.F (a0.tmod (40 : Int)) a1).bind fun r3 => ((armplanref23_Radical.F (a0.tmod (40 : Int)) a1).bind fun r4 => ((armplanlaw23_awake.F ()).bind fun r5 => (bif r5 then (bif (r1.1 == r2.1) then (bif (r1.2 == r2.2) then (bif (r3.1 == r4.1) then (bif (r3.2 == r4.2) then ((sampler_Prime.F a2).bind fun r6 => ((armplanref23_Prime.F a2).bind fun r7 => (bif (r6 == r7) then ((sampler_Prime.F (ibits .and .i64 a2 (15 : Int))).bind fun r8 => ((armplanref23_Prime.F (ibits .and .i64 a2 (15 : Int))).bind fun r9 => some (r8 == r9))) else some false))) else some false) else some false) else some false) else some false) else some false))))))
noncomputable def armplanlaw23_SamplerRadicals.F : Int → Int → Int → Option (Bool) := lock armplanlaw23_SamplerRadicals.F0
theorem armplanlaw23_SamplerRadicals.F_eq : armplanlaw23_SamplerRadicals.F = armplanlaw23_SamplerRadicals.F0 := lock_eq _
noncomputable def armplanlaw23_SamplerRadicals.p : Proc := { nargs := 3, inS := ⟨[(0, .lf (.sc (.int .u64))), (1, .lf (.sc (.int .u64))), (2, .lf (.sc (.int .i64)))], []⟩, outS := ⟨[(0, .lf (.sc .bool))], []⟩, n0 := 0, R := Bool, F := fun x => armplanlaw23_SamplerRadicals.F x.1.1 x.1.2.1 x.1.2.2.1, post := fun r => ((r, ()), ()), un := fun x => x.1.1 }
noncomputable def armplanlaw23_SamplerRadicals.E : Env := { P := Tryd.prog, ty := tyTab [], glob := glob0, proc := procTab [(13, sampler_Radical.p), (14, armplanref23_Radical.p), (15, armplanlaw23_awake.p), (16, sampler_Prime.p), (17, armplanref23_Prime.p)], lproc := lprocTab [], n0 := 0, ntmps := 78 }
theorem armplanlaw23_SamplerRadicals.ok : ProcsOk armplanlaw23_SamplerRadicals.E := AllSound.ok (l := [(13, sampler_Radical.p), (14, armplanref23_Radical.p), (15, armplanlaw23_awake.p), (16, sampler_Prime.p), (17, armplanref23_Prime.p)]) (by kernel_rfl) rfl ⟨sampler_Radical.sound, armplanref23_Radical.sound, armplanlaw23_awake.sound, sampler_Prime.sound, armplanref23_Prime.sound, trivial⟩
noncomputable def armplanlaw23_SamplerRadicals.body0 : Code := (match Tryd.f3.body with | some c => c | none => .skip)
noncomputable def armplanlaw23_SamplerRadicals.ann : Ann := .z
set_option maxRecDepth 100000 in
theorem armplanlaw23_SamplerRadicals.eq (x : Tup armplanlaw23_SamplerRadicals.p.inS) : peFn armplanlaw23_SamplerRadicals.E Tryd.f3 armplanlaw23_SamplerRadicals.ann armplanlaw23_SamplerRadicals.p x = armplanlaw23_SamplerRadicals.p.F x := by
  have h : peFn armplanlaw23_SamplerRadicals.E Tryd.f3 armplanlaw23_SamplerRadicals.ann armplanlaw23_SamplerRadicals.p x = armplanlaw23_SamplerRadicals.F0 x.1.1 x.1.2.1 x.1.2.2.1 := by kernel_rfl
  exact h.trans (by show _ = armplanlaw23_SamplerRadicals.F x.1.1 x.1.2.1 x.1.2.2.1; rw [armplanlaw23_SamplerRadicals.F_eq])
set_option maxRecDepth 100000 in
theorem armplanlaw23_SamplerRadicals.sound : ProcSound Tryd.prog glob0 3 armplanlaw23_SamplerRadicals.p :=
  fn_sound (E := armplanlaw23_SamplerRadicals.E) (c := armplanlaw23_SamplerRadicals.body0) (ann := armplanlaw23_SamplerRadicals.ann) armplanlaw23_SamplerRadicals.ok Tryd.func3 (of_decide_eq_true (by kernel_rfl)) rfl rfl rfl (by decide +kernel) ((SubsOk_z _ _) : SubsOk armplanlaw23_SamplerRadicals.E armplanlaw23_SamplerRadicals.body0 armplanlaw23_SamplerRadicals.ann) (fun _ => rfl) rfl armplanlaw23_SamplerRadicals.eq

end Go.Abs
