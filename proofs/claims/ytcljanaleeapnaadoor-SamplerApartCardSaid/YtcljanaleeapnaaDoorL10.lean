import Derived.Test.YtcljanaleeapnaaDoorG2
set_option linter.unusedVariables false
set_option linter.unusedSimpArgs false
namespace Go.Abs
open Go Go.Proofs

/-! ### armplan/armplanlaw23.SamplerApart: function 10 -/
noncomputable def armplanlaw23_SamplerApart.F0 (a0 : Int) (a1 : Int) (a2 : Int) : Option (Bool) :=
  ((armplanlaw23_awake.F ()).bind fun r1 => (bif r1 then ((sampler_Word.F a0 a1).bind fun r2 => ((sampler_Word.F a0 a2).bind fun r3 => some ((r2 == r3) == (a1 == a2)))) else some false))
noncomputable def armplanlaw23_SamplerApart.F : Int → Int → Int → Option (Bool) := lock armplanlaw23_SamplerApart.F0
theorem armplanlaw23_SamplerApart.F_eq : armplanlaw23_SamplerApart.F = armplanlaw23_SamplerApart.F0 := lock_eq _
noncomputable def armplanlaw23_SamplerApart.p : Proc := { nargs := 3, inS := ⟨[(0, .lf (.sc (.int .u64))), (1, .lf (.sc (.int .u64))), (2, .lf (.sc (.int .u64)))], []⟩, outS := ⟨[(0, .lf (.sc .bool))], []⟩, n0 := 0, R := Bool, F := fun x => armplanlaw23_SamplerApart.F x.1.1 x.1.2.1 x.1.2.2.1, post := fun r => ((r, ()), ()), un := fun x => x.1.1 }
noncomputable def armplanlaw23_SamplerApart.E : Env := { P := Tryd.prog, ty := tyTab [], glob := glob0, proc := procTab [(15, armplanlaw23_awake.p), (27, sampler_Word.p)], lproc := lprocTab [], n0 := 0, ntmps := 21 }
theorem armplanlaw23_SamplerApart.ok : ProcsOk armplanlaw23_SamplerApart.E := AllSound.ok (l := [(15, armplanlaw23_awake.p), (27, sampler_Word.p)]) (by kernel_rfl) rfl ⟨armplanlaw23_awake.sound, sampler_Word.sound, trivial⟩
noncomputable def armplanlaw23_SamplerApart.body0 : Code := (match Tryd.f10.body with | some c => c | none => .skip)
noncomputable def armplanlaw23_SamplerApart.ann : Ann := .z
set_option maxRecDepth 100000 in
theorem armplanlaw23_SamplerApart.eq (x : Tup armplanlaw23_SamplerApart.p.inS) : peFn armplanlaw23_SamplerApart.E Tryd.f10 armplanlaw23_SamplerApart.ann armplanlaw23_SamplerApart.p x = armplanlaw23_SamplerApart.p.F x := by
  have h : peFn armplanlaw23_SamplerApart.E Tryd.f10 armplanlaw23_SamplerApart.ann armplanlaw23_SamplerApart.p x = armplanlaw23_SamplerApart.F0 x.1.1 x.1.2.1 x.1.2.2.1 := by kernel_rfl
  exact h.trans (by show _ = armplanlaw23_SamplerApart.F x.1.1 x.1.2.1 x.1.2.2.1; rw [armplanlaw23_SamplerApart.F_eq])
set_option maxRecDepth 100000 in
theorem armplanlaw23_SamplerApart.sound : ProcSound Tryd.prog glob0 10 armplanlaw23_SamplerApart.p :=
  fn_sound (E := armplanlaw23_SamplerApart.E) (c := armplanlaw23_SamplerApart.body0) (ann := armplanlaw23_SamplerApart.ann) armplanlaw23_SamplerApart.ok Tryd.func10 (of_decide_eq_true (by kernel_rfl)) rfl rfl rfl (by decide +kernel) ((SubsOk_z _ _) : SubsOk armplanlaw23_SamplerApart.E armplanlaw23_SamplerApart.body0 armplanlaw23_SamplerApart.ann) (fun _ => rfl) rfl armplanlaw23_SamplerApart.eq

end Go.Abs
