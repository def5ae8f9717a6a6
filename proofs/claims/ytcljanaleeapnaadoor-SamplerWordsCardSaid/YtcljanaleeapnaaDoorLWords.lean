import Derived.Test.YtcljanaleeapnaaDoorFns
set_option linter.unusedVariables false
namespace Go.Abs
open Go Go.Proofs

/-! ### armplan/armplanlaw23.SamplerWords: function 9 -/
noncomputable def armplanlaw23_SamplerWords.F0 (a0 : Int) (a1 : Int) : Option (Bool) :=
  ((armplanlaw23_awake.F ()).bind fun r1 => (bif r1 then ((sampler_Word.F a0 a1).bind fun r2 => ((armplanref23_Word.F a0 a1).bind fun r3 => (bif (r2 == r3) then ((sampler_Word.F a0 (ibits .and .u64 a1 (15 : Int))).bind fun r4 => ((armplanref23_Word.F a0 (ibits .and .u64 a1 (15 : Int))).bind fun r5 => some (r4 == r5))) else some false))) else some false))
noncomputable def armplanlaw23_SamplerWords.F : Int → Int → Option (Bool) := lock armplanlaw23_SamplerWords.F0
theorem armplanlaw23_SamplerWords.F_eq : armplanlaw23_SamplerWords.F = armplanlaw23_SamplerWords.F0 := lock_eq _
noncomputable def armplanlaw23_SamplerWords.p : Proc := { nargs := 2, inS := ⟨[(0, .lf (.sc (.int .u64))), (1, .lf (.sc (.int .u64)))], []⟩, outS := ⟨[(0, .lf (.sc .bool))], []⟩, n0 := 0, R := Bool, F := fun x => armplanlaw23_SamplerWords.F x.1.1 x.1.2.1, post := fun r => ((r, ()), ()), un := fun x => x.1.1 }
noncomputable def armplanlaw23_SamplerWords.E : Env := { P := Tryd.prog, ty := tyTab [], glob := glob0, proc := procTab [(15, armplanlaw23_awake.p), (27, sampler_Word.p), (28, armplanref23_Word.p)], lproc := lprocTab [], n0 := 0, ntmps := 26 }
theorem armplanlaw23_SamplerWords.ok : ProcsOk armplanlaw23_SamplerWords.E := AllSound.ok (l := [(15, armplanlaw23_awake.p), (27, sampler_Word.p), (28, armplanref23_Word.p)]) (by kernel_rfl) rfl ⟨armplanlaw23_awake.sound, sampler_Word.sound, armplanref23_Word.sound, trivial⟩
noncomputable def armplanlaw23_SamplerWords.body0 : Code := (match Tryd.f9.body with | some c => c | none => .skip)
noncomputable def armplanlaw23_SamplerWords.ann : Ann := .z
set_option maxRecDepth 100000 in
theorem armplanlaw23_SamplerWords.eq (x : Tup armplanlaw23_SamplerWords.p.inS) : peFn armplanlaw23_SamplerWords.E Tryd.f9 armplanlaw23_SamplerWords.ann armplanlaw23_SamplerWords.p x = armplanlaw23_SamplerWords.p.F x := by
  have h : peFn armplanlaw23_SamplerWords.E Tryd.f9 armplanlaw23_SamplerWords.ann armplanlaw23_SamplerWords.p x = armplanlaw23_SamplerWords.F0 x.1.1 x.1.2.1 := by kernel_rfl
  exact h.trans (by show _ = armplanlaw23_SamplerWords.F x.1.1 x.1.2.1; rw [armplanlaw23_SamplerWords.F_eq])
set_option maxRecDepth 100000 in
theorem armplanlaw23_SamplerWords.sound : ProcSound Tryd.prog glob0 9 armplanlaw23_SamplerWords.p :=
  fn_sound (E := armplanlaw23_SamplerWords.E) (c := armplanlaw23_SamplerWords.body0) (ann := armplanlaw23_SamplerWords.ann) armplanlaw23_SamplerWords.ok Tryd.func9 (of_decide_eq_true (by kernel_rfl)) rfl rfl rfl (by decide +kernel) ((SubsOk_z _ _) : SubsOk armplanlaw23_SamplerWords.E armplanlaw23_SamplerWords.body0 armplanlaw23_SamplerWords.ann) (fun _ => rfl) rfl armplanlaw23_SamplerWords.eq

end Go.Abs
