/- A part of the proof that the text with the row names: printed readings of functions, or plain lemmas about them. -/
import Derived.Test.YtcljanaleeapnaaDoorG2
set_option linter.unusedVariables false
set_option linter.unusedSimpArgs false
namespace Go.Abs
open Go Go.Proofs

/-! ### armplan/armplanlaw23.SamplerSpreads: function 7 -/
noncomputable def armplanlaw23_SamplerSpreads.F0 (a0 : Int) (a1 : Int) (a2 : Int) (a3 : Int) (a4 : Int) (a5 : Int) (a6 : Int) : Option (Bool) :=
  ((armplanmake_Interval.F a5 a6).bind fun r1 => ((armplanlaw23_awake.F ()).bind fun r2 => (bif r2 then ((sampler_Spread.F a0 a3 a4).bind fun r3 => ((armplanref23_Spread.F a0 a3 a4).bind fun r4 => (bif (r3 == r4) then ((sampler_Spread.F a0 r1.1 r1.2).bind fun r5 => ((armplanref23_Spread.F a0 r1.1 r1.2).bind fun r6 => (bif (r5 == r6) then ((sampler_Place.F a1 a2 a3 a4).bind fun r7 => ((armplanref23_Place.F a1 a2 a3 a4).bind fun r8 => (bif (r7 == r8) then (bif ((ibits .or .u64 a2 (1 : Int)) != 0) then ((sampler_Place.F (a1.tmod (ibits .or .u64 a2 (1 : Int))) (ibits .or .u64 a2 (1 : Int)) r1.1 r1.2).bind fun r9 => (bif ((ibits .or .u64 a2 (1 : Int)) != 0) then ((armplanref23_Place.F (a1.tmod (ibits .or .u64 a2 (1 : Int))) (ibits .or .u64 a2 (1 : Int)) r1.1 r1.2).bind fun r10 => some (r9 == r10)) else none)) else none) else some false))) else some false))) else some false))) else some false)))
noncomputable def armplanlaw23_SamplerSpreads.F : Int → Int → Int → Int → Int → Int → Int → Option (Bool) := lock armplanlaw23_SamplerSpreads.F0
theorem armplanlaw23_SamplerSpreads.F_eq : armplanlaw23_SamplerSpreads.F = armplanlaw23_SamplerSpreads.F0 := lock_eq _
noncomputable def armplanlaw23_SamplerSpreads.p : Proc := { nargs := 7, inS := ⟨[(0, .lf (.sc (.int .u64))), (1, .lf (.sc (.int .u64))), (2, .lf (.sc (.int .u64))), (3, .lf (.sc (.int .i64))), (4, .lf (.sc (.int .i64))), (5, .lf (.sc (.int .i64))), (6, .lf (.sc (.int .i64)))], []⟩, outS := ⟨[(0, .lf (.sc .bool))], []⟩, n0 := 0, R := Bool, F := fun x => armplanlaw23_SamplerSpreads.F x.1.1 x.1.2.1 x.1.2.2.1 x.1.2.2.2.1 x.1.2.2.2.2.1 x.1.2.2.2.2.2.1 x.1.2.2.2.2.2.2.1, post := fun r => ((r, ()), ()), un := fun x => x.1.1 }
noncomputable def armplanlaw23_SamplerSpreads.E : Env := { P := Tryd.prog, ty := tyTab [], glob := glob0, proc := procTab [(22, armplanmake_Interval.p), (15, armplanlaw23_awake.p), (23, sampler_Spread.p), (24, armplanref23_Spread.p), (25, sampler_Place.p), (26, armplanref23_Place.p)], lproc := lprocTab [], n0 := 0, ntmps := 84 }
theorem armplanlaw23_SamplerSpreads.ok : ProcsOk armplanlaw23_SamplerSpreads.E := AllSound.ok (l := [(22, armplanmake_Interval.p), (15, armplanlaw23_awake.p), (23, sampler_Spread.p), (24, armplanref23_Spread.p), (25, sampler_Place.p), (26, armplanref23_Place.p)]) (by kernel_rfl) rfl ⟨armplanmake_Interval.sound, armplanlaw23_awake.sound, sampler_Spread.sound, armplanref23_Spread.sound, sampler_Place.sound, armplanref23_Place.sound, trivial⟩
noncomputable def armplanlaw23_SamplerSpreads.body0 : Code := (match Tryd.f7.body with | some c => c | none => .skip)
noncomputable def armplanlaw23_SamplerSpreads.ann : Ann := .z
set_option maxRecDepth 100000 in
theorem armplanlaw23_SamplerSpreads.eq (x : Tup armplanlaw23_SamplerSpreads.p.inS) : peFn armplanlaw23_SamplerSpreads.E Tryd.f7 armplanlaw23_SamplerSpreads.ann armplanlaw23_SamplerSpreads.p x = armplanlaw23_SamplerSpreads.p.F x := by
  have h : peFn armplanlaw23_SamplerSpreads.E Tryd.f7 armplanlaw23_SamplerSpreads.ann armplanlaw23_SamplerSpreads.p x = armplanlaw23_SamplerSpreads.F0 x.1.1 x.1.2.1 x.1.2.2.1 x.1.2.2.2.1 x.1.2.2.2.2.1 x.1.2.2.2.2.2.1 x.1.2.2.2.2.2.2.1 := by kernel_rfl
  exact h.trans (by show _ = armplanlaw23_SamplerSpreads.F x.1.1 x.1.2.1 x.1.2.2.1 x.1.2.2.2.1 x.1.2.2.2.2.1 x.1.2.2.2.2.2.1 x.1.2.2.2.2.2.2.1; rw [armplanlaw23_SamplerSpreads.F_eq])
set_option maxRecDepth 100000 in
theorem armplanlaw23_SamplerSpreads.sound : ProcSound Tryd.prog glob0 7 armplanlaw23_SamplerSpreads.p :=
  fn_sound (E := armplanlaw23_SamplerSpreads.E) (c := armplanlaw23_SamplerSpreads.body0) (ann := armplanlaw23_SamplerSpreads.ann) armplanlaw23_SamplerSpreads.ok Tryd.func7 (of_decide_eq_true (by kernel_rfl)) rfl rfl rfl (by decide +kernel) ((SubsOk_z _ _) : SubsOk armplanlaw23_SamplerSpreads.E armplanlaw23_SamplerSpreads.body0 armplanlaw23_SamplerSpreads.ann) (fun _ => rfl) rfl armplanlaw23_SamplerSpreads.eq

end Go.Abs
