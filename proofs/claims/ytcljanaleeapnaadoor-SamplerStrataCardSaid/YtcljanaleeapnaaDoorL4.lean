/- A part of the proof that the text with the row names: printed readings of functions, or plain lemmas about them. -/
import Derived.Test.YtcljanaleeapnaaDoorG2
set_option linter.unusedVariables false
set_option linter.unusedSimpArgs false
namespace Go.Abs
open Go Go.Proofs

/-! ### armplan/armplanlaw23.SamplerStrata: function 4 -/
noncomputable def armplanlaw23_SamplerStrata.p0.round (v0 : Int) (v1 : Int) (v2 : Int) (v3 : List (Bool)) : Option ((Int × Int × Int × List (Bool)) ⊕ ((Bool) ⊕ (Unit))) :=
  (bif decide (v2 < v1) then ((sampler_Radical.F v0 v2).bind fun r5 => (bif (r5.2 == (0 : Int)) then some (.inr (.inl false)) else (bif decide (r5.1 ≥ r5.2) then some (.inr (.inl false)) else (bif (r5.2 != 0) then (bif decide (0 ≤ (IntKind.wrap .u64 ((IntKind.wrap .u64 (r5.1 * v1)).tdiv r5.2))) then (bif decide ((IntKind.wrap .u64 ((IntKind.wrap .u64 (r5.1 * v1)).tdiv r5.2)) < (v3.length : Int)) then (bif (v3.getD (IntKind.wrap .u64 ((IntKind.wrap .u64 (r5.1 * v1)).tdiv r5.2)).toNat false) then some (.inr (.inl false)) else (bif decide (0 ≤ (IntKind.wrap .u64 ((IntKind.wrap .u64 (r5.1 * v1)).tdiv r5.2))) then (bif decide ((IntKind.wrap .u64 ((IntKind.wrap .u64 (r5.1 * v1)).tdiv r5.2)) < (v3.length : Int)) then some (.inl (v0, v1, (IntKind.wrap .u64 (v2 + (1 : Int))), (v3.set (IntKind.wrap .u64 ((IntKind.wrap .u64 (r5.1 * v1)).tdiv r5.2)).toNat true))) else none) else none)) else none) else none) else none)))) else some (.inr (.inr ())))
noncomputable def armplanlaw23_SamplerStrata.p0.step (s : Int × Int × Int × List (Bool)) : Option ((Int × Int × Int × List (Bool)) ⊕ ((Bool) ⊕ (Unit))) := armplanlaw23_SamplerStrata.p0.round s.1 s.2.1 s.2.2.1 s.2.2.2
noncomputable def armplanlaw23_SamplerStrata.p0.inS : Shape := ⟨[(5, .lf (.sc (.int .u64))), (6, .lf (.sc (.int .u64))), (7, .lf (.own 0)), (8, .lf (.sc (.int .u64)))], [.row 4 .bool]⟩
noncomputable def armplanlaw23_SamplerStrata.p0.w0 : Way := { ex := .rt, S := ⟨[(4, .lf (.sc .bool))], []⟩, R := Bool, post := fun r => ((r, ()), ()), un := fun x => x.1.1 }
noncomputable def armplanlaw23_SamplerStrata.p0.w1 : Way := { ex := (.ex 0), S := ⟨[], []⟩, R := Unit, post := fun r => ((), ()), un := fun x => () }
noncomputable def armplanlaw23_SamplerStrata.p0.outs : List Way := [armplanlaw23_SamplerStrata.p0.w0, armplanlaw23_SamplerStrata.p0.w1]
noncomputable def armplanlaw23_SamplerStrata.p0.un (x : Tup armplanlaw23_SamplerStrata.p0.inS) : Int × Int × Int × List (Bool) := (x.1.1, x.1.2.1, x.1.2.2.2.1, x.2.1)
noncomputable def armplanlaw23_SamplerStrata.p0.lp : LProc := { inS := armplanlaw23_SamplerStrata.p0.inS, outs := armplanlaw23_SamplerStrata.p0.outs, F := fun x => loopF armplanlaw23_SamplerStrata.p0.step (armplanlaw23_SamplerStrata.p0.un x) }
noncomputable def armplanlaw23_SamplerStrata.F0 (a0 : Int) (a1 : Int) : Option (Bool) :=
  ((armplanmake_Round.F a0 (11 : Int)).bind fun r1 => ((armplanmake_Round.F a1 (3 : Int)).bind fun r2 => ((armplanlaw23_power.F (IntKind.wrap .u64 (IntKind.wrap .i64 ((2 : Int) + r1))) r2).bind fun r3 => (bif decide (0 ≤ r3) then (bif decide (r3.toNat ≤ 140737488355328 / 1) then ((loopF armplanlaw23_SamplerStrata.p0.step ((IntKind.wrap .u64 (IntKind.wrap .i64 ((2 : Int) + r1))), r3, (0 : Int), (List.replicate r3.toNat false))).bind fun y6 => (Sum.elim (fun y7 => some y7) (fun z8 => ((armplanlaw23_awake.F ()).bind fun r9 => some r9)) y6)) else none) else none))))
noncomputable def armplanlaw23_SamplerStrata.F : Int → Int → Option (Bool) := lock armplanlaw23_SamplerStrata.F0
theorem armplanlaw23_SamplerStrata.F_eq : armplanlaw23_SamplerStrata.F = armplanlaw23_SamplerStrata.F0 := lock_eq _
noncomputable def armplanlaw23_SamplerStrata.p : Proc := { nargs := 2, inS := ⟨[(0, .lf (.sc (.int .i64))), (1, .lf (.sc (.int .i64)))], []⟩, outS := ⟨[(0, .lf (.sc .bool))], []⟩, n0 := 0, R := Bool, F := fun x => armplanlaw23_SamplerStrata.F x.1.1 x.1.2.1, post := fun r => ((r, ()), ()), un := fun x => x.1.1 }
noncomputable def armplanlaw23_SamplerStrata.E : Env := { P := Tryd.prog, ty := tyTab [(4, .bool)], glob := glob0, proc := procTab [(18, armplanmake_Round.p), (19, armplanlaw23_power.p), (13, sampler_Radical.p), (15, armplanlaw23_awake.p)], lproc := lprocTab [(0, armplanlaw23_SamplerStrata.p0.lp)], n0 := 0, ntmps := 53 }
theorem armplanlaw23_SamplerStrata.ok : ProcsOk armplanlaw23_SamplerStrata.E := AllSound.ok (l := [(18, armplanmake_Round.p), (19, armplanlaw23_power.p), (13, sampler_Radical.p), (15, armplanlaw23_awake.p)]) (by kernel_rfl) rfl ⟨armplanmake_Round.sound, armplanlaw23_power.sound, sampler_Radical.sound, armplanlaw23_awake.sound, trivial⟩
noncomputable def armplanlaw23_SamplerStrata.body0 : Code := (match Tryd.f4.body with | some c => c | none => .skip)
noncomputable def armplanlaw23_SamplerStrata.p0.c : Code := ((codeAt armplanlaw23_SamplerStrata.body0 [.r, .r, .r, .r, .l, .r, .b, .b]).getD .skip)
noncomputable def armplanlaw23_SamplerStrata.p0.ann : Ann := .z
set_option maxRecDepth 100000 in
theorem armplanlaw23_SamplerStrata.p0.eq (x : Tup armplanlaw23_SamplerStrata.p0.inS) : peRound armplanlaw23_SamplerStrata.E armplanlaw23_SamplerStrata.p0.c armplanlaw23_SamplerStrata.p0.ann _ armplanlaw23_SamplerStrata.p0.inS armplanlaw23_SamplerStrata.p0.un armplanlaw23_SamplerStrata.p0.outs x = armplanlaw23_SamplerStrata.p0.step (armplanlaw23_SamplerStrata.p0.un x) := by
  kernel_rfl
set_option maxRecDepth 100000 in
theorem armplanlaw23_SamplerStrata.p0.sound : LProcSound armplanlaw23_SamplerStrata.E (.loop armplanlaw23_SamplerStrata.p0.c) armplanlaw23_SamplerStrata.p0.lp :=
  loop_sound (ann := armplanlaw23_SamplerStrata.p0.ann) armplanlaw23_SamplerStrata.ok ((SubsOk_z _ _) : SubsOk armplanlaw23_SamplerStrata.E armplanlaw23_SamplerStrata.p0.c armplanlaw23_SamplerStrata.p0.ann) (by intro a ha; simp only [armplanlaw23_SamplerStrata.p0.outs, List.mem_cons, List.not_mem_nil, or_false] at ha; rcases ha with rfl | rfl <;> exact fun _ => rfl) armplanlaw23_SamplerStrata.p0.eq
noncomputable def armplanlaw23_SamplerStrata.ann : Ann := .s (.z) (.s (.z) (.s (.z) (.s (.z) (.s (.s (.z) (.b (.sub 0))) (.z)))))
set_option maxRecDepth 100000 in
theorem armplanlaw23_SamplerStrata.eq (x : Tup armplanlaw23_SamplerStrata.p.inS) : peFn armplanlaw23_SamplerStrata.E Tryd.f4 armplanlaw23_SamplerStrata.ann armplanlaw23_SamplerStrata.p x = armplanlaw23_SamplerStrata.p.F x := by
  have h : peFn armplanlaw23_SamplerStrata.E Tryd.f4 armplanlaw23_SamplerStrata.ann armplanlaw23_SamplerStrata.p x = armplanlaw23_SamplerStrata.F0 x.1.1 x.1.2.1 := by kernel_rfl
  exact h.trans (by show _ = armplanlaw23_SamplerStrata.F x.1.1 x.1.2.1; rw [armplanlaw23_SamplerStrata.F_eq])
set_option maxRecDepth 100000 in
theorem armplanlaw23_SamplerStrata.sound : ProcSound Tryd.prog glob0 4 armplanlaw23_SamplerStrata.p :=
  fn_sound (E := armplanlaw23_SamplerStrata.E) (c := armplanlaw23_SamplerStrata.body0) (ann := armplanlaw23_SamplerStrata.ann) armplanlaw23_SamplerStrata.ok Tryd.func4 (of_decide_eq_true (by kernel_rfl)) rfl rfl rfl (by decide +kernel) (⟨(SubsOk_z _ _), ⟨(SubsOk_z _ _), ⟨(SubsOk_z _ _), ⟨(SubsOk_z _ _), ⟨⟨(SubsOk_z _ _), (sub_of rfl armplanlaw23_SamplerStrata.p0.sound)⟩, (SubsOk_z _ _)⟩⟩⟩⟩⟩ : SubsOk armplanlaw23_SamplerStrata.E armplanlaw23_SamplerStrata.body0 armplanlaw23_SamplerStrata.ann) (fun _ => rfl) rfl armplanlaw23_SamplerStrata.eq

end Go.Abs
