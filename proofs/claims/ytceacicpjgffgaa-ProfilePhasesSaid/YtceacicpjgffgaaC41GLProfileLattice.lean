/- A part of the proof that the text with the row names: printed readings of functions, or plain lemmas about them. -/
import Derived.Test.YtceacicpjgffgaaC41GLProfileGreatest
set_option linter.unusedVariables false
set_option linter.unusedSimpArgs false
namespace Go.Abs
open Go Go.Proofs

/-! ### armplan/armplanlaw41.ProfileLattice: function 4 -/
noncomputable def armplanlaw41_ProfileLattice.p0.round (v0 : Int) (v1 : List (Int)) (v2 : List ((Int × (Int × (Int × Int))))) (v3 : List (Int)) (v4 : List (Int)) (v5 : List (Int)) : Option ((Int × List (Int) × List ((Int × (Int × (Int × Int)))) × List (Int) × List (Int) × List (Int)) ⊕ ((List (Int) × List ((Int × (Int × (Int × Int)))) × List (Int)))) :=
  (bif decide (v0 < (v3.length : Int)) then (bif decide (0 ≤ v0) then (bif decide (v0 < (v3.length : Int)) then (bif decide (0 ≤ v0) then (bif decide (v0 < (v4.length : Int)) then (bif decide (v5.length + ([(bif decide ((v4.getD v0.toNat (0 : Int)) > (v3.getD v0.toNat (0 : Int))) then (v4.getD v0.toNat (0 : Int)) else (v3.getD v0.toNat (0 : Int)))] : List (Int)).length < 17592186044416) then some (.inl ((IntKind.wrap .i64 (v0 + (1 : Int))), v1, v2, v3, v4, (v5 ++ ([(bif decide ((v4.getD v0.toNat (0 : Int)) > (v3.getD v0.toNat (0 : Int))) then (v4.getD v0.toNat (0 : Int)) else (v3.getD v0.toNat (0 : Int)))] : List (Int))))) else none) else none) else none) else none) else none) else some (.inr (v1, v2, v5)))
noncomputable def armplanlaw41_ProfileLattice.p0.step (s : Int × List (Int) × List ((Int × (Int × (Int × Int)))) × List (Int) × List (Int) × List (Int)) : Option ((Int × List (Int) × List ((Int × (Int × (Int × Int)))) × List (Int) × List (Int) × List (Int)) ⊕ ((List (Int) × List ((Int × (Int × (Int × Int)))) × List (Int)))) := armplanlaw41_ProfileLattice.p0.round s.1 s.2.1 s.2.2.1 s.2.2.2.1 s.2.2.2.2.1 s.2.2.2.2.2
noncomputable def armplanlaw41_ProfileLattice.p0.inS : Shape := ⟨[(7, .lf (.own 0)), (8, .lf (.own 1)), (9, .lf (.own 2)), (10, .lf (.own 3)), (11, .lf (.own 4)), (12, .lf (.sc (.int .i64)))], [.row 2 (.int .i64), .row 25 (.pair (.int .i64) (.pair (.int .i64) (.pair (.int .i64) (.int .i64)))), .row 2 (.int .i64), .row 2 (.int .i64), .row 2 (.int .i64)]⟩
noncomputable def armplanlaw41_ProfileLattice.p0.w0 : Way := { ex := (.ex 0), S := ⟨[(7, .lf (.own 0)), (8, .lf (.own 1)), (11, .lf (.own 2))], [.row 2 (.int .i64), .row 25 (.pair (.int .i64) (.pair (.int .i64) (.pair (.int .i64) (.int .i64)))), .row 2 (.int .i64)]⟩, R := List (Int) × List ((Int × (Int × (Int × Int)))) × List (Int), post := fun r => (((), ((), ((), ()))), (r.1, (r.2.1, (r.2.2, ())))), un := fun x => (x.2.1, x.2.2.1, x.2.2.2.1) }
noncomputable def armplanlaw41_ProfileLattice.p0.outs : List Way := [armplanlaw41_ProfileLattice.p0.w0]
noncomputable def armplanlaw41_ProfileLattice.p0.un (x : Tup armplanlaw41_ProfileLattice.p0.inS) : Int × List (Int) × List ((Int × (Int × (Int × Int)))) × List (Int) × List (Int) × List (Int) := (x.1.2.2.2.2.2.1, x.2.1, x.2.2.1, x.2.2.2.1, x.2.2.2.2.1, x.2.2.2.2.2.1)
noncomputable def armplanlaw41_ProfileLattice.p0.lp : LProc := { inS := armplanlaw41_ProfileLattice.p0.inS, outs := armplanlaw41_ProfileLattice.p0.outs, F := fun x => loopF armplanlaw41_ProfileLattice.p0.step (armplanlaw41_ProfileLattice.p0.un x) }
noncomputable def armplanlaw41_ProfileLattice.F0 (a0 : List (Int)) (a1 : List (Int)) (a2 : List (Int)) : Option (Bool) :=
  ((armplanmake_Limits.F a0).bind fun r1 => ((armplanlaw41_lowered.F r1.1 r1.2 a1).bind fun r2 => ((armplanlaw41_lowered.F r1.1 r1.2 a2).bind fun r3 => ((profile_Feasible.F r1.1 r1.2 r2).bind fun r4 => (bif (!r4) then ((armplanlaw41_awake.F ()).bind fun r5 => some r5) else ((profile_Feasible.F r1.1 r1.2 r3).bind fun r6 => (bif (!r6) then ((armplanlaw41_awake.F ()).bind fun r7 => some r7) else ((loopF armplanlaw41_ProfileLattice.p0.step ((0 : Int), r1.1, r1.2, r2, r3, ([] : List (Int)))).bind fun y8 => ((armplanlaw41_awake.F ()).bind fun r9 => (bif r9 then ((profile_Feasible.F y8.1 y8.2.1 y8.2.2).bind fun r10 => some r10) else some false))))))))))
noncomputable def armplanlaw41_ProfileLattice.F : (List (Int)) → (List (Int)) → (List (Int)) → Option (Bool) := lock armplanlaw41_ProfileLattice.F0
theorem armplanlaw41_ProfileLattice.F_eq : armplanlaw41_ProfileLattice.F = armplanlaw41_ProfileLattice.F0 := lock_eq _
noncomputable def armplanlaw41_ProfileLattice.p : Proc := { nargs := 3, inS := ⟨[(0, .lf (.dat (.int .i64))), (1, .lf (.dat (.int .i64))), (2, .lf (.dat (.int .i64)))], []⟩, outS := ⟨[(0, .lf (.sc .bool))], []⟩, n0 := 0, R := Bool, F := fun x => armplanlaw41_ProfileLattice.F x.1.1 x.1.2.1 x.1.2.2.1, post := fun r => ((r, ()), ()), un := fun x => x.1.1 }
noncomputable def armplanlaw41_ProfileLattice.E : Env := { P := Try.prog, ty := tyTab [(2, (.int .i64))], glob := glob0, proc := procTab [(15, armplanmake_Limits.p), (17, armplanlaw41_lowered.p), (18, profile_Feasible.p), (14, armplanlaw41_awake.p)], lproc := lprocTab [(0, armplanlaw41_ProfileLattice.p0.lp)], n0 := 0, ntmps := 64 }
theorem armplanlaw41_ProfileLattice.ok : ProcsOk armplanlaw41_ProfileLattice.E := AllSound.ok (l := [(15, armplanmake_Limits.p), (17, armplanlaw41_lowered.p), (18, profile_Feasible.p), (14, armplanlaw41_awake.p)]) (by kernel_rfl) rfl ⟨armplanmake_Limits.sound, armplanlaw41_lowered.sound, profile_Feasible.sound, armplanlaw41_awake.sound, trivial⟩
noncomputable def armplanlaw41_ProfileLattice.body0 : Code := (match Try.f4.body with | some c => c | none => .skip)
noncomputable def armplanlaw41_ProfileLattice.p0.c : Code := ((codeAt armplanlaw41_ProfileLattice.body0 [.r, .r, .r, .r, .r, .l, .r, .b, .b]).getD .skip)
noncomputable def armplanlaw41_ProfileLattice.p0.ann : Ann := .z
set_option maxRecDepth 100000 in
theorem armplanlaw41_ProfileLattice.p0.eq (x : Tup armplanlaw41_ProfileLattice.p0.inS) : peRound armplanlaw41_ProfileLattice.E armplanlaw41_ProfileLattice.p0.c armplanlaw41_ProfileLattice.p0.ann _ armplanlaw41_ProfileLattice.p0.inS armplanlaw41_ProfileLattice.p0.un armplanlaw41_ProfileLattice.p0.outs x = armplanlaw41_ProfileLattice.p0.step (armplanlaw41_ProfileLattice.p0.un x) := by
  kernel_rfl
set_option maxRecDepth 100000 in
theorem armplanlaw41_ProfileLattice.p0.sound : LProcSound armplanlaw41_ProfileLattice.E (.loop armplanlaw41_ProfileLattice.p0.c) armplanlaw41_ProfileLattice.p0.lp :=
  loop_sound (c := armplanlaw41_ProfileLattice.p0.c) (ann := armplanlaw41_ProfileLattice.p0.ann) armplanlaw41_ProfileLattice.ok ((SubsOk_z _ _) : SubsOk armplanlaw41_ProfileLattice.E armplanlaw41_ProfileLattice.p0.c armplanlaw41_ProfileLattice.p0.ann) (by intro a ha; simp only [armplanlaw41_ProfileLattice.p0.outs, List.mem_cons, List.not_mem_nil, or_false] at ha; rcases ha with rfl <;> exact fun _ => rfl) armplanlaw41_ProfileLattice.p0.eq
noncomputable def armplanlaw41_ProfileLattice.ann : Ann := .s (.z) (.s (.z) (.s (.z) (.s (.z) (.s (.z) (.s (.s (.z) (.b (.sub 0))) (.z))))))
set_option maxRecDepth 100000 in
theorem armplanlaw41_ProfileLattice.eq (x : Tup armplanlaw41_ProfileLattice.p.inS) : peFn armplanlaw41_ProfileLattice.E Try.f4 armplanlaw41_ProfileLattice.ann armplanlaw41_ProfileLattice.p x = armplanlaw41_ProfileLattice.p.F x := by
  have h : peFn armplanlaw41_ProfileLattice.E Try.f4 armplanlaw41_ProfileLattice.ann armplanlaw41_ProfileLattice.p x = armplanlaw41_ProfileLattice.F0 x.1.1 x.1.2.1 x.1.2.2.1 := by kernel_rfl
  exact h.trans (by show _ = armplanlaw41_ProfileLattice.F x.1.1 x.1.2.1 x.1.2.2.1; rw [armplanlaw41_ProfileLattice.F_eq])
set_option maxRecDepth 100000 in
theorem armplanlaw41_ProfileLattice.sound : ProcSound Try.prog glob0 4 armplanlaw41_ProfileLattice.p :=
  fn_sound (E := armplanlaw41_ProfileLattice.E) (c := armplanlaw41_ProfileLattice.body0) (ann := armplanlaw41_ProfileLattice.ann) armplanlaw41_ProfileLattice.ok Try.func4 (of_decide_eq_true (by kernel_rfl)) rfl rfl rfl (by decide +kernel) (⟨(SubsOk_z _ _), ⟨(SubsOk_z _ _), ⟨(SubsOk_z _ _), ⟨(SubsOk_z _ _), ⟨(SubsOk_z _ _), ⟨⟨(SubsOk_z _ _), (sub_of rfl armplanlaw41_ProfileLattice.p0.sound)⟩, (SubsOk_z _ _)⟩⟩⟩⟩⟩⟩ : SubsOk armplanlaw41_ProfileLattice.E armplanlaw41_ProfileLattice.body0 armplanlaw41_ProfileLattice.ann) (fun _ => rfl) rfl armplanlaw41_ProfileLattice.eq

end Go.Abs
