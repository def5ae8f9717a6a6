/- A part of the proof that the text with the row names: printed readings of functions, or plain lemmas about them. -/
import Derived.Test.YtceacicpjgffgaaC41GLProfileTop
set_option linter.unusedVariables false
set_option linter.unusedSimpArgs false
namespace Go.Abs
open Go Go.Proofs

/-! ### armplan/armplanlaw41.ProfileRamps: function 6 -/
noncomputable def armplanlaw41_ProfileRamps.p1.round (v0 : Int) (v1 : Int) (v2 : Int) (v3 : Int) (v4 : List (Int)) (v5 : List (Int)) : Option ((Int × Int × Int × Int × List (Int) × List (Int)) ⊕ ((Int × Int × Int × List (Int) × List (Int)))) :=
  (bif decide (v3 < (v4.length : Int)) then (bif decide (0 ≤ v3) then (bif decide (v3 < (v4.length : Int)) then some (.inl (v0, v1, (bif decide ((IntKind.wrap .i64 ((v4.getD v3.toNat (0 : Int)) + (IntKind.wrap .i64 (v0 * (bif decide ((IntKind.wrap .i64 (v3 - v1)) > (IntKind.wrap .i64 (v1 - v3))) then (IntKind.wrap .i64 (v3 - v1)) else (IntKind.wrap .i64 (v1 - v3))))))) < v2) then (IntKind.wrap .i64 ((v4.getD v3.toNat (0 : Int)) + (IntKind.wrap .i64 (v0 * (bif decide ((IntKind.wrap .i64 (v3 - v1)) > (IntKind.wrap .i64 (v1 - v3))) then (IntKind.wrap .i64 (v3 - v1)) else (IntKind.wrap .i64 (v1 - v3))))))) else v2), (IntKind.wrap .i64 (v3 + (1 : Int))), v4, v5)) else none) else none) else some (.inr (v0, v1, v2, v4, v5)))
noncomputable def armplanlaw41_ProfileRamps.p1.step (s : Int × Int × Int × Int × List (Int) × List (Int)) : Option ((Int × Int × Int × Int × List (Int) × List (Int)) ⊕ ((Int × Int × Int × List (Int) × List (Int)))) := armplanlaw41_ProfileRamps.p1.round s.1 s.2.1 s.2.2.1 s.2.2.2.1 s.2.2.2.2.1 s.2.2.2.2.2
noncomputable def armplanlaw41_ProfileRamps.p1.inS : Shape := ⟨[(5, .lf (.own 0)), (7, .lf (.sc (.int .i64))), (8, .lf (.own 1)), (11, .lf (.sc (.int .i64))), (12, .lf (.sc (.int .i64))), (13, .lf (.sc (.int .i64)))], [.row 2 (.int .i64), .row 2 (.int .i64)]⟩
noncomputable def armplanlaw41_ProfileRamps.p1.w0 : Way := { ex := (.ex 2), S := ⟨[(5, .lf (.own 0)), (7, .lf (.sc (.int .i64))), (8, .lf (.own 1)), (11, .lf (.sc (.int .i64))), (12, .lf (.sc (.int .i64)))], [.row 2 (.int .i64), .row 2 (.int .i64)]⟩, R := Int × Int × Int × List (Int) × List (Int), post := fun r => (((), (r.1, ((), (r.2.1, (r.2.2.1, ()))))), (r.2.2.2.1, (r.2.2.2.2, ()))), un := fun x => (x.1.2.1, x.1.2.2.2.1, x.1.2.2.2.2.1, x.2.1, x.2.2.1) }
noncomputable def armplanlaw41_ProfileRamps.p1.outs : List Way := [armplanlaw41_ProfileRamps.p1.w0]
noncomputable def armplanlaw41_ProfileRamps.p1.un (x : Tup armplanlaw41_ProfileRamps.p1.inS) : Int × Int × Int × Int × List (Int) × List (Int) := (x.1.2.1, x.1.2.2.2.1, x.1.2.2.2.2.1, x.1.2.2.2.2.2.1, x.2.1, x.2.2.1)
noncomputable def armplanlaw41_ProfileRamps.p1.lp : LProc := { inS := armplanlaw41_ProfileRamps.p1.inS, outs := armplanlaw41_ProfileRamps.p1.outs, F := fun x => loopF armplanlaw41_ProfileRamps.p1.step (armplanlaw41_ProfileRamps.p1.un x) }
noncomputable def armplanlaw41_ProfileRamps.p0.round (v0 : Int) (v1 : Int) (v2 : List (Int)) (v3 : List (Int)) : Option ((Int × Int × List (Int) × List (Int)) ⊕ ((Bool) ⊕ (Unit))) :=
  (bif decide (v1 < (v2.length : Int)) then (bif decide (0 ≤ v1) then (bif decide (v1 < (v2.length : Int)) then ((loopF armplanlaw41_ProfileRamps.p1.step (v0, v1, (v2.getD v1.toNat (0 : Int)), (0 : Int), v2, v3)).bind fun y6 => (bif decide (0 ≤ y6.2.1) then (bif decide (y6.2.1 < (y6.2.2.2.2.length : Int)) then (bif ((y6.2.2.2.2.getD y6.2.1.toNat (0 : Int)) != y6.2.2.1) then some (.inr (.inl false)) else some (.inl (y6.1, (IntKind.wrap .i64 (y6.2.1 + (1 : Int))), y6.2.2.2.1, y6.2.2.2.2))) else none) else none)) else none) else none) else some (.inr (.inr ())))
noncomputable def armplanlaw41_ProfileRamps.p0.step (s : Int × Int × List (Int) × List (Int)) : Option ((Int × Int × List (Int) × List (Int)) ⊕ ((Bool) ⊕ (Unit))) := armplanlaw41_ProfileRamps.p0.round s.1 s.2.1 s.2.2.1 s.2.2.2
noncomputable def armplanlaw41_ProfileRamps.p0.inS : Shape := ⟨[(5, .lf (.own 0)), (7, .lf (.sc (.int .i64))), (8, .lf (.own 1)), (11, .lf (.sc (.int .i64)))], [.row 2 (.int .i64), .row 2 (.int .i64)]⟩
noncomputable def armplanlaw41_ProfileRamps.p0.w0 : Way := { ex := .rt, S := ⟨[(4, .lf (.sc .bool))], []⟩, R := Bool, post := fun r => ((r, ()), ()), un := fun x => x.1.1 }
noncomputable def armplanlaw41_ProfileRamps.p0.w1 : Way := { ex := (.ex 0), S := ⟨[], []⟩, R := Unit, post := fun r => ((), ()), un := fun x => () }
noncomputable def armplanlaw41_ProfileRamps.p0.outs : List Way := [armplanlaw41_ProfileRamps.p0.w0, armplanlaw41_ProfileRamps.p0.w1]
noncomputable def armplanlaw41_ProfileRamps.p0.un (x : Tup armplanlaw41_ProfileRamps.p0.inS) : Int × Int × List (Int) × List (Int) := (x.1.2.1, x.1.2.2.2.1, x.2.1, x.2.2.1)
noncomputable def armplanlaw41_ProfileRamps.p0.lp : LProc := { inS := armplanlaw41_ProfileRamps.p0.inS, outs := armplanlaw41_ProfileRamps.p0.outs, F := fun x => loopF armplanlaw41_ProfileRamps.p0.step (armplanlaw41_ProfileRamps.p0.un x) }
noncomputable def armplanlaw41_ProfileRamps.F0 (a0 : List (Int)) (a1 : Int) : Option (Bool) :=
  ((armplanmake_Limits.F a0).bind fun r1 => ((armplanmake_Round.F a1 (12 : Int)).bind fun r2 => ((armplanlaw41_ramps.F (r1.1.length : Int) r2).bind fun r3 => ((profile_Greatest.F r1.1 r3).bind fun r4 => (bif (!r4.1) then some false else (bif ((r4.2.1.length : Int) != (r1.1.length : Int)) then some false else ((loopF armplanlaw41_ProfileRamps.p0.step (r2, (0 : Int), r1.1, r4.2.1)).bind fun y7 => (Sum.elim (fun y8 => some y8) (fun z9 => ((armplanlaw41_awake.F ()).bind fun r10 => some r10)) y7))))))))
noncomputable def armplanlaw41_ProfileRamps.F : (List (Int)) → Int → Option (Bool) := lock armplanlaw41_ProfileRamps.F0
theorem armplanlaw41_ProfileRamps.F_eq : armplanlaw41_ProfileRamps.F = armplanlaw41_ProfileRamps.F0 := lock_eq _
noncomputable def armplanlaw41_ProfileRamps.p : Proc := { nargs := 2, inS := ⟨[(0, .lf (.dat (.int .i64))), (1, .lf (.sc (.int .i64)))], []⟩, outS := ⟨[(0, .lf (.sc .bool))], []⟩, n0 := 0, R := Bool, F := fun x => armplanlaw41_ProfileRamps.F x.1.1 x.1.2.1, post := fun r => ((r, ()), ()), un := fun x => x.1.1 }
noncomputable def armplanlaw41_ProfileRamps.E : Env := { P := Try.prog, ty := tyTab [], glob := glob0, proc := procTab [(15, armplanmake_Limits.p), (22, armplanmake_Round.p), (23, armplanlaw41_ramps.p), (19, profile_Greatest.p), (14, armplanlaw41_awake.p)], lproc := lprocTab [(0, armplanlaw41_ProfileRamps.p0.lp), (1, armplanlaw41_ProfileRamps.p1.lp)], n0 := 0, ntmps := 79 }
theorem armplanlaw41_ProfileRamps.ok : ProcsOk armplanlaw41_ProfileRamps.E := AllSound.ok (l := [(15, armplanmake_Limits.p), (22, armplanmake_Round.p), (23, armplanlaw41_ramps.p), (19, profile_Greatest.p), (14, armplanlaw41_awake.p)]) (by kernel_rfl) rfl ⟨armplanmake_Limits.sound, armplanmake_Round.sound, armplanlaw41_ramps.sound, profile_Greatest.sound, armplanlaw41_awake.sound, trivial⟩
noncomputable def armplanlaw41_ProfileRamps.body0 : Code := (match Try.f6.body with | some c => c | none => .skip)
noncomputable def armplanlaw41_ProfileRamps.p1.c : Code := ((codeAt armplanlaw41_ProfileRamps.body0 [.r, .r, .r, .r, .r, .l, .r, .b, .b, .r, .l, .b, .r, .l, .r, .b, .b]).getD .skip)
noncomputable def armplanlaw41_ProfileRamps.p1.ann : Ann := .z
set_option maxRecDepth 100000 in
theorem armplanlaw41_ProfileRamps.p1.eq (x : Tup armplanlaw41_ProfileRamps.p1.inS) : peRound armplanlaw41_ProfileRamps.E armplanlaw41_ProfileRamps.p1.c armplanlaw41_ProfileRamps.p1.ann _ armplanlaw41_ProfileRamps.p1.inS armplanlaw41_ProfileRamps.p1.un armplanlaw41_ProfileRamps.p1.outs x = armplanlaw41_ProfileRamps.p1.step (armplanlaw41_ProfileRamps.p1.un x) := by
  kernel_rfl
set_option maxRecDepth 100000 in
theorem armplanlaw41_ProfileRamps.p1.sound : LProcSound armplanlaw41_ProfileRamps.E (.loop armplanlaw41_ProfileRamps.p1.c) armplanlaw41_ProfileRamps.p1.lp :=
  loop_sound (c := armplanlaw41_ProfileRamps.p1.c) (ann := armplanlaw41_ProfileRamps.p1.ann) armplanlaw41_ProfileRamps.ok ((SubsOk_z _ _) : SubsOk armplanlaw41_ProfileRamps.E armplanlaw41_ProfileRamps.p1.c armplanlaw41_ProfileRamps.p1.ann) (by intro a ha; simp only [armplanlaw41_ProfileRamps.p1.outs, List.mem_cons, List.not_mem_nil, or_false] at ha; rcases ha with rfl <;> exact fun _ => rfl) armplanlaw41_ProfileRamps.p1.eq
noncomputable def armplanlaw41_ProfileRamps.p0.c : Code := ((codeAt armplanlaw41_ProfileRamps.body0 [.r, .r, .r, .r, .r, .l, .r, .b, .b]).getD .skip)
noncomputable def armplanlaw41_ProfileRamps.p0.ann : Ann := .s (.z) (.s (.b (.s (.z) (.s (.s (.z) (.b (.sub 1))) (.z)))) (.z))
set_option maxRecDepth 100000 in
theorem armplanlaw41_ProfileRamps.p0.eq (x : Tup armplanlaw41_ProfileRamps.p0.inS) : peRound armplanlaw41_ProfileRamps.E armplanlaw41_ProfileRamps.p0.c armplanlaw41_ProfileRamps.p0.ann _ armplanlaw41_ProfileRamps.p0.inS armplanlaw41_ProfileRamps.p0.un armplanlaw41_ProfileRamps.p0.outs x = armplanlaw41_ProfileRamps.p0.step (armplanlaw41_ProfileRamps.p0.un x) := by
  kernel_rfl
set_option maxRecDepth 100000 in
theorem armplanlaw41_ProfileRamps.p0.sound : LProcSound armplanlaw41_ProfileRamps.E (.loop armplanlaw41_ProfileRamps.p0.c) armplanlaw41_ProfileRamps.p0.lp :=
  loop_sound (c := armplanlaw41_ProfileRamps.p0.c) (ann := armplanlaw41_ProfileRamps.p0.ann) armplanlaw41_ProfileRamps.ok (⟨(SubsOk_z _ _), ⟨⟨(SubsOk_z _ _), ⟨⟨(SubsOk_z _ _), (sub_of rfl armplanlaw41_ProfileRamps.p1.sound)⟩, (SubsOk_z _ _)⟩⟩, (SubsOk_z _ _)⟩⟩ : SubsOk armplanlaw41_ProfileRamps.E armplanlaw41_ProfileRamps.p0.c armplanlaw41_ProfileRamps.p0.ann) (by intro a ha; simp only [armplanlaw41_ProfileRamps.p0.outs, List.mem_cons, List.not_mem_nil, or_false] at ha; rcases ha with rfl | rfl <;> exact fun _ => rfl) armplanlaw41_ProfileRamps.p0.eq
noncomputable def armplanlaw41_ProfileRamps.ann : Ann := .s (.z) (.s (.z) (.s (.z) (.s (.z) (.s (.z) (.s (.s (.z) (.b (.sub 0))) (.z))))))
set_option maxRecDepth 100000 in
theorem armplanlaw41_ProfileRamps.eq (x : Tup armplanlaw41_ProfileRamps.p.inS) : peFn armplanlaw41_ProfileRamps.E Try.f6 armplanlaw41_ProfileRamps.ann armplanlaw41_ProfileRamps.p x = armplanlaw41_ProfileRamps.p.F x := by
  have h : peFn armplanlaw41_ProfileRamps.E Try.f6 armplanlaw41_ProfileRamps.ann armplanlaw41_ProfileRamps.p x = armplanlaw41_ProfileRamps.F0 x.1.1 x.1.2.1 := by kernel_rfl
  exact h.trans (by show _ = armplanlaw41_ProfileRamps.F x.1.1 x.1.2.1; rw [armplanlaw41_ProfileRamps.F_eq])
set_option maxRecDepth 100000 in
theorem armplanlaw41_ProfileRamps.sound : ProcSound Try.prog glob0 6 armplanlaw41_ProfileRamps.p :=
  fn_sound (E := armplanlaw41_ProfileRamps.E) (c := armplanlaw41_ProfileRamps.body0) (ann := armplanlaw41_ProfileRamps.ann) armplanlaw41_ProfileRamps.ok Try.func6 (of_decide_eq_true (by kernel_rfl)) rfl rfl rfl (by decide +kernel) (⟨(SubsOk_z _ _), ⟨(SubsOk_z _ _), ⟨(SubsOk_z _ _), ⟨(SubsOk_z _ _), ⟨(SubsOk_z _ _), ⟨⟨(SubsOk_z _ _), (sub_of rfl armplanlaw41_ProfileRamps.p0.sound)⟩, (SubsOk_z _ _)⟩⟩⟩⟩⟩⟩ : SubsOk armplanlaw41_ProfileRamps.E armplanlaw41_ProfileRamps.body0 armplanlaw41_ProfileRamps.ann) (fun _ => rfl) rfl armplanlaw41_ProfileRamps.eq

end Go.Abs
