/- A part of the proof that the text with the row names: printed readings of functions, or plain lemmas about them. -/
import Derived.Test.YtceacicpjgffgaaC41G
set_option linter.unusedVariables false
set_option linter.unusedSimpArgs false
namespace Go.Abs
open Go Go.Proofs

/-! ### armplan/armplanref40.Proves: function 55 -/
noncomputable def armplanref40_Proves.F0 (a0 : List (Int)) (a1 : List ((Int × (Int × (Int × Int))))) (a2 : List (Int)) (a3 : List (Int)) : Option (Bool) :=
  ((armplanref40_Replay.F a0 a1 a3).bind fun r1 => (bif r1.1 then ((armplanref40_Feasible.F a0 a1 a2).bind fun r2 => (bif r2 then ((armplanref19_SameNumbers.F a2 r1.2).bind fun r3 => some r3) else some false)) else some false))
noncomputable def armplanref40_Proves.F : (List (Int)) → (List ((Int × (Int × (Int × Int))))) → (List (Int)) → (List (Int)) → Option (Bool) := lock armplanref40_Proves.F0
theorem armplanref40_Proves.F_eq : armplanref40_Proves.F = armplanref40_Proves.F0 := lock_eq _
noncomputable def armplanref40_Proves.p : Proc := { nargs := 4, inS := ⟨[(0, .lf (.dat (.int .i64))), (1, .lf (.dat (.pair (.int .i64) (.pair (.int .i64) (.pair (.int .i64) (.int .i64)))))), (2, .lf (.dat (.int .i64))), (3, .lf (.dat (.int .i64)))], []⟩, outS := ⟨[(0, .lf (.sc .bool))], []⟩, n0 := 0, R := Bool, F := fun x => armplanref40_Proves.F x.1.1 x.1.2.1 x.1.2.2.1 x.1.2.2.2.1, post := fun r => ((r, ()), ()), un := fun x => x.1.1 }
noncomputable def armplanref40_Proves.E : Env := { P := Try.prog, ty := tyTab [], glob := glob0, proc := procTab [(54, armplanref40_Replay.p), (20, armplanref40_Feasible.p), (74, armplanref19_SameNumbers.p)], lproc := lprocTab [], n0 := 0, ntmps := 30 }
theorem armplanref40_Proves.ok : ProcsOk armplanref40_Proves.E := AllSound.ok (l := [(54, armplanref40_Replay.p), (20, armplanref40_Feasible.p), (74, armplanref19_SameNumbers.p)]) (by kernel_rfl) rfl ⟨armplanref40_Replay.sound, armplanref40_Feasible.sound, armplanref19_SameNumbers.sound, trivial⟩
noncomputable def armplanref40_Proves.body0 : Code := (match Try.f55.body with | some c => c | none => .skip)
noncomputable def armplanref40_Proves.ann : Ann := .z
set_option maxRecDepth 100000 in
theorem armplanref40_Proves.eq (x : Tup armplanref40_Proves.p.inS) : peFn armplanref40_Proves.E Try.f55 armplanref40_Proves.ann armplanref40_Proves.p x = armplanref40_Proves.p.F x := by
  have h : peFn armplanref40_Proves.E Try.f55 armplanref40_Proves.ann armplanref40_Proves.p x = armplanref40_Proves.F0 x.1.1 x.1.2.1 x.1.2.2.1 x.1.2.2.2.1 := by kernel_rfl
  exact h.trans (by show _ = armplanref40_Proves.F x.1.1 x.1.2.1 x.1.2.2.1 x.1.2.2.2.1; rw [armplanref40_Proves.F_eq])
set_option maxRecDepth 100000 in
theorem armplanref40_Proves.sound : ProcSound Try.prog glob0 55 armplanref40_Proves.p :=
  fn_sound (E := armplanref40_Proves.E) (c := armplanref40_Proves.body0) (ann := armplanref40_Proves.ann) armplanref40_Proves.ok Try.func55 (of_decide_eq_true (by kernel_rfl)) rfl rfl rfl (by decide +kernel) ((SubsOk_z _ _) : SubsOk armplanref40_Proves.E armplanref40_Proves.body0 armplanref40_Proves.ann) (fun _ => rfl) rfl armplanref40_Proves.eq

/-! ### armplan/armplanlaw41.lowered: function 17 -/
noncomputable def armplanlaw41_lowered.p0.round (v0 : List (Int)) (v1 : List ((Int × (Int × (Int × Int))))) (v2 : Int) (v3 : List (Int)) : Option ((List (Int) × List ((Int × (Int × (Int × Int)))) × Int × List (Int)) ⊕ ((List ((Int × (Int × (Int × Int)))) × List (Int)))) :=
  (bif decide (v2 < (v3.length : Int)) then (bif decide (0 ≤ v2) then (bif decide (v2 < (v3.length : Int)) then (bif decide (0 ≤ v2) then (bif decide (v2 < (v0.length : Int)) then (bif decide (0 ≤ v2) then (bif decide (v2 < (v3.length : Int)) then some (.inl (v0, v1, (IntKind.wrap .i64 (v2 + (1 : Int))), (v3.set v2.toNat (bif decide ((v0.getD v2.toNat (0 : Int)) < (v3.getD v2.toNat (0 : Int))) then (v0.getD v2.toNat (0 : Int)) else (v3.getD v2.toNat (0 : Int)))))) else none) else none) else none) else none) else none) else none) else some (.inr (v1, v3)))
noncomputable def armplanlaw41_lowered.p0.step (s : List (Int) × List ((Int × (Int × (Int × Int)))) × Int × List (Int)) : Option ((List (Int) × List ((Int × (Int × (Int × Int)))) × Int × List (Int)) ⊕ ((List ((Int × (Int × (Int × Int)))) × List (Int)))) := armplanlaw41_lowered.p0.round s.1 s.2.1 s.2.2.1 s.2.2.2
noncomputable def armplanlaw41_lowered.p0.inS : Shape := ⟨[(0, .lf (.dat (.int .i64))), (1, .lf (.dat (.pair (.int .i64) (.pair (.int .i64) (.pair (.int .i64) (.int .i64)))))), (7, .lf (.own 0)), (8, .lf (.sc (.int .i64)))], [.row 2 (.int .i64)]⟩
noncomputable def armplanlaw41_lowered.p0.w0 : Way := { ex := (.ex 0), S := ⟨[(1, .lf (.dat (.pair (.int .i64) (.pair (.int .i64) (.pair (.int .i64) (.int .i64)))))), (7, .lf (.own 0))], [.row 2 (.int .i64)]⟩, R := List ((Int × (Int × (Int × Int)))) × List (Int), post := fun r => ((r.1, ((), ())), (r.2, ())), un := fun x => (x.1.1, x.2.1) }
noncomputable def armplanlaw41_lowered.p0.outs : List Way := [armplanlaw41_lowered.p0.w0]
noncomputable def armplanlaw41_lowered.p0.un (x : Tup armplanlaw41_lowered.p0.inS) : List (Int) × List ((Int × (Int × (Int × Int)))) × Int × List (Int) := (x.1.1, x.1.2.1, x.1.2.2.2.1, x.2.1)
noncomputable def armplanlaw41_lowered.p0.lp : LProc := { inS := armplanlaw41_lowered.p0.inS, outs := armplanlaw41_lowered.p0.outs, F := fun x => loopF armplanlaw41_lowered.p0.step (armplanlaw41_lowered.p0.un x) }
noncomputable def armplanlaw41_lowered.F0 (a0 : List (Int)) (a1 : List ((Int × (Int × (Int × Int))))) (a2 : List (Int)) : Option (List (Int)) :=
  ((armplanlaw41_levels.F a0 a2).bind fun r1 => ((loopF armplanlaw41_lowered.p0.step (a0, a1, (0 : Int), r1)).bind fun y2 => ((armplanref40_Greatest.F y2.2 y2.1).bind fun r3 => (bif r3.1 then some r3.2.1 else some y2.2))))
noncomputable def armplanlaw41_lowered.F : (List (Int)) → (List ((Int × (Int × (Int × Int))))) → (List (Int)) → Option (List (Int)) := lock armplanlaw41_lowered.F0
theorem armplanlaw41_lowered.F_eq : armplanlaw41_lowered.F = armplanlaw41_lowered.F0 := lock_eq _
noncomputable def armplanlaw41_lowered.p : Proc := { nargs := 3, inS := ⟨[(0, .lf (.dat (.int .i64))), (1, .lf (.dat (.pair (.int .i64) (.pair (.int .i64) (.pair (.int .i64) (.int .i64)))))), (2, .lf (.dat (.int .i64)))], []⟩, outS := ⟨[(0, .lf (.own 0))], [.row 2 (.int .i64)]⟩, n0 := 0, R := List (Int), F := fun x => armplanlaw41_lowered.F x.1.1 x.1.2.1 x.1.2.2.1, post := fun r => (((), ()), (r, ())), un := fun x => x.2.1 }
noncomputable def armplanlaw41_lowered.E : Env := { P := Try.prog, ty := tyTab [], glob := glob0, proc := procTab [(21, armplanlaw41_levels.p), (25, armplanref40_Greatest.p)], lproc := lprocTab [(0, armplanlaw41_lowered.p0.lp)], n0 := 0, ntmps := 43 }
theorem armplanlaw41_lowered.ok : ProcsOk armplanlaw41_lowered.E := AllSound.ok (l := [(21, armplanlaw41_levels.p), (25, armplanref40_Greatest.p)]) (by kernel_rfl) rfl ⟨armplanlaw41_levels.sound, armplanref40_Greatest.sound, trivial⟩
noncomputable def armplanlaw41_lowered.body0 : Code := (match Try.f17.body with | some c => c | none => .skip)
noncomputable def armplanlaw41_lowered.p0.c : Code := ((codeAt armplanlaw41_lowered.body0 [.r, .r, .l, .r, .b, .b]).getD .skip)
noncomputable def armplanlaw41_lowered.p0.ann : Ann := .z
set_option maxRecDepth 100000 in
theorem armplanlaw41_lowered.p0.eq (x : Tup armplanlaw41_lowered.p0.inS) : peRound armplanlaw41_lowered.E armplanlaw41_lowered.p0.c armplanlaw41_lowered.p0.ann _ armplanlaw41_lowered.p0.inS armplanlaw41_lowered.p0.un armplanlaw41_lowered.p0.outs x = armplanlaw41_lowered.p0.step (armplanlaw41_lowered.p0.un x) := by
  kernel_rfl
set_option maxRecDepth 100000 in
theorem armplanlaw41_lowered.p0.sound : LProcSound armplanlaw41_lowered.E (.loop armplanlaw41_lowered.p0.c) armplanlaw41_lowered.p0.lp :=
  loop_sound (c := armplanlaw41_lowered.p0.c) (ann := armplanlaw41_lowered.p0.ann) armplanlaw41_lowered.ok ((SubsOk_z _ _) : SubsOk armplanlaw41_lowered.E armplanlaw41_lowered.p0.c armplanlaw41_lowered.p0.ann) (by intro a ha; simp only [armplanlaw41_lowered.p0.outs, List.mem_cons, List.not_mem_nil, or_false] at ha; rcases ha with rfl <;> exact fun _ => rfl) armplanlaw41_lowered.p0.eq
noncomputable def armplanlaw41_lowered.ann : Ann := .s (.z) (.s (.z) (.s (.s (.z) (.b (.sub 0))) (.z)))
set_option maxRecDepth 100000 in
theorem armplanlaw41_lowered.eq (x : Tup armplanlaw41_lowered.p.inS) : peFn armplanlaw41_lowered.E Try.f17 armplanlaw41_lowered.ann armplanlaw41_lowered.p x = armplanlaw41_lowered.p.F x := by
  have h : peFn armplanlaw41_lowered.E Try.f17 armplanlaw41_lowered.ann armplanlaw41_lowered.p x = armplanlaw41_lowered.F0 x.1.1 x.1.2.1 x.1.2.2.1 := by kernel_rfl
  exact h.trans (by show _ = armplanlaw41_lowered.F x.1.1 x.1.2.1 x.1.2.2.1; rw [armplanlaw41_lowered.F_eq])
set_option maxRecDepth 100000 in
theorem armplanlaw41_lowered.sound : ProcSound Try.prog glob0 17 armplanlaw41_lowered.p :=
  fn_sound (E := armplanlaw41_lowered.E) (c := armplanlaw41_lowered.body0) (ann := armplanlaw41_lowered.ann) armplanlaw41_lowered.ok Try.func17 (of_decide_eq_true (by kernel_rfl)) rfl rfl rfl (by decide +kernel) (⟨(SubsOk_z _ _), ⟨(SubsOk_z _ _), ⟨⟨(SubsOk_z _ _), (sub_of rfl armplanlaw41_lowered.p0.sound)⟩, (SubsOk_z _ _)⟩⟩⟩ : SubsOk armplanlaw41_lowered.E armplanlaw41_lowered.body0 armplanlaw41_lowered.ann) (fun _ => rfl) rfl armplanlaw41_lowered.eq

/-! ### armplan/profile.Feasible$1: function 42 -/
noncomputable def profile_Feasible_1.F0 (a0 : Int) (a1 : Int) (a2 : Int) (a3 : Int) (a4 : List (Int)) : Option (Bool × List (Int)) :=
  ((profile_satisfied.F a0 a1 a2 a3 a4).bind fun r1 => some ((!r1), a4))
noncomputable def profile_Feasible_1.F : Int → Int → Int → Int → (List (Int)) → Option (Bool × List (Int)) := lock profile_Feasible_1.F0
theorem profile_Feasible_1.F_eq : profile_Feasible_1.F = profile_Feasible_1.F0 := lock_eq _
noncomputable def profile_Feasible_1.p : Proc := { nargs := 2, inS := ⟨[(0, .ag [.sc (.int .i64), .sc (.int .i64), .sc (.int .i64), .sc (.int .i64)]), (1, .lf (.bp 0 0))], [.box [.dat (.int .i64)]]⟩, outS := ⟨[(0, .lf (.sc .bool))], [.box [.dat (.int .i64)]]⟩, n0 := 1, R := Bool × List (Int), F := fun x => profile_Feasible_1.F x.1.1.1 x.1.1.2.1 x.1.1.2.2.1 x.1.1.2.2.2.1 x.2.1.1, post := fun r => ((r.1, ()), ((r.2, ()), ())), un := fun x => (x.1.1, x.2.1.1) }
noncomputable def profile_Feasible_1.E : Env := { P := Try.prog, ty := tyTab [], glob := glob0, proc := procTab [(43, profile_satisfied.p)], lproc := lprocTab [], n0 := 1, ntmps := 8 }
theorem profile_Feasible_1.ok : ProcsOk profile_Feasible_1.E := AllSound.ok (l := [(43, profile_satisfied.p)]) (by kernel_rfl) rfl ⟨profile_satisfied.sound, trivial⟩
noncomputable def profile_Feasible_1.body0 : Code := (match Try.f42.body with | some c => c | none => .skip)
noncomputable def profile_Feasible_1.ann : Ann := .z
set_option maxRecDepth 100000 in
theorem profile_Feasible_1.eq (x : Tup profile_Feasible_1.p.inS) : peFn profile_Feasible_1.E Try.f42 profile_Feasible_1.ann profile_Feasible_1.p x = profile_Feasible_1.p.F x := by
  have h : peFn profile_Feasible_1.E Try.f42 profile_Feasible_1.ann profile_Feasible_1.p x = profile_Feasible_1.F0 x.1.1.1 x.1.1.2.1 x.1.1.2.2.1 x.1.1.2.2.2.1 x.2.1.1 := by kernel_rfl
  exact h.trans (by show _ = profile_Feasible_1.F x.1.1.1 x.1.1.2.1 x.1.1.2.2.1 x.1.1.2.2.2.1 x.2.1.1; rw [profile_Feasible_1.F_eq])
set_option maxRecDepth 100000 in
theorem profile_Feasible_1.sound : ProcSound Try.prog glob0 42 profile_Feasible_1.p :=
  fn_sound (E := profile_Feasible_1.E) (c := profile_Feasible_1.body0) (ann := profile_Feasible_1.ann) profile_Feasible_1.ok Try.func42 (of_decide_eq_true (by kernel_rfl)) rfl rfl rfl (by decide +kernel) ((SubsOk_z _ _) : SubsOk profile_Feasible_1.E profile_Feasible_1.body0 profile_Feasible_1.ann) (fun _ => rfl) rfl profile_Feasible_1.eq

/-! ### slices.IndexFunc[[]armplan/api.Row,armplan/api.Row]: function 66 -/
noncomputable def slices_IndexFunc_Row__profile_Feasible_1.p0.round (v0 : List ((Int × (Int × (Int × Int))))) (v1 : Int) (v2 : Int) (v3 : List (Int)) : Option ((List ((Int × (Int × (Int × Int)))) × Int × Int × List (Int)) ⊕ ((Int × List (Int)) ⊕ (List (Int)))) :=
  (bif decide (v2 < v1) then (bif decide (0 ≤ v2) then (bif decide (v2 < (v0.length : Int)) then ((profile_Feasible_1.F (v0.getD v2.toNat ((0 : Int), ((0 : Int), ((0 : Int), (0 : Int))))).1 ((v0.getD v2.toNat ((0 : Int), ((0 : Int), ((0 : Int), (0 : Int))))).2).1 (((v0.getD v2.toNat ((0 : Int), ((0 : Int), ((0 : Int), (0 : Int))))).2).2).1 (((v0.getD v2.toNat ((0 : Int), ((0 : Int), ((0 : Int), (0 : Int))))).2).2).2 v3).bind fun r2 => (bif r2.1 then some (.inr (.inl (v2, r2.2))) else some (.inl (v0, v1, (IntKind.wrap .i64 (v2 + (1 : Int))), r2.2)))) else none) else none) else some (.inr (.inr v3)))
noncomputable def slices_IndexFunc_Row__profile_Feasible_1.p0.step (s : List ((Int × (Int × (Int × Int)))) × Int × Int × List (Int)) : Option ((List ((Int × (Int × (Int × Int)))) × Int × Int × List (Int)) ⊕ ((Int × List (Int)) ⊕ (List (Int)))) := slices_IndexFunc_Row__profile_Feasible_1.p0.round s.1 s.2.1 s.2.2.1 s.2.2.2
noncomputable def slices_IndexFunc_Row__profile_Feasible_1.p0.inS : Shape := ⟨[(0, .lf (.dat (.pair (.int .i64) (.pair (.int .i64) (.pair (.int .i64) (.int .i64)))))), (1, .lf (.fn 42 [0])), (7, .lf (.sc (.int .i64))), (8, .lf (.sc (.int .i64)))], [.box [.dat (.int .i64)]]⟩
noncomputable def slices_IndexFunc_Row__profile_Feasible_1.p0.w0 : Way := { ex := .rt, S := ⟨[(4, .lf (.sc (.int .i64)))], [.box [.dat (.int .i64)]]⟩, R := Int × List (Int), post := fun r => ((r.1, ()), ((r.2, ()), ())), un := fun x => (x.1.1, x.2.1.1) }
noncomputable def slices_IndexFunc_Row__profile_Feasible_1.p0.w1 : Way := { ex := (.ex 0), S := ⟨[], [.box [.dat (.int .i64)]]⟩, R := List (Int), post := fun r => ((), ((r, ()), ())), un := fun x => x.2.1.1 }
noncomputable def slices_IndexFunc_Row__profile_Feasible_1.p0.outs : List Way := [slices_IndexFunc_Row__profile_Feasible_1.p0.w0, slices_IndexFunc_Row__profile_Feasible_1.p0.w1]
noncomputable def slices_IndexFunc_Row__profile_Feasible_1.p0.un (x : Tup slices_IndexFunc_Row__profile_Feasible_1.p0.inS) : List ((Int × (Int × (Int × Int)))) × Int × Int × List (Int) := (x.1.1, x.1.2.2.1, x.1.2.2.2.1, x.2.1.1)
noncomputable def slices_IndexFunc_Row__profile_Feasible_1.p0.lp : LProc := { inS := slices_IndexFunc_Row__profile_Feasible_1.p0.inS, outs := slices_IndexFunc_Row__profile_Feasible_1.p0.outs, F := fun x => loopF slices_IndexFunc_Row__profile_Feasible_1.p0.step (slices_IndexFunc_Row__profile_Feasible_1.p0.un x) }
noncomputable def slices_IndexFunc_Row__profile_Feasible_1.F0 (a0 : List ((Int × (Int × (Int × Int))))) (a1 : List (Int)) : Option (Int × List (Int)) :=
  ((loopF slices_IndexFunc_Row__profile_Feasible_1.p0.step (a0, (a0.length : Int), (0 : Int), a1)).bind fun y3 => (Sum.elim (fun y4 => some (y4.1, y4.2)) (fun z5 => some ((-1 : Int), z5)) y3))
noncomputable def slices_IndexFunc_Row__profile_Feasible_1.F : (List ((Int × (Int × (Int × Int))))) → (List (Int)) → Option (Int × List (Int)) := lock slices_IndexFunc_Row__profile_Feasible_1.F0
theorem slices_IndexFunc_Row__profile_Feasible_1.F_eq : slices_IndexFunc_Row__profile_Feasible_1.F = slices_IndexFunc_Row__profile_Feasible_1.F0 := lock_eq _
noncomputable def slices_IndexFunc_Row__profile_Feasible_1.p : Proc := { nargs := 2, inS := ⟨[(0, .lf (.dat (.pair (.int .i64) (.pair (.int .i64) (.pair (.int .i64) (.int .i64)))))), (1, .lf (.fn 42 [0]))], [.box [.dat (.int .i64)]]⟩, outS := ⟨[(0, .lf (.sc (.int .i64)))], [.box [.dat (.int .i64)]]⟩, n0 := 1, R := Int × List (Int), F := fun x => slices_IndexFunc_Row__profile_Feasible_1.F x.1.1 x.2.1.1, post := fun r => ((r.1, ()), ((r.2, ()), ())), un := fun x => (x.1.1, x.2.1.1) }
noncomputable def slices_IndexFunc_Row__profile_Feasible_1.E : Env := { P := Try.prog, ty := tyTab [], glob := glob0, proc := procTab [(42, profile_Feasible_1.p)], lproc := lprocTab [(0, slices_IndexFunc_Row__profile_Feasible_1.p0.lp)], n0 := 1, ntmps := 19 }
theorem slices_IndexFunc_Row__profile_Feasible_1.ok : ProcsOk slices_IndexFunc_Row__profile_Feasible_1.E := AllSound.ok (l := [(42, profile_Feasible_1.p)]) (by kernel_rfl) rfl ⟨profile_Feasible_1.sound, trivial⟩
noncomputable def slices_IndexFunc_Row__profile_Feasible_1.body0 : Code := (match Try.f66.body with | some c => c | none => .skip)
noncomputable def slices_IndexFunc_Row__profile_Feasible_1.p0.c : Code := ((codeAt slices_IndexFunc_Row__profile_Feasible_1.body0 [.r, .l, .r, .b, .b]).getD .skip)
noncomputable def slices_IndexFunc_Row__profile_Feasible_1.p0.ann : Ann := .z
set_option maxRecDepth 100000 in
theorem slices_IndexFunc_Row__profile_Feasible_1.p0.eq (x : Tup slices_IndexFunc_Row__profile_Feasible_1.p0.inS) : peRound slices_IndexFunc_Row__profile_Feasible_1.E slices_IndexFunc_Row__profile_Feasible_1.p0.c slices_IndexFunc_Row__profile_Feasible_1.p0.ann _ slices_IndexFunc_Row__profile_Feasible_1.p0.inS slices_IndexFunc_Row__profile_Feasible_1.p0.un slices_IndexFunc_Row__profile_Feasible_1.p0.outs x = slices_IndexFunc_Row__profile_Feasible_1.p0.step (slices_IndexFunc_Row__profile_Feasible_1.p0.un x) := by
  kernel_rfl
set_option maxRecDepth 100000 in
theorem slices_IndexFunc_Row__profile_Feasible_1.p0.sound : LProcSound slices_IndexFunc_Row__profile_Feasible_1.E (.loop slices_IndexFunc_Row__profile_Feasible_1.p0.c) slices_IndexFunc_Row__profile_Feasible_1.p0.lp :=
  loop_sound (c := slices_IndexFunc_Row__profile_Feasible_1.p0.c) (ann := slices_IndexFunc_Row__profile_Feasible_1.p0.ann) slices_IndexFunc_Row__profile_Feasible_1.ok ((SubsOk_z _ _) : SubsOk slices_IndexFunc_Row__profile_Feasible_1.E slices_IndexFunc_Row__profile_Feasible_1.p0.c slices_IndexFunc_Row__profile_Feasible_1.p0.ann) (by intro a ha; simp only [slices_IndexFunc_Row__profile_Feasible_1.p0.outs, List.mem_cons, List.not_mem_nil, or_false] at ha; rcases ha with rfl | rfl <;> exact fun _ => rfl) slices_IndexFunc_Row__profile_Feasible_1.p0.eq
noncomputable def slices_IndexFunc_Row__profile_Feasible_1.ann : Ann := .s (.z) (.s (.s (.z) (.b (.sub 0))) (.z))
set_option maxRecDepth 100000 in
theorem slices_IndexFunc_Row__profile_Feasible_1.eq (x : Tup slices_IndexFunc_Row__profile_Feasible_1.p.inS) : peFn slices_IndexFunc_Row__profile_Feasible_1.E Try.f66 slices_IndexFunc_Row__profile_Feasible_1.ann slices_IndexFunc_Row__profile_Feasible_1.p x = slices_IndexFunc_Row__profile_Feasible_1.p.F x := by
  have h : peFn slices_IndexFunc_Row__profile_Feasible_1.E Try.f66 slices_IndexFunc_Row__profile_Feasible_1.ann slices_IndexFunc_Row__profile_Feasible_1.p x = slices_IndexFunc_Row__profile_Feasible_1.F0 x.1.1 x.2.1.1 := by kernel_rfl
  exact h.trans (by show _ = slices_IndexFunc_Row__profile_Feasible_1.F x.1.1 x.2.1.1; rw [slices_IndexFunc_Row__profile_Feasible_1.F_eq])
set_option maxRecDepth 100000 in
theorem slices_IndexFunc_Row__profile_Feasible_1.sound : ProcSound Try.prog glob0 66 slices_IndexFunc_Row__profile_Feasible_1.p :=
  fn_sound (E := slices_IndexFunc_Row__profile_Feasible_1.E) (c := slices_IndexFunc_Row__profile_Feasible_1.body0) (ann := slices_IndexFunc_Row__profile_Feasible_1.ann) slices_IndexFunc_Row__profile_Feasible_1.ok Try.func66 (of_decide_eq_true (by kernel_rfl)) rfl rfl rfl (by decide +kernel) (⟨(SubsOk_z _ _), ⟨⟨(SubsOk_z _ _), (sub_of rfl slices_IndexFunc_Row__profile_Feasible_1.p0.sound)⟩, (SubsOk_z _ _)⟩⟩ : SubsOk slices_IndexFunc_Row__profile_Feasible_1.E slices_IndexFunc_Row__profile_Feasible_1.body0 slices_IndexFunc_Row__profile_Feasible_1.ann) (fun _ => rfl) rfl slices_IndexFunc_Row__profile_Feasible_1.eq

/-! ### slices.ContainsFunc[[]armplan/api.Row,armplan/api.Row]: function 41 -/
noncomputable def slices_ContainsFunc_Row__profile_Feasible_1.F0 (a0 : List ((Int × (Int × (Int × Int))))) (a1 : List (Int)) : Option (Bool × List (Int)) :=
  ((slices_IndexFunc_Row__profile_Feasible_1.F a0 a1).bind fun r1 => some (decide (r1.1 ≥ (0 : Int)), r1.2))
noncomputable def slices_ContainsFunc_Row__profile_Feasible_1.F : (List ((Int × (Int × (Int × Int))))) → (List (Int)) → Option (Bool × List (Int)) := lock slices_ContainsFunc_Row__profile_Feasible_1.F0
theorem slices_ContainsFunc_Row__profile_Feasible_1.F_eq : slices_ContainsFunc_Row__profile_Feasible_1.F = slices_ContainsFunc_Row__profile_Feasible_1.F0 := lock_eq _
noncomputable def slices_ContainsFunc_Row__profile_Feasible_1.p : Proc := { nargs := 2, inS := ⟨[(0, .lf (.dat (.pair (.int .i64) (.pair (.int .i64) (.pair (.int .i64) (.int .i64)))))), (1, .lf (.fn 42 [0]))], [.box [.dat (.int .i64)]]⟩, outS := ⟨[(0, .lf (.sc .bool))], [.box [.dat (.int .i64)]]⟩, n0 := 1, R := Bool × List (Int), F := fun x => slices_ContainsFunc_Row__profile_Feasible_1.F x.1.1 x.2.1.1, post := fun r => ((r.1, ()), ((r.2, ()), ())), un := fun x => (x.1.1, x.2.1.1) }
noncomputable def slices_ContainsFunc_Row__profile_Feasible_1.E : Env := { P := Try.prog, ty := tyTab [(25, (.pair (.int .i64) (.pair (.int .i64) (.pair (.int .i64) (.int .i64)))))], glob := glob0, proc := procTab [(66, slices_IndexFunc_Row__profile_Feasible_1.p)], lproc := lprocTab [], n0 := 1, ntmps := 9 }
theorem slices_ContainsFunc_Row__profile_Feasible_1.ok : ProcsOk slices_ContainsFunc_Row__profile_Feasible_1.E := AllSound.ok (l := [(66, slices_IndexFunc_Row__profile_Feasible_1.p)]) (by kernel_rfl) rfl ⟨slices_IndexFunc_Row__profile_Feasible_1.sound, trivial⟩
noncomputable def slices_ContainsFunc_Row__profile_Feasible_1.body0 : Code := (match Try.f41.body with | some c => c | none => .skip)
noncomputable def slices_ContainsFunc_Row__profile_Feasible_1.ann : Ann := .z
set_option maxRecDepth 100000 in
theorem slices_ContainsFunc_Row__profile_Feasible_1.eq (x : Tup slices_ContainsFunc_Row__profile_Feasible_1.p.inS) : peFn slices_ContainsFunc_Row__profile_Feasible_1.E Try.f41 slices_ContainsFunc_Row__profile_Feasible_1.ann slices_ContainsFunc_Row__profile_Feasible_1.p x = slices_ContainsFunc_Row__profile_Feasible_1.p.F x := by
  have h : peFn slices_ContainsFunc_Row__profile_Feasible_1.E Try.f41 slices_ContainsFunc_Row__profile_Feasible_1.ann slices_ContainsFunc_Row__profile_Feasible_1.p x = slices_ContainsFunc_Row__profile_Feasible_1.F0 x.1.1 x.2.1.1 := by kernel_rfl
  exact h.trans (by show _ = slices_ContainsFunc_Row__profile_Feasible_1.F x.1.1 x.2.1.1; rw [slices_ContainsFunc_Row__profile_Feasible_1.F_eq])
set_option maxRecDepth 100000 in
theorem slices_ContainsFunc_Row__profile_Feasible_1.sound : ProcSound Try.prog glob0 41 slices_ContainsFunc_Row__profile_Feasible_1.p :=
  fn_sound (E := slices_ContainsFunc_Row__profile_Feasible_1.E) (c := slices_ContainsFunc_Row__profile_Feasible_1.body0) (ann := slices_ContainsFunc_Row__profile_Feasible_1.ann) slices_ContainsFunc_Row__profile_Feasible_1.ok Try.func41 (of_decide_eq_true (by kernel_rfl)) rfl rfl rfl (by decide +kernel) ((SubsOk_z _ _) : SubsOk slices_ContainsFunc_Row__profile_Feasible_1.E slices_ContainsFunc_Row__profile_Feasible_1.body0 slices_ContainsFunc_Row__profile_Feasible_1.ann) (fun _ => rfl) rfl slices_ContainsFunc_Row__profile_Feasible_1.eq

/-! ### armplan/profile.Feasible: function 18 -/
noncomputable def profile_Feasible.p0.round (v0 : List (Int)) (v1 : List ((Int × (Int × (Int × Int))))) (v2 : List (Int)) (v3 : Int) (v4 : Int) (v5 : List (Int)) : Option ((List (Int) × List ((Int × (Int × (Int × Int)))) × List (Int) × Int × Int × List (Int)) ⊕ ((Bool) ⊕ (List ((Int × (Int × (Int × Int)))) × List (Int)))) :=
  (bif decide (v4 < v3) then (bif decide (0 ≤ v4) then (bif decide (v4 < (v2.length : Int)) then (bif decide ((v2.getD v4.toNat (0 : Int)) < (0 : Int)) then some (.inr (.inl false)) else (bif decide (0 ≤ v4) then (bif decide (v4 < (v0.length : Int)) then (bif decide ((v2.getD v4.toNat (0 : Int)) > (v0.getD v4.toNat (0 : Int))) then some (.inr (.inl false)) else some (.inl (v0, v1, v2, v3, (IntKind.wrap .i64 (v4 + (1 : Int))), v5))) else none) else none)) else none) else none) else some (.inr (.inr (v1, v5))))
noncomputable def profile_Feasible.p0.step (s : List (Int) × List ((Int × (Int × (Int × Int)))) × List (Int) × Int × Int × List (Int)) : Option ((List (Int) × List ((Int × (Int × (Int × Int)))) × List (Int) × Int × Int × List (Int)) ⊕ ((Bool) ⊕ (List ((Int × (Int × (Int × Int)))) × List (Int)))) := profile_Feasible.p0.round s.1 s.2.1 s.2.2.1 s.2.2.2.1 s.2.2.2.2.1 s.2.2.2.2.2
noncomputable def profile_Feasible.p0.inS : Shape := ⟨[(0, .lf (.dat (.int .i64))), (1, .lf (.dat (.pair (.int .i64) (.pair (.int .i64) (.pair (.int .i64) (.int .i64)))))), (5, .lf (.bp 0 0)), (20, .lf (.dat (.int .i64))), (21, .lf (.sc (.int .i64))), (22, .lf (.sc (.int .i64)))], [.box [.dat (.int .i64)]]⟩
noncomputable def profile_Feasible.p0.w0 : Way := { ex := .rt, S := ⟨[(6, .lf (.sc .bool))], []⟩, R := Bool, post := fun r => ((r, ()), ()), un := fun x => x.1.1 }
noncomputable def profile_Feasible.p0.w1 : Way := { ex := (.ex 0), S := ⟨[(1, .lf (.dat (.pair (.int .i64) (.pair (.int .i64) (.pair (.int .i64) (.int .i64)))))), (5, .lf (.bp 0 0))], [.box [.dat (.int .i64)]]⟩, R := List ((Int × (Int × (Int × Int)))) × List (Int), post := fun r => ((r.1, ((), ())), ((r.2, ()), ())), un := fun x => (x.1.1, x.2.1.1) }
noncomputable def profile_Feasible.p0.outs : List Way := [profile_Feasible.p0.w0, profile_Feasible.p0.w1]
noncomputable def profile_Feasible.p0.un (x : Tup profile_Feasible.p0.inS) : List (Int) × List ((Int × (Int × (Int × Int)))) × List (Int) × Int × Int × List (Int) := (x.1.1, x.1.2.1, x.1.2.2.2.1, x.1.2.2.2.2.1, x.1.2.2.2.2.2.1, x.2.1.1)
noncomputable def profile_Feasible.p0.lp : LProc := { inS := profile_Feasible.p0.inS, outs := profile_Feasible.p0.outs, F := fun x => loopF profile_Feasible.p0.step (profile_Feasible.p0.un x) }
noncomputable def profile_Feasible.F0 (a0 : List (Int)) (a1 : List ((Int × (Int × (Int × Int))))) (a2 : List (Int)) : Option (Bool) :=
  ((profile_Valid.F a0 a1).bind fun r1 => (bif (!r1) then some false else (bif ((a2.length : Int) != (a0.length : Int)) then some false else ((loopF profile_Feasible.p0.step (a0, a1, a2, (a2.length : Int), (0 : Int), a2)).bind fun y2 => (Sum.elim (fun y3 => some y3) (fun z4 => ((slices_ContainsFunc_Row__profile_Feasible_1.F z4.1 z4.2).bind fun r5 => some (!r5.1))) y2)))))
noncomputable def profile_Feasible.F : (List (Int)) → (List ((Int × (Int × (Int × Int))))) → (List (Int)) → Option (Bool) := lock profile_Feasible.F0
theorem profile_Feasible.F_eq : profile_Feasible.F = profile_Feasible.F0 := lock_eq _
noncomputable def profile_Feasible.p : Proc := { nargs := 3, inS := ⟨[(0, .lf (.dat (.int .i64))), (1, .lf (.dat (.pair (.int .i64) (.pair (.int .i64) (.pair (.int .i64) (.int .i64)))))), (2, .lf (.dat (.int .i64)))], []⟩, outS := ⟨[(0, .lf (.sc .bool))], []⟩, n0 := 0, R := Bool, F := fun x => profile_Feasible.F x.1.1 x.1.2.1 x.1.2.2.1, post := fun r => ((r, ()), ()), un := fun x => x.1.1 }
noncomputable def profile_Feasible.E : Env := { P := Try.prog, ty := tyTab [(25, (.pair (.int .i64) (.pair (.int .i64) (.pair (.int .i64) (.int .i64)))))], glob := glob0, proc := procTab [(40, profile_Valid.p), (41, slices_ContainsFunc_Row__profile_Feasible_1.p)], lproc := lprocTab [(0, profile_Feasible.p0.lp)], n0 := 0, ntmps := 42 }
theorem profile_Feasible.ok : ProcsOk profile_Feasible.E := AllSound.ok (l := [(40, profile_Valid.p), (41, slices_ContainsFunc_Row__profile_Feasible_1.p)]) (by kernel_rfl) rfl ⟨profile_Valid.sound, slices_ContainsFunc_Row__profile_Feasible_1.sound, trivial⟩
noncomputable def profile_Feasible.body0 : Code := (match Try.f18.body with | some c => c | none => .skip)
noncomputable def profile_Feasible.p0.c : Code := ((codeAt profile_Feasible.body0 [.r, .r, .l, .r, .b, .b]).getD .skip)
noncomputable def profile_Feasible.p0.ann : Ann := .z
set_option maxRecDepth 100000 in
theorem profile_Feasible.p0.eq (x : Tup profile_Feasible.p0.inS) : peRound profile_Feasible.E profile_Feasible.p0.c profile_Feasible.p0.ann _ profile_Feasible.p0.inS profile_Feasible.p0.un profile_Feasible.p0.outs x = profile_Feasible.p0.step (profile_Feasible.p0.un x) := by
  kernel_rfl
set_option maxRecDepth 100000 in
theorem profile_Feasible.p0.sound : LProcSound profile_Feasible.E (.loop profile_Feasible.p0.c) profile_Feasible.p0.lp :=
  loop_sound (c := profile_Feasible.p0.c) (ann := profile_Feasible.p0.ann) profile_Feasible.ok ((SubsOk_z _ _) : SubsOk profile_Feasible.E profile_Feasible.p0.c profile_Feasible.p0.ann) (by intro a ha; simp only [profile_Feasible.p0.outs, List.mem_cons, List.not_mem_nil, or_false] at ha; rcases ha with rfl | rfl <;> exact fun _ => rfl) profile_Feasible.p0.eq
noncomputable def profile_Feasible.ann : Ann := .s (.z) (.s (.z) (.s (.s (.z) (.b (.sub 0))) (.z)))
set_option maxRecDepth 100000 in
theorem profile_Feasible.eq (x : Tup profile_Feasible.p.inS) : peFn profile_Feasible.E Try.f18 profile_Feasible.ann profile_Feasible.p x = profile_Feasible.p.F x := by
  have h : peFn profile_Feasible.E Try.f18 profile_Feasible.ann profile_Feasible.p x = profile_Feasible.F0 x.1.1 x.1.2.1 x.1.2.2.1 := by kernel_rfl
  exact h.trans (by show _ = profile_Feasible.F x.1.1 x.1.2.1 x.1.2.2.1; rw [profile_Feasible.F_eq])
set_option maxRecDepth 100000 in
theorem profile_Feasible.sound : ProcSound Try.prog glob0 18 profile_Feasible.p :=
  fn_sound (E := profile_Feasible.E) (c := profile_Feasible.body0) (ann := profile_Feasible.ann) profile_Feasible.ok Try.func18 (of_decide_eq_true (by kernel_rfl)) rfl rfl rfl (by decide +kernel) (⟨(SubsOk_z _ _), ⟨(SubsOk_z _ _), ⟨⟨(SubsOk_z _ _), (sub_of rfl profile_Feasible.p0.sound)⟩, (SubsOk_z _ _)⟩⟩⟩ : SubsOk profile_Feasible.E profile_Feasible.body0 profile_Feasible.ann) (fun _ => rfl) rfl profile_Feasible.eq

/-! ### armplan/profile.Greatest$1: function 49 -/
noncomputable def profile_Greatest_1.F0 (a0 : Int) (a1 : Int) (a2 : Int) (a3 : Int) (a4 : List (Int)) : Option (Bool × List (Int)) :=
  ((profile_satisfied.F a0 a1 a2 a3 a4).bind fun r1 => some ((!r1), a4))
noncomputable def profile_Greatest_1.F : Int → Int → Int → Int → (List (Int)) → Option (Bool × List (Int)) := lock profile_Greatest_1.F0
theorem profile_Greatest_1.F_eq : profile_Greatest_1.F = profile_Greatest_1.F0 := lock_eq _
noncomputable def profile_Greatest_1.p : Proc := { nargs := 2, inS := ⟨[(0, .ag [.sc (.int .i64), .sc (.int .i64), .sc (.int .i64), .sc (.int .i64)]), (1, .lf (.bp 0 0))], [.box [.own 1], .row 2 (.int .i64)]⟩, outS := ⟨[(0, .lf (.sc .bool))], [.box [.own 1], .row 2 (.int .i64)]⟩, n0 := 1, R := Bool × List (Int), F := fun x => profile_Greatest_1.F x.1.1.1 x.1.1.2.1 x.1.1.2.2.1 x.1.1.2.2.2.1 x.2.2.1, post := fun r => ((r.1, ()), (((), ()), (r.2, ()))), un := fun x => (x.1.1, x.2.2.1) }
noncomputable def profile_Greatest_1.E : Env := { P := Try.prog, ty := tyTab [], glob := glob0, proc := procTab [(43, profile_satisfied.p)], lproc := lprocTab [], n0 := 1, ntmps := 8 }
theorem profile_Greatest_1.ok : ProcsOk profile_Greatest_1.E := AllSound.ok (l := [(43, profile_satisfied.p)]) (by kernel_rfl) rfl ⟨profile_satisfied.sound, trivial⟩
noncomputable def profile_Greatest_1.body0 : Code := (match Try.f49.body with | some c => c | none => .skip)
noncomputable def profile_Greatest_1.ann : Ann := .z
set_option maxRecDepth 100000 in
theorem profile_Greatest_1.eq (x : Tup profile_Greatest_1.p.inS) : peFn profile_Greatest_1.E Try.f49 profile_Greatest_1.ann profile_Greatest_1.p x = profile_Greatest_1.p.F x := by
  have h : peFn profile_Greatest_1.E Try.f49 profile_Greatest_1.ann profile_Greatest_1.p x = profile_Greatest_1.F0 x.1.1.1 x.1.1.2.1 x.1.1.2.2.1 x.1.1.2.2.2.1 x.2.2.1 := by kernel_rfl
  exact h.trans (by show _ = profile_Greatest_1.F x.1.1.1 x.1.1.2.1 x.1.1.2.2.1 x.1.1.2.2.2.1 x.2.2.1; rw [profile_Greatest_1.F_eq])
set_option maxRecDepth 100000 in
theorem profile_Greatest_1.sound : ProcSound Try.prog glob0 49 profile_Greatest_1.p :=
  fn_sound (E := profile_Greatest_1.E) (c := profile_Greatest_1.body0) (ann := profile_Greatest_1.ann) profile_Greatest_1.ok Try.func49 (of_decide_eq_true (by kernel_rfl)) rfl rfl rfl (by decide +kernel) ((SubsOk_z _ _) : SubsOk profile_Greatest_1.E profile_Greatest_1.body0 profile_Greatest_1.ann) (fun _ => rfl) rfl profile_Greatest_1.eq

/-! ### slices.IndexFunc[[]armplan/api.Row,armplan/api.Row]: function 66 -/
noncomputable def slices_IndexFunc_Row__profile_Greatest_1.p0.round (v0 : List ((Int × (Int × (Int × Int))))) (v1 : Int) (v2 : Int) (v3 : List (Int)) : Option ((List ((Int × (Int × (Int × Int)))) × Int × Int × List (Int)) ⊕ ((Int × List (Int)) ⊕ (List (Int)))) :=
  (bif decide (v2 < v1) then (bif decide (0 ≤ v2) then (bif decide (v2 < (v0.length : Int)) then ((profile_Greatest_1.F (v0.getD v2.toNat ((0 : Int), ((0 : Int), ((0 : Int), (0 : Int))))).1 ((v0.getD v2.toNat ((0 : Int), ((0 : Int), ((0 : Int), (0 : Int))))).2).1 (((v0.getD v2.toNat ((0 : Int), ((0 : Int), ((0 : Int), (0 : Int))))).2).2).1 (((v0.getD v2.toNat ((0 : Int), ((0 : Int), ((0 : Int), (0 : Int))))).2).2).2 v3).bind fun r2 => (bif r2.1 then some (.inr (.inl (v2, r2.2))) else some (.inl (v0, v1, (IntKind.wrap .i64 (v2 + (1 : Int))), r2.2)))) else none) else none) else some (.inr (.inr v3)))
noncomputable def slices_IndexFunc_Row__profile_Greatest_1.p0.step (s : List ((Int × (Int × (Int × Int)))) × Int × Int × List (Int)) : Option ((List ((Int × (Int × (Int × Int)))) × Int × Int × List (Int)) ⊕ ((Int × List (Int)) ⊕ (List (Int)))) := slices_IndexFunc_Row__profile_Greatest_1.p0.round s.1 s.2.1 s.2.2.1 s.2.2.2
noncomputable def slices_IndexFunc_Row__profile_Greatest_1.p0.inS : Shape := ⟨[(0, .lf (.dat (.pair (.int .i64) (.pair (.int .i64) (.pair (.int .i64) (.int .i64)))))), (1, .lf (.fn 49 [0])), (7, .lf (.sc (.int .i64))), (8, .lf (.sc (.int .i64)))], [.box [.own 1], .row 2 (.int .i64)]⟩
noncomputable def slices_IndexFunc_Row__profile_Greatest_1.p0.w0 : Way := { ex := .rt, S := ⟨[(4, .lf (.sc (.int .i64)))], [.box [.own 1], .row 2 (.int .i64)]⟩, R := Int × List (Int), post := fun r => ((r.1, ()), (((), ()), (r.2, ()))), un := fun x => (x.1.1, x.2.2.1) }
noncomputable def slices_IndexFunc_Row__profile_Greatest_1.p0.w1 : Way := { ex := (.ex 0), S := ⟨[], [.box [.own 1], .row 2 (.int .i64)]⟩, R := List (Int), post := fun r => ((), (((), ()), (r, ()))), un := fun x => x.2.2.1 }
noncomputable def slices_IndexFunc_Row__profile_Greatest_1.p0.outs : List Way := [slices_IndexFunc_Row__profile_Greatest_1.p0.w0, slices_IndexFunc_Row__profile_Greatest_1.p0.w1]
noncomputable def slices_IndexFunc_Row__profile_Greatest_1.p0.un (x : Tup slices_IndexFunc_Row__profile_Greatest_1.p0.inS) : List ((Int × (Int × (Int × Int)))) × Int × Int × List (Int) := (x.1.1, x.1.2.2.1, x.1.2.2.2.1, x.2.2.1)
noncomputable def slices_IndexFunc_Row__profile_Greatest_1.p0.lp : LProc := { inS := slices_IndexFunc_Row__profile_Greatest_1.p0.inS, outs := slices_IndexFunc_Row__profile_Greatest_1.p0.outs, F := fun x => loopF slices_IndexFunc_Row__profile_Greatest_1.p0.step (slices_IndexFunc_Row__profile_Greatest_1.p0.un x) }
noncomputable def slices_IndexFunc_Row__profile_Greatest_1.F0 (a0 : List ((Int × (Int × (Int × Int))))) (a1 : List (Int)) : Option (Int × List (Int)) :=
  ((loopF slices_IndexFunc_Row__profile_Greatest_1.p0.step (a0, (a0.length : Int), (0 : Int), a1)).bind fun y3 => (Sum.elim (fun y4 => some (y4.1, y4.2)) (fun z5 => some ((-1 : Int), z5)) y3))
noncomputable def slices_IndexFunc_Row__profile_Greatest_1.F : (List ((Int × (Int × (Int × Int))))) → (List (Int)) → Option (Int × List (Int)) := lock slices_IndexFunc_Row__profile_Greatest_1.F0
theorem slices_IndexFunc_Row__profile_Greatest_1.F_eq : slices_IndexFunc_Row__profile_Greatest_1.F = slices_IndexFunc_Row__profile_Greatest_1.F0 := lock_eq _
noncomputable def slices_IndexFunc_Row__profile_Greatest_1.p : Proc := { nargs := 2, inS := ⟨[(0, .lf (.dat (.pair (.int .i64) (.pair (.int .i64) (.pair (.int .i64) (.int .i64)))))), (1, .lf (.fn 49 [0]))], [.box [.own 1], .row 2 (.int .i64)]⟩, outS := ⟨[(0, .lf (.sc (.int .i64)))], [.box [.own 1], .row 2 (.int .i64)]⟩, n0 := 1, R := Int × List (Int), F := fun x => slices_IndexFunc_Row__profile_Greatest_1.F x.1.1 x.2.2.1, post := fun r => ((r.1, ()), (((), ()), (r.2, ()))), un := fun x => (x.1.1, x.2.2.1) }
noncomputable def slices_IndexFunc_Row__profile_Greatest_1.E : Env := { P := Try.prog, ty := tyTab [], glob := glob0, proc := procTab [(49, profile_Greatest_1.p)], lproc := lprocTab [(0, slices_IndexFunc_Row__profile_Greatest_1.p0.lp)], n0 := 1, ntmps := 19 }
theorem slices_IndexFunc_Row__profile_Greatest_1.ok : ProcsOk slices_IndexFunc_Row__profile_Greatest_1.E := AllSound.ok (l := [(49, profile_Greatest_1.p)]) (by kernel_rfl) rfl ⟨profile_Greatest_1.sound, trivial⟩
noncomputable def slices_IndexFunc_Row__profile_Greatest_1.body0 : Code := (match Try.f66.body with | some c => c | none => .skip)
noncomputable def slices_IndexFunc_Row__profile_Greatest_1.p0.c : Code := ((codeAt slices_IndexFunc_Row__profile_Greatest_1.body0 [.r, .l, .r, .b, .b]).getD .skip)
noncomputable def slices_IndexFunc_Row__profile_Greatest_1.p0.ann : Ann := .z
set_option maxRecDepth 100000 in
theorem slices_IndexFunc_Row__profile_Greatest_1.p0.eq (x : Tup slices_IndexFunc_Row__profile_Greatest_1.p0.inS) : peRound slices_IndexFunc_Row__profile_Greatest_1.E slices_IndexFunc_Row__profile_Greatest_1.p0.c slices_IndexFunc_Row__profile_Greatest_1.p0.ann _ slices_IndexFunc_Row__profile_Greatest_1.p0.inS slices_IndexFunc_Row__profile_Greatest_1.p0.un slices_IndexFunc_Row__profile_Greatest_1.p0.outs x = slices_IndexFunc_Row__profile_Greatest_1.p0.step (slices_IndexFunc_Row__profile_Greatest_1.p0.un x) := by
  kernel_rfl
set_option maxRecDepth 100000 in
theorem slices_IndexFunc_Row__profile_Greatest_1.p0.sound : LProcSound slices_IndexFunc_Row__profile_Greatest_1.E (.loop slices_IndexFunc_Row__profile_Greatest_1.p0.c) slices_IndexFunc_Row__profile_Greatest_1.p0.lp :=
  loop_sound (c := slices_IndexFunc_Row__profile_Greatest_1.p0.c) (ann := slices_IndexFunc_Row__profile_Greatest_1.p0.ann) slices_IndexFunc_Row__profile_Greatest_1.ok ((SubsOk_z _ _) : SubsOk slices_IndexFunc_Row__profile_Greatest_1.E slices_IndexFunc_Row__profile_Greatest_1.p0.c slices_IndexFunc_Row__profile_Greatest_1.p0.ann) (by intro a ha; simp only [slices_IndexFunc_Row__profile_Greatest_1.p0.outs, List.mem_cons, List.not_mem_nil, or_false] at ha; rcases ha with rfl | rfl <;> exact fun _ => rfl) slices_IndexFunc_Row__profile_Greatest_1.p0.eq
noncomputable def slices_IndexFunc_Row__profile_Greatest_1.ann : Ann := .s (.z) (.s (.s (.z) (.b (.sub 0))) (.z))
set_option maxRecDepth 100000 in
theorem slices_IndexFunc_Row__profile_Greatest_1.eq (x : Tup slices_IndexFunc_Row__profile_Greatest_1.p.inS) : peFn slices_IndexFunc_Row__profile_Greatest_1.E Try.f66 slices_IndexFunc_Row__profile_Greatest_1.ann slices_IndexFunc_Row__profile_Greatest_1.p x = slices_IndexFunc_Row__profile_Greatest_1.p.F x := by
  have h : peFn slices_IndexFunc_Row__profile_Greatest_1.E Try.f66 slices_IndexFunc_Row__profile_Greatest_1.ann slices_IndexFunc_Row__profile_Greatest_1.p x = slices_IndexFunc_Row__profile_Greatest_1.F0 x.1.1 x.2.2.1 := by kernel_rfl
  exact h.trans (by show _ = slices_IndexFunc_Row__profile_Greatest_1.F x.1.1 x.2.2.1; rw [slices_IndexFunc_Row__profile_Greatest_1.F_eq])
set_option maxRecDepth 100000 in
theorem slices_IndexFunc_Row__profile_Greatest_1.sound : ProcSound Try.prog glob0 66 slices_IndexFunc_Row__profile_Greatest_1.p :=
  fn_sound (E := slices_IndexFunc_Row__profile_Greatest_1.E) (c := slices_IndexFunc_Row__profile_Greatest_1.body0) (ann := slices_IndexFunc_Row__profile_Greatest_1.ann) slices_IndexFunc_Row__profile_Greatest_1.ok Try.func66 (of_decide_eq_true (by kernel_rfl)) rfl rfl rfl (by decide +kernel) (⟨(SubsOk_z _ _), ⟨⟨(SubsOk_z _ _), (sub_of rfl slices_IndexFunc_Row__profile_Greatest_1.p0.sound)⟩, (SubsOk_z _ _)⟩⟩ : SubsOk slices_IndexFunc_Row__profile_Greatest_1.E slices_IndexFunc_Row__profile_Greatest_1.body0 slices_IndexFunc_Row__profile_Greatest_1.ann) (fun _ => rfl) rfl slices_IndexFunc_Row__profile_Greatest_1.eq

/-! ### slices.ContainsFunc[[]armplan/api.Row,armplan/api.Row]: function 41 -/
noncomputable def slices_ContainsFunc_Row__profile_Greatest_1.F0 (a0 : List ((Int × (Int × (Int × Int))))) (a1 : List (Int)) : Option (Bool × List (Int)) :=
  ((slices_IndexFunc_Row__profile_Greatest_1.F a0 a1).bind fun r1 => some (decide (r1.1 ≥ (0 : Int)), r1.2))
noncomputable def slices_ContainsFunc_Row__profile_Greatest_1.F : (List ((Int × (Int × (Int × Int))))) → (List (Int)) → Option (Bool × List (Int)) := lock slices_ContainsFunc_Row__profile_Greatest_1.F0
theorem slices_ContainsFunc_Row__profile_Greatest_1.F_eq : slices_ContainsFunc_Row__profile_Greatest_1.F = slices_ContainsFunc_Row__profile_Greatest_1.F0 := lock_eq _
noncomputable def slices_ContainsFunc_Row__profile_Greatest_1.p : Proc := { nargs := 2, inS := ⟨[(0, .lf (.dat (.pair (.int .i64) (.pair (.int .i64) (.pair (.int .i64) (.int .i64)))))), (1, .lf (.fn 49 [0]))], [.box [.own 1], .row 2 (.int .i64)]⟩, outS := ⟨[(0, .lf (.sc .bool))], [.box [.own 1], .row 2 (.int .i64)]⟩, n0 := 1, R := Bool × List (Int), F := fun x => slices_ContainsFunc_Row__profile_Greatest_1.F x.1.1 x.2.2.1, post := fun r => ((r.1, ()), (((), ()), (r.2, ()))), un := fun x => (x.1.1, x.2.2.1) }
noncomputable def slices_ContainsFunc_Row__profile_Greatest_1.E : Env := { P := Try.prog, ty := tyTab [(25, (.pair (.int .i64) (.pair (.int .i64) (.pair (.int .i64) (.int .i64)))))], glob := glob0, proc := procTab [(66, slices_IndexFunc_Row__profile_Greatest_1.p)], lproc := lprocTab [], n0 := 1, ntmps := 9 }
theorem slices_ContainsFunc_Row__profile_Greatest_1.ok : ProcsOk slices_ContainsFunc_Row__profile_Greatest_1.E := AllSound.ok (l := [(66, slices_IndexFunc_Row__profile_Greatest_1.p)]) (by kernel_rfl) rfl ⟨slices_IndexFunc_Row__profile_Greatest_1.sound, trivial⟩
noncomputable def slices_ContainsFunc_Row__profile_Greatest_1.body0 : Code := (match Try.f41.body with | some c => c | none => .skip)
noncomputable def slices_ContainsFunc_Row__profile_Greatest_1.ann : Ann := .z
set_option maxRecDepth 100000 in
theorem slices_ContainsFunc_Row__profile_Greatest_1.eq (x : Tup slices_ContainsFunc_Row__profile_Greatest_1.p.inS) : peFn slices_ContainsFunc_Row__profile_Greatest_1.E Try.f41 slices_ContainsFunc_Row__profile_Greatest_1.ann slices_ContainsFunc_Row__profile_Greatest_1.p x = slices_ContainsFunc_Row__profile_Greatest_1.p.F x := by
  have h : peFn slices_ContainsFunc_Row__profile_Greatest_1.E Try.f41 slices_ContainsFunc_Row__profile_Greatest_1.ann slices_ContainsFunc_Row__profile_Greatest_1.p x = slices_ContainsFunc_Row__profile_Greatest_1.F0 x.1.1 x.2.2.1 := by kernel_rfl
  exact h.trans (by show _ = slices_ContainsFunc_Row__profile_Greatest_1.F x.1.1 x.2.2.1; rw [slices_ContainsFunc_Row__profile_Greatest_1.F_eq])
set_option maxRecDepth 100000 in
theorem slices_ContainsFunc_Row__profile_Greatest_1.sound : ProcSound Try.prog glob0 41 slices_ContainsFunc_Row__profile_Greatest_1.p :=
  fn_sound (E := slices_ContainsFunc_Row__profile_Greatest_1.E) (c := slices_ContainsFunc_Row__profile_Greatest_1.body0) (ann := slices_ContainsFunc_Row__profile_Greatest_1.ann) slices_ContainsFunc_Row__profile_Greatest_1.ok Try.func41 (of_decide_eq_true (by kernel_rfl)) rfl rfl rfl (by decide +kernel) ((SubsOk_z _ _) : SubsOk slices_ContainsFunc_Row__profile_Greatest_1.E slices_ContainsFunc_Row__profile_Greatest_1.body0 slices_ContainsFunc_Row__profile_Greatest_1.ann) (fun _ => rfl) rfl slices_ContainsFunc_Row__profile_Greatest_1.eq

/-! ### armplan/profile.Greatest: function 19 -/
noncomputable def profile_Greatest.p1.round (v0 : List ((Int × (Int × (Int × Int))))) (v1 : List ((Int × (Int × (Int × Int))))) (v2 : Int) (v3 : Int) (v4 : List (Bool)) (v5 : List (Int)) (v6 : List (Int)) : Option ((List ((Int × (Int × (Int × Int)))) × List ((Int × (Int × (Int × Int)))) × Int × Int × List (Bool) × List (Int) × List (Int)) ⊕ ((Bool × List (Int)) ⊕ (List ((Int × (Int × (Int × Int)))) × List (Bool) × List (Int) × List (Int)))) :=
  (bif decide (v3 < v2) then (bif decide (0 ≤ v3) then (bif decide (v3 < (v1.length : Int)) then (bif decide (0 ≤ v3) then (bif decide (v3 < (v4.length : Int)) then (bif (!(v4.getD v3.toNat false)) then some (.inl (v0, v1, v2, (IntKind.wrap .i64 (v3 + (1 : Int))), v4, v5, v6)) else (bif decide (0 ≤ v3) then (bif decide (v3 < (v4.length : Int)) then ((profile_Bound.F (v1.getD v3.toNat ((0 : Int), ((0 : Int), ((0 : Int), (0 : Int))))).1 ((v1.getD v3.toNat ((0 : Int), ((0 : Int), ((0 : Int), (0 : Int))))).2).1 (((v1.getD v3.toNat ((0 : Int), ((0 : Int), ((0 : Int), (0 : Int))))).2).2).1 (((v1.getD v3.toNat ((0 : Int), ((0 : Int), ((0 : Int), (0 : Int))))).2).2).2 v6).bind fun r25 => (bif (!r25.2.2) then some (.inl (v0, v1, v2, (IntKind.wrap .i64 (v3 + (1 : Int))), (v4.set v3.toNat false), v5, v6)) else (bif decide (0 ≤ r25.1) then (bif decide (r25.1 < (v6.length : Int)) then (bif decide (r25.2.1 ≥ (v6.getD r25.1.toNat (0 : Int))) then some (.inl (v0, v1, v2, (IntKind.wrap .i64 (v3 + (1 : Int))), (v4.set v3.toNat false), v5, v6)) else (bif ((v5.length : Int) == (16384 : Int)) then some (.inr (.inl (false, ([] : List (Int))))) else (bif decide (0 ≤ r25.1) then (bif decide (r25.1 < (v6.length : Int)) then (bif decide (v5.length + ([v3] : List (Int)).length < 17592186044416) then (bif decide (r25.2.1 < (0 : Int)) then some (.inr (.inl (false, (v5 ++ ([v3] : List (Int)))))) else ((profile_wake.F v0 r25.1 (v4.set v3.toNat false)).bind fun r26 => some (.inl (v0, v1, v2, (IntKind.wrap .i64 (v3 + (1 : Int))), r26, (v5 ++ ([v3] : List (Int))), (v6.set r25.1.toNat r25.2.1))))) else none) else none) else none))) else none) else none))) else none) else none)) else none) else none) else none) else none) else some (.inr (.inr (v0, v4, v5, v6))))
noncomputable def profile_Greatest.p1.step (s : List ((Int × (Int × (Int × Int)))) × List ((Int × (Int × (Int × Int)))) × Int × Int × List (Bool) × List (Int) × List (Int)) : Option ((List ((Int × (Int × (Int × Int)))) × List ((Int × (Int × (Int × Int)))) × Int × Int × List (Bool) × List (Int) × List (Int)) ⊕ ((Bool × List (Int)) ⊕ (List ((Int × (Int × (Int × Int)))) × List (Bool) × List (Int) × List (Int)))) := profile_Greatest.p1.round s.1 s.2.1 s.2.2.1 s.2.2.2.1 s.2.2.2.2.1 s.2.2.2.2.2.1 s.2.2.2.2.2.2
noncomputable def profile_Greatest.p1.inS : Shape := ⟨[(1, .lf (.dat (.pair (.int .i64) (.pair (.int .i64) (.pair (.int .i64) (.int .i64)))))), (7, .lf (.bp 0 0)), (8, .lf (.own 1)), (9, .lf (.own 2)), (27, .lf (.dat (.pair (.int .i64) (.pair (.int .i64) (.pair (.int .i64) (.int .i64)))))), (28, .lf (.sc (.int .i64))), (29, .lf (.sc (.int .i64)))], [.box [.own 3], .row 4 .bool, .row 3 (.int .i64), .row 2 (.int .i64)]⟩
noncomputable def profile_Greatest.p1.w0 : Way := { ex := .rt, S := ⟨[(4, .lf (.cst (.slice none 0 0))), (5, .lf (.own 0)), (6, .lf (.sc .bool))], [.row 3 (.int .i64)]⟩, R := Bool × List (Int), post := fun r => (((), ((), (r.1, ()))), (r.2, ())), un := fun x => (x.1.2.2.1, x.2.1) }
noncomputable def profile_Greatest.p1.w1 : Way := { ex := (.ex 2), S := ⟨[(1, .lf (.dat (.pair (.int .i64) (.pair (.int .i64) (.pair (.int .i64) (.int .i64)))))), (7, .lf (.bp 0 0)), (8, .lf (.own 1)), (9, .lf (.own 2))], [.box [.own 3], .row 4 .bool, .row 3 (.int .i64), .row 2 (.int .i64)]⟩, R := List ((Int × (Int × (Int × Int)))) × List (Bool) × List (Int) × List (Int), post := fun r => ((r.1, ((), ((), ((), ())))), (((), ()), (r.2.1, (r.2.2.1, (r.2.2.2, ()))))), un := fun x => (x.1.1, x.2.2.1, x.2.2.2.1, x.2.2.2.2.1) }
noncomputable def profile_Greatest.p1.outs : List Way := [profile_Greatest.p1.w0, profile_Greatest.p1.w1]
noncomputable def profile_Greatest.p1.un (x : Tup profile_Greatest.p1.inS) : List ((Int × (Int × (Int × Int)))) × List ((Int × (Int × (Int × Int)))) × Int × Int × List (Bool) × List (Int) × List (Int) := (x.1.1, x.1.2.2.2.2.1, x.1.2.2.2.2.2.1, x.1.2.2.2.2.2.2.1, x.2.2.1, x.2.2.2.1, x.2.2.2.2.1)
noncomputable def profile_Greatest.p1.lp : LProc := { inS := profile_Greatest.p1.inS, outs := profile_Greatest.p1.outs, F := fun x => loopF profile_Greatest.p1.step (profile_Greatest.p1.un x) }
noncomputable def profile_Greatest.p0.round (v0 : List ((Int × (Int × (Int × Int))))) (v1 : List (Bool)) (v2 : List (Int)) (v3 : List (Int)) : Option ((List ((Int × (Int × (Int × Int)))) × List (Bool) × List (Int) × List (Int)) ⊕ ((Bool × List (Int)) ⊕ (List ((Int × (Int × (Int × Int)))) × List (Int) × List (Int)))) :=
  ((slices_Contains_bool.F v1 true).bind fun r22 => (bif r22 then ((loopF profile_Greatest.p1.step (v0, v0, (v0.length : Int), (0 : Int), v1, v2, v3)).bind fun y27 => (Sum.elim (fun y28 => some (.inr (.inl (y28.1, y28.2)))) (fun z29 => some (.inl (z29.1, z29.2.1, z29.2.2.1, z29.2.2.2))) y27)) else some (.inr (.inr (v0, v2, v3)))))
noncomputable def profile_Greatest.p0.step (s : List ((Int × (Int × (Int × Int)))) × List (Bool) × List (Int) × List (Int)) : Option ((List ((Int × (Int × (Int × Int)))) × List (Bool) × List (Int) × List (Int)) ⊕ ((Bool × List (Int)) ⊕ (List ((Int × (Int × (Int × Int)))) × List (Int) × List (Int)))) := profile_Greatest.p0.round s.1 s.2.1 s.2.2.1 s.2.2.2
noncomputable def profile_Greatest.p0.inS : Shape := ⟨[(1, .lf (.dat (.pair (.int .i64) (.pair (.int .i64) (.pair (.int .i64) (.int .i64)))))), (7, .lf (.bp 0 0)), (8, .lf (.own 1)), (9, .lf (.own 2))], [.box [.own 3], .row 4 .bool, .row 3 (.int .i64), .row 2 (.int .i64)]⟩
noncomputable def profile_Greatest.p0.w0 : Way := { ex := .rt, S := ⟨[(4, .lf (.cst (.slice none 0 0))), (5, .lf (.own 0)), (6, .lf (.sc .bool))], [.row 3 (.int .i64)]⟩, R := Bool × List (Int), post := fun r => (((), ((), (r.1, ()))), (r.2, ())), un := fun x => (x.1.2.2.1, x.2.1) }
noncomputable def profile_Greatest.p0.w1 : Way := { ex := (.ex 0), S := ⟨[(1, .lf (.dat (.pair (.int .i64) (.pair (.int .i64) (.pair (.int .i64) (.int .i64)))))), (7, .lf (.bp 0 0)), (9, .lf (.own 1))], [.box [.own 2], .row 3 (.int .i64), .row 2 (.int .i64)]⟩, R := List ((Int × (Int × (Int × Int)))) × List (Int) × List (Int), post := fun r => ((r.1, ((), ((), ()))), (((), ()), (r.2.1, (r.2.2, ())))), un := fun x => (x.1.1, x.2.2.1, x.2.2.2.1) }
noncomputable def profile_Greatest.p0.outs : List Way := [profile_Greatest.p0.w0, profile_Greatest.p0.w1]
noncomputable def profile_Greatest.p0.un (x : Tup profile_Greatest.p0.inS) : List ((Int × (Int × (Int × Int)))) × List (Bool) × List (Int) × List (Int) := (x.1.1, x.2.2.1, x.2.2.2.1, x.2.2.2.2.1)
noncomputable def profile_Greatest.p0.lp : LProc := { inS := profile_Greatest.p0.inS, outs := profile_Greatest.p0.outs, F := fun x => loopF profile_Greatest.p0.step (profile_Greatest.p0.un x) }
noncomputable def profile_Greatest.F0 (a0 : List (Int)) (a1 : List ((Int × (Int × (Int × Int))))) : Option (Bool × List (Int) × List (Int)) :=
  ((profile_Valid.F a0 a1).bind fun r1 => (bif (!r1) then some (false, ([] : List (Int)), ([] : List (Int))) else ((slices_Clone_int64.F a0).bind fun r2 => ((slices_Repeat_bool.F ([true] : List (Bool)) (a1.length : Int)).bind fun r3 => ((loopF profile_Greatest.p0.step (a1, r3, ([] : List (Int)), r2)).bind fun y30 => (Sum.elim (fun y31 => some (y31.1, ([] : List (Int)), y31.2)) (fun z32 => ((slices_ContainsFunc_Row__profile_Greatest_1.F z32.1 z32.2.2).bind fun r33 => (bif r33.1 then some (false, ([] : List (Int)), z32.2.1) else some (true, r33.2, z32.2.1)))) y30))))))
noncomputable def profile_Greatest.F : (List (Int)) → (List ((Int × (Int × (Int × Int))))) → Option (Bool × List (Int) × List (Int)) := lock profile_Greatest.F0
theorem profile_Greatest.F_eq : profile_Greatest.F = profile_Greatest.F0 := lock_eq _
noncomputable def profile_Greatest.p : Proc := { nargs := 2, inS := ⟨[(0, .lf (.dat (.int .i64))), (1, .lf (.dat (.pair (.int .i64) (.pair (.int .i64) (.pair (.int .i64) (.int .i64))))))], []⟩, outS := ⟨[(0, .lf (.own 0)), (1, .lf (.own 1)), (2, .lf (.sc .bool))], [.row 2 (.int .i64), .row 3 (.int .i64)]⟩, n0 := 0, R := Bool × List (Int) × List (Int), F := fun x => profile_Greatest.F x.1.1 x.1.2.1, post := fun r => (((), ((), (r.1, ()))), (r.2.1, (r.2.2, ()))), un := fun x => (x.1.2.2.1, x.2.1, x.2.2.1) }
noncomputable def profile_Greatest.E : Env := { P := Try.prog, ty := tyTab [(3, (.int .i64)), (4, .bool), (25, (.pair (.int .i64) (.pair (.int .i64) (.pair (.int .i64) (.int .i64)))))], glob := glob0, proc := procTab [(40, profile_Valid.p), (44, slices_Clone_int64.p), (45, slices_Repeat_bool.p), (46, slices_Contains_bool.p), (47, profile_Bound.p), (48, profile_wake.p), (41, slices_ContainsFunc_Row__profile_Greatest_1.p)], lproc := lprocTab [(0, profile_Greatest.p0.lp), (1, profile_Greatest.p1.lp)], n0 := 0, ntmps := 84 }
theorem profile_Greatest.ok : ProcsOk profile_Greatest.E := AllSound.ok (l := [(40, profile_Valid.p), (44, slices_Clone_int64.p), (45, slices_Repeat_bool.p), (46, slices_Contains_bool.p), (47, profile_Bound.p), (48, profile_wake.p), (41, slices_ContainsFunc_Row__profile_Greatest_1.p)]) (by kernel_rfl) rfl ⟨profile_Valid.sound, slices_Clone_int64.sound, slices_Repeat_bool.sound, slices_Contains_bool.sound, profile_Bound.sound, profile_wake.sound, slices_ContainsFunc_Row__profile_Greatest_1.sound, trivial⟩
noncomputable def profile_Greatest.body0 : Code := (match Try.f19.body with | some c => c | none => .skip)
noncomputable def profile_Greatest.p1.c : Code := ((codeAt profile_Greatest.body0 [.r, .r, .r, .r, .r, .l, .b, .b, .r, .b, .r, .b, .b]).getD .skip)
noncomputable def profile_Greatest.p1.ann : Ann := .z
set_option maxRecDepth 100000 in
theorem profile_Greatest.p1.eq (x : Tup profile_Greatest.p1.inS) : peRound profile_Greatest.E profile_Greatest.p1.c profile_Greatest.p1.ann _ profile_Greatest.p1.inS profile_Greatest.p1.un profile_Greatest.p1.outs x = profile_Greatest.p1.step (profile_Greatest.p1.un x) := by
  kernel_rfl
set_option maxRecDepth 100000 in
theorem profile_Greatest.p1.sound : LProcSound profile_Greatest.E (.loop profile_Greatest.p1.c) profile_Greatest.p1.lp :=
  loop_sound (c := profile_Greatest.p1.c) (ann := profile_Greatest.p1.ann) profile_Greatest.ok ((SubsOk_z _ _) : SubsOk profile_Greatest.E profile_Greatest.p1.c profile_Greatest.p1.ann) (by intro a ha; simp only [profile_Greatest.p1.outs, List.mem_cons, List.not_mem_nil, or_false] at ha; rcases ha with rfl | rfl <;> exact fun _ => rfl) profile_Greatest.p1.eq
noncomputable def profile_Greatest.p0.c : Code := ((codeAt profile_Greatest.body0 [.r, .r, .r, .r, .r, .l, .b, .b]).getD .skip)
noncomputable def profile_Greatest.p0.ann : Ann := .s (.z) (.b (.s (.z) (.b (.sub 1))))
set_option maxRecDepth 100000 in
theorem profile_Greatest.p0.eq (x : Tup profile_Greatest.p0.inS) : peRound profile_Greatest.E profile_Greatest.p0.c profile_Greatest.p0.ann _ profile_Greatest.p0.inS profile_Greatest.p0.un profile_Greatest.p0.outs x = profile_Greatest.p0.step (profile_Greatest.p0.un x) := by
  kernel_rfl
set_option maxRecDepth 100000 in
theorem profile_Greatest.p0.sound : LProcSound profile_Greatest.E (.loop profile_Greatest.p0.c) profile_Greatest.p0.lp :=
  loop_sound (c := profile_Greatest.p0.c) (ann := profile_Greatest.p0.ann) profile_Greatest.ok (⟨(SubsOk_z _ _), ⟨(SubsOk_z _ _), (sub_of rfl profile_Greatest.p1.sound)⟩⟩ : SubsOk profile_Greatest.E profile_Greatest.p0.c profile_Greatest.p0.ann) (by intro a ha; simp only [profile_Greatest.p0.outs, List.mem_cons, List.not_mem_nil, or_false] at ha; rcases ha with rfl | rfl <;> exact fun _ => rfl) profile_Greatest.p0.eq
noncomputable def profile_Greatest.ann : Ann := .s (.z) (.s (.z) (.s (.z) (.s (.z) (.s (.z) (.s (.b (.sub 0)) (.z))))))
set_option maxRecDepth 100000 in
theorem profile_Greatest.eq (x : Tup profile_Greatest.p.inS) : peFn profile_Greatest.E Try.f19 profile_Greatest.ann profile_Greatest.p x = profile_Greatest.p.F x := by
  have h : peFn profile_Greatest.E Try.f19 profile_Greatest.ann profile_Greatest.p x = profile_Greatest.F0 x.1.1 x.1.2.1 := by kernel_rfl
  exact h.trans (by show _ = profile_Greatest.F x.1.1 x.1.2.1; rw [profile_Greatest.F_eq])
set_option maxRecDepth 100000 in
theorem profile_Greatest.sound : ProcSound Try.prog glob0 19 profile_Greatest.p :=
  fn_sound (E := profile_Greatest.E) (c := profile_Greatest.body0) (ann := profile_Greatest.ann) profile_Greatest.ok Try.func19 (of_decide_eq_true (by kernel_rfl)) rfl rfl rfl (by decide +kernel) (⟨(SubsOk_z _ _), ⟨(SubsOk_z _ _), ⟨(SubsOk_z _ _), ⟨(SubsOk_z _ _), ⟨(SubsOk_z _ _), ⟨(sub_of rfl profile_Greatest.p0.sound), (SubsOk_z _ _)⟩⟩⟩⟩⟩⟩ : SubsOk profile_Greatest.E profile_Greatest.body0 profile_Greatest.ann) (fun _ => rfl) rfl profile_Greatest.eq

/-! ### armplan/profile.Replay: function 31 -/
noncomputable def profile_Replay.p0.round (v0 : List ((Int × (Int × (Int × Int))))) (v1 : List (Int)) (v2 : Int) (v3 : Int) (v4 : List (Int)) : Option ((List ((Int × (Int × (Int × Int)))) × List (Int) × Int × Int × List (Int)) ⊕ ((Bool) ⊕ (List (Int)))) :=
  (bif decide (v3 < v2) then (bif decide (0 ≤ v3) then (bif decide (v3 < (v1.length : Int)) then (bif decide ((v1.getD v3.toNat (0 : Int)) < (0 : Int)) then some (.inr (.inl false)) else (bif decide ((v1.getD v3.toNat (0 : Int)) ≥ (v0.length : Int)) then some (.inr (.inl false)) else (bif decide (0 ≤ (v1.getD v3.toNat (0 : Int))) then (bif decide ((v1.getD v3.toNat (0 : Int)) < (v0.length : Int)) then ((profile_Bound.F (v0.getD (v1.getD v3.toNat (0 : Int)).toNat ((0 : Int), ((0 : Int), ((0 : Int), (0 : Int))))).1 ((v0.getD (v1.getD v3.toNat (0 : Int)).toNat ((0 : Int), ((0 : Int), ((0 : Int), (0 : Int))))).2).1 (((v0.getD (v1.getD v3.toNat (0 : Int)).toNat ((0 : Int), ((0 : Int), ((0 : Int), (0 : Int))))).2).2).1 (((v0.getD (v1.getD v3.toNat (0 : Int)).toNat ((0 : Int), ((0 : Int), ((0 : Int), (0 : Int))))).2).2).2 v4).bind fun r4 => (bif (!r4.2.2) then some (.inr (.inl false)) else (bif decide (0 ≤ r4.1) then (bif decide (r4.1 < (v4.length : Int)) then (bif decide (r4.2.1 < (v4.getD r4.1.toNat (0 : Int))) then (bif decide (0 ≤ r4.1) then (bif decide (r4.1 < (v4.length : Int)) then some (.inl (v0, v1, v2, (IntKind.wrap .i64 (v3 + (1 : Int))), (v4.set r4.1.toNat (bif decide ((-1 : Int) > r4.2.1) then (-1 : Int) else r4.2.1)))) else none) else none) else some (.inl (v0, v1, v2, (IntKind.wrap .i64 (v3 + (1 : Int))), v4))) else none) else none))) else none) else none))) else none) else none) else some (.inr (.inr v4)))
noncomputable def profile_Replay.p0.step (s : List ((Int × (Int × (Int × Int)))) × List (Int) × Int × Int × List (Int)) : Option ((List ((Int × (Int × (Int × Int)))) × List (Int) × Int × Int × List (Int)) ⊕ ((Bool) ⊕ (List (Int)))) := profile_Replay.p0.round s.1 s.2.1 s.2.2.1 s.2.2.2.1 s.2.2.2.2
noncomputable def profile_Replay.p0.inS : Shape := ⟨[(1, .lf (.dat (.pair (.int .i64) (.pair (.int .i64) (.pair (.int .i64) (.int .i64)))))), (8, .lf (.own 0)), (25, .lf (.dat (.int .i64))), (26, .lf (.sc (.int .i64))), (27, .lf (.sc (.int .i64)))], [.row 2 (.int .i64)]⟩
noncomputable def profile_Replay.p0.w0 : Way := { ex := .rt, S := ⟨[(6, .lf (.cst (.slice none 0 0))), (7, .lf (.sc .bool))], []⟩, R := Bool, post := fun r => (((), (r, ())), ()), un := fun x => x.1.2.1 }
noncomputable def profile_Replay.p0.w1 : Way := { ex := (.ex 0), S := ⟨[(8, .lf (.own 0))], [.row 2 (.int .i64)]⟩, R := List (Int), post := fun r => (((), ()), (r, ())), un := fun x => x.2.1 }
noncomputable def profile_Replay.p0.outs : List Way := [profile_Replay.p0.w0, profile_Replay.p0.w1]
noncomputable def profile_Replay.p0.un (x : Tup profile_Replay.p0.inS) : List ((Int × (Int × (Int × Int)))) × List (Int) × Int × Int × List (Int) := (x.1.1, x.1.2.2.1, x.1.2.2.2.1, x.1.2.2.2.2.1, x.2.1)
noncomputable def profile_Replay.p0.lp : LProc := { inS := profile_Replay.p0.inS, outs := profile_Replay.p0.outs, F := fun x => loopF profile_Replay.p0.step (profile_Replay.p0.un x) }
noncomputable def profile_Replay.F0 (a0 : List (Int)) (a1 : List ((Int × (Int × (Int × Int))))) (a2 : List (Int)) : Option (Bool × List (Int)) :=
  ((profile_Valid.F a0 a1).bind fun r1 => (bif (!r1) then some (false, ([] : List (Int))) else (bif decide ((a2.length : Int) > (16384 : Int)) then some (false, ([] : List (Int))) else ((slices_Clone_int64.F a0).bind fun r2 => ((loopF profile_Replay.p0.step (a1, a2, (a2.length : Int), (0 : Int), r2)).bind fun y5 => (Sum.elim (fun y6 => some (y6, ([] : List (Int)))) (fun z7 => some (true, z7)) y5))))))
noncomputable def profile_Replay.F : (List (Int)) → (List ((Int × (Int × (Int × Int))))) → (List (Int)) → Option (Bool × List (Int)) := lock profile_Replay.F0
theorem profile_Replay.F_eq : profile_Replay.F = profile_Replay.F0 := lock_eq _
noncomputable def profile_Replay.p : Proc := { nargs := 3, inS := ⟨[(0, .lf (.dat (.int .i64))), (1, .lf (.dat (.pair (.int .i64) (.pair (.int .i64) (.pair (.int .i64) (.int .i64)))))), (2, .lf (.dat (.int .i64)))], []⟩, outS := ⟨[(0, .lf (.own 0)), (1, .lf (.sc .bool))], [.row 2 (.int .i64)]⟩, n0 := 0, R := Bool × List (Int), F := fun x => profile_Replay.F x.1.1 x.1.2.1 x.1.2.2.1, post := fun r => (((), (r.1, ())), (r.2, ())), un := fun x => (x.1.2.1, x.2.1) }
noncomputable def profile_Replay.E : Env := { P := Try.prog, ty := tyTab [], glob := glob0, proc := procTab [(40, profile_Valid.p), (44, slices_Clone_int64.p), (47, profile_Bound.p)], lproc := lprocTab [(0, profile_Replay.p0.lp)], n0 := 0, ntmps := 64 }
theorem profile_Replay.ok : ProcsOk profile_Replay.E := AllSound.ok (l := [(40, profile_Valid.p), (44, slices_Clone_int64.p), (47, profile_Bound.p)]) (by kernel_rfl) rfl ⟨profile_Valid.sound, slices_Clone_int64.sound, profile_Bound.sound, trivial⟩
noncomputable def profile_Replay.body0 : Code := (match Try.f31.body with | some c => c | none => .skip)
noncomputable def profile_Replay.p0.c : Code := ((codeAt profile_Replay.body0 [.r, .r, .r, .l, .r, .b, .b]).getD .skip)
noncomputable def profile_Replay.p0.ann : Ann := .z
set_option maxRecDepth 100000 in
theorem profile_Replay.p0.eq (x : Tup profile_Replay.p0.inS) : peRound profile_Replay.E profile_Replay.p0.c profile_Replay.p0.ann _ profile_Replay.p0.inS profile_Replay.p0.un profile_Replay.p0.outs x = profile_Replay.p0.step (profile_Replay.p0.un x) := by
  kernel_rfl
set_option maxRecDepth 100000 in
theorem profile_Replay.p0.sound : LProcSound profile_Replay.E (.loop profile_Replay.p0.c) profile_Replay.p0.lp :=
  loop_sound (c := profile_Replay.p0.c) (ann := profile_Replay.p0.ann) profile_Replay.ok ((SubsOk_z _ _) : SubsOk profile_Replay.E profile_Replay.p0.c profile_Replay.p0.ann) (by intro a ha; simp only [profile_Replay.p0.outs, List.mem_cons, List.not_mem_nil, or_false] at ha; rcases ha with rfl | rfl <;> exact fun _ => rfl) profile_Replay.p0.eq
noncomputable def profile_Replay.ann : Ann := .s (.z) (.s (.z) (.s (.z) (.s (.s (.z) (.b (.sub 0))) (.z))))
set_option maxRecDepth 100000 in
theorem profile_Replay.eq (x : Tup profile_Replay.p.inS) : peFn profile_Replay.E Try.f31 profile_Replay.ann profile_Replay.p x = profile_Replay.p.F x := by
  have h : peFn profile_Replay.E Try.f31 profile_Replay.ann profile_Replay.p x = profile_Replay.F0 x.1.1 x.1.2.1 x.1.2.2.1 := by kernel_rfl
  exact h.trans (by show _ = profile_Replay.F x.1.1 x.1.2.1 x.1.2.2.1; rw [profile_Replay.F_eq])
set_option maxRecDepth 100000 in
theorem profile_Replay.sound : ProcSound Try.prog glob0 31 profile_Replay.p :=
  fn_sound (E := profile_Replay.E) (c := profile_Replay.body0) (ann := profile_Replay.ann) profile_Replay.ok Try.func31 (of_decide_eq_true (by kernel_rfl)) rfl rfl rfl (by decide +kernel) (⟨(SubsOk_z _ _), ⟨(SubsOk_z _ _), ⟨(SubsOk_z _ _), ⟨⟨(SubsOk_z _ _), (sub_of rfl profile_Replay.p0.sound)⟩, (SubsOk_z _ _)⟩⟩⟩⟩ : SubsOk profile_Replay.E profile_Replay.body0 profile_Replay.ann) (fun _ => rfl) rfl profile_Replay.eq

/-! ### armplan/armplanlaw41.splits: function 32 -/
noncomputable def armplanlaw41_splits.F0 (a0 : Int) (a1 : Int) (a2 : Int) (a3 : Int) : Option (Bool) :=
  ((profile_Split.F a0 a1 a2 a3).bind fun r1 => ((armplanref40_SplitRow.F a0 a1 a2 a3).bind fun r2 => (bif (r1.1 == r2.1) then ((armplanmake_Same_Row.F r1.2 r2.2).bind fun r3 => some r3) else some false)))
noncomputable def armplanlaw41_splits.F : Int → Int → Int → Int → Option (Bool) := lock armplanlaw41_splits.F0
theorem armplanlaw41_splits.F_eq : armplanlaw41_splits.F = armplanlaw41_splits.F0 := lock_eq _
noncomputable def armplanlaw41_splits.p : Proc := { nargs := 1, inS := ⟨[(0, .ag [.sc (.int .i64), .sc (.int .i64), .sc (.int .i64), .sc (.int .i64)])], []⟩, outS := ⟨[(0, .lf (.sc .bool))], []⟩, n0 := 0, R := Bool, F := fun x => armplanlaw41_splits.F x.1.1.1 x.1.1.2.1 x.1.1.2.2.1 x.1.1.2.2.2.1, post := fun r => ((r, ()), ()), un := fun x => x.1.1 }
noncomputable def armplanlaw41_splits.E : Env := { P := Try.prog, ty := tyTab [], glob := glob0, proc := procTab [(35, profile_Split.p), (60, armplanref40_SplitRow.p), (61, armplanmake_Same_Row.p)], lproc := lprocTab [], n0 := 0, ntmps := 25 }
theorem armplanlaw41_splits.ok : ProcsOk armplanlaw41_splits.E := AllSound.ok (l := [(35, profile_Split.p), (60, armplanref40_SplitRow.p), (61, armplanmake_Same_Row.p)]) (by kernel_rfl) rfl ⟨profile_Split.sound, armplanref40_SplitRow.sound, armplanmake_Same_Row.sound, trivial⟩
noncomputable def armplanlaw41_splits.body0 : Code := (match Try.f32.body with | some c => c | none => .skip)
noncomputable def armplanlaw41_splits.ann : Ann := .z
set_option maxRecDepth 100000 in
theorem armplanlaw41_splits.eq (x : Tup armplanlaw41_splits.p.inS) : peFn armplanlaw41_splits.E Try.f32 armplanlaw41_splits.ann armplanlaw41_splits.p x = armplanlaw41_splits.p.F x := by
  have h : peFn armplanlaw41_splits.E Try.f32 armplanlaw41_splits.ann armplanlaw41_splits.p x = armplanlaw41_splits.F0 x.1.1.1 x.1.1.2.1 x.1.1.2.2.1 x.1.1.2.2.2.1 := by kernel_rfl
  exact h.trans (by show _ = armplanlaw41_splits.F x.1.1.1 x.1.1.2.1 x.1.1.2.2.1 x.1.1.2.2.2.1; rw [armplanlaw41_splits.F_eq])
set_option maxRecDepth 100000 in
theorem armplanlaw41_splits.sound : ProcSound Try.prog glob0 32 armplanlaw41_splits.p :=
  fn_sound (E := armplanlaw41_splits.E) (c := armplanlaw41_splits.body0) (ann := armplanlaw41_splits.ann) armplanlaw41_splits.ok Try.func32 (of_decide_eq_true (by kernel_rfl)) rfl rfl rfl (by decide +kernel) ((SubsOk_z _ _) : SubsOk armplanlaw41_splits.E armplanlaw41_splits.body0 armplanlaw41_splits.ann) (fun _ => rfl) rfl armplanlaw41_splits.eq

/-! ### armplan/armplanlaw41.greatest: function 16 -/
noncomputable def armplanlaw41_greatest.F0 (a0 : List (Int)) (a1 : List ((Int × (Int × (Int × Int))))) : Option (Bool) :=
  ((profile_Greatest.F a0 a1).bind fun r1 => ((armplanref40_Greatest.F a0 a1).bind fun r2 => (bif (r1.1 == r2.1) then ((armplanmake_Same_int64.F r1.2.1 r2.2.1).bind fun r3 => (bif r3 then ((armplanmake_Same_int.F r1.2.2 r2.2.2).bind fun r4 => some r4) else some false)) else some false)))
noncomputable def armplanlaw41_greatest.F : (List (Int)) → (List ((Int × (Int × (Int × Int))))) → Option (Bool) := lock armplanlaw41_greatest.F0
theorem armplanlaw41_greatest.F_eq : armplanlaw41_greatest.F = armplanlaw41_greatest.F0 := lock_eq _
noncomputable def armplanlaw41_greatest.p : Proc := { nargs := 2, inS := ⟨[(0, .lf (.dat (.int .i64))), (1, .lf (.dat (.pair (.int .i64) (.pair (.int .i64) (.pair (.int .i64) (.int .i64))))))], []⟩, outS := ⟨[(0, .lf (.sc .bool))], []⟩, n0 := 0, R := Bool, F := fun x => armplanlaw41_greatest.F x.1.1 x.1.2.1, post := fun r => ((r, ()), ()), un := fun x => x.1.1 }
noncomputable def armplanlaw41_greatest.E : Env := { P := Try.prog, ty := tyTab [], glob := glob0, proc := procTab [(19, profile_Greatest.p), (25, armplanref40_Greatest.p), (30, armplanmake_Same_int64.p), (39, armplanmake_Same_int.p)], lproc := lprocTab [], n0 := 0, ntmps := 38 }
theorem armplanlaw41_greatest.ok : ProcsOk armplanlaw41_greatest.E := AllSound.ok (l := [(19, profile_Greatest.p), (25, armplanref40_Greatest.p), (30, armplanmake_Same_int64.p), (39, armplanmake_Same_int.p)]) (by kernel_rfl) rfl ⟨profile_Greatest.sound, armplanref40_Greatest.sound, armplanmake_Same_int64.sound, armplanmake_Same_int.sound, trivial⟩
noncomputable def armplanlaw41_greatest.body0 : Code := (match Try.f16.body with | some c => c | none => .skip)
noncomputable def armplanlaw41_greatest.ann : Ann := .z
set_option maxRecDepth 100000 in
theorem armplanlaw41_greatest.eq (x : Tup armplanlaw41_greatest.p.inS) : peFn armplanlaw41_greatest.E Try.f16 armplanlaw41_greatest.ann armplanlaw41_greatest.p x = armplanlaw41_greatest.p.F x := by
  have h : peFn armplanlaw41_greatest.E Try.f16 armplanlaw41_greatest.ann armplanlaw41_greatest.p x = armplanlaw41_greatest.F0 x.1.1 x.1.2.1 := by kernel_rfl
  exact h.trans (by show _ = armplanlaw41_greatest.F x.1.1 x.1.2.1; rw [armplanlaw41_greatest.F_eq])
set_option maxRecDepth 100000 in
theorem armplanlaw41_greatest.sound : ProcSound Try.prog glob0 16 armplanlaw41_greatest.p :=
  fn_sound (E := armplanlaw41_greatest.E) (c := armplanlaw41_greatest.body0) (ann := armplanlaw41_greatest.ann) armplanlaw41_greatest.ok Try.func16 (of_decide_eq_true (by kernel_rfl)) rfl rfl rfl (by decide +kernel) ((SubsOk_z _ _) : SubsOk armplanlaw41_greatest.E armplanlaw41_greatest.body0 armplanlaw41_greatest.ann) (fun _ => rfl) rfl armplanlaw41_greatest.eq

/-! ### armplan/profile.Refutes$1: function 58 -/
noncomputable def profile_Refutes_1.F0 (a0 : Int) (a1 : Int) (a2 : Int) (a3 : Int) (a4 : List (Int)) : Option (Bool × List (Int)) :=
  (bif decide (a1 ≤ (0 : Int)) then (bif decide (a2 ≤ (0 : Int)) then ((profile_satisfied.F a0 a1 a2 a3 a4).bind fun r1 => some ((!r1), a4)) else some (false, a4)) else some (false, a4))
noncomputable def profile_Refutes_1.F : Int → Int → Int → Int → (List (Int)) → Option (Bool × List (Int)) := lock profile_Refutes_1.F0
theorem profile_Refutes_1.F_eq : profile_Refutes_1.F = profile_Refutes_1.F0 := lock_eq _
noncomputable def profile_Refutes_1.p : Proc := { nargs := 2, inS := ⟨[(0, .ag [.sc (.int .i64), .sc (.int .i64), .sc (.int .i64), .sc (.int .i64)]), (1, .lf (.bp 0 0))], [.box [.own 1], .row 2 (.int .i64)]⟩, outS := ⟨[(0, .lf (.sc .bool))], [.box [.own 1], .row 2 (.int .i64)]⟩, n0 := 1, R := Bool × List (Int), F := fun x => profile_Refutes_1.F x.1.1.1 x.1.1.2.1 x.1.1.2.2.1 x.1.1.2.2.2.1 x.2.2.1, post := fun r => ((r.1, ()), (((), ()), (r.2, ()))), un := fun x => (x.1.1, x.2.2.1) }
noncomputable def profile_Refutes_1.E : Env := { P := Try.prog, ty := tyTab [], glob := glob0, proc := procTab [(43, profile_satisfied.p)], lproc := lprocTab [], n0 := 1, ntmps := 18 }
theorem profile_Refutes_1.ok : ProcsOk profile_Refutes_1.E := AllSound.ok (l := [(43, profile_satisfied.p)]) (by kernel_rfl) rfl ⟨profile_satisfied.sound, trivial⟩
noncomputable def profile_Refutes_1.body0 : Code := (match Try.f58.body with | some c => c | none => .skip)
noncomputable def profile_Refutes_1.ann : Ann := .z
set_option maxRecDepth 100000 in
theorem profile_Refutes_1.eq (x : Tup profile_Refutes_1.p.inS) : peFn profile_Refutes_1.E Try.f58 profile_Refutes_1.ann profile_Refutes_1.p x = profile_Refutes_1.p.F x := by
  have h : peFn profile_Refutes_1.E Try.f58 profile_Refutes_1.ann profile_Refutes_1.p x = profile_Refutes_1.F0 x.1.1.1 x.1.1.2.1 x.1.1.2.2.1 x.1.1.2.2.2.1 x.2.2.1 := by kernel_rfl
  exact h.trans (by show _ = profile_Refutes_1.F x.1.1.1 x.1.1.2.1 x.1.1.2.2.1 x.1.1.2.2.2.1 x.2.2.1; rw [profile_Refutes_1.F_eq])
set_option maxRecDepth 100000 in
theorem profile_Refutes_1.sound : ProcSound Try.prog glob0 58 profile_Refutes_1.p :=
  fn_sound (E := profile_Refutes_1.E) (c := profile_Refutes_1.body0) (ann := profile_Refutes_1.ann) profile_Refutes_1.ok Try.func58 (of_decide_eq_true (by kernel_rfl)) rfl rfl rfl (by decide +kernel) ((SubsOk_z _ _) : SubsOk profile_Refutes_1.E profile_Refutes_1.body0 profile_Refutes_1.ann) (fun _ => rfl) rfl profile_Refutes_1.eq

/-! ### slices.IndexFunc[[]armplan/api.Row,armplan/api.Row]: function 66 -/
noncomputable def slices_IndexFunc_Row__profile_Refutes_1.p0.round (v0 : List ((Int × (Int × (Int × Int))))) (v1 : Int) (v2 : Int) (v3 : List (Int)) : Option ((List ((Int × (Int × (Int × Int)))) × Int × Int × List (Int)) ⊕ ((Int × List (Int)) ⊕ (List (Int)))) :=
  (bif decide (v2 < v1) then (bif decide (0 ≤ v2) then (bif decide (v2 < (v0.length : Int)) then ((profile_Refutes_1.F (v0.getD v2.toNat ((0 : Int), ((0 : Int), ((0 : Int), (0 : Int))))).1 ((v0.getD v2.toNat ((0 : Int), ((0 : Int), ((0 : Int), (0 : Int))))).2).1 (((v0.getD v2.toNat ((0 : Int), ((0 : Int), ((0 : Int), (0 : Int))))).2).2).1 (((v0.getD v2.toNat ((0 : Int), ((0 : Int), ((0 : Int), (0 : Int))))).2).2).2 v3).bind fun r2 => (bif r2.1 then some (.inr (.inl (v2, r2.2))) else some (.inl (v0, v1, (IntKind.wrap .i64 (v2 + (1 : Int))), r2.2)))) else none) else none) else some (.inr (.inr v3)))
noncomputable def slices_IndexFunc_Row__profile_Refutes_1.p0.step (s : List ((Int × (Int × (Int × Int)))) × Int × Int × List (Int)) : Option ((List ((Int × (Int × (Int × Int)))) × Int × Int × List (Int)) ⊕ ((Int × List (Int)) ⊕ (List (Int)))) := slices_IndexFunc_Row__profile_Refutes_1.p0.round s.1 s.2.1 s.2.2.1 s.2.2.2
noncomputable def slices_IndexFunc_Row__profile_Refutes_1.p0.inS : Shape := ⟨[(0, .lf (.dat (.pair (.int .i64) (.pair (.int .i64) (.pair (.int .i64) (.int .i64)))))), (1, .lf (.fn 58 [0])), (7, .lf (.sc (.int .i64))), (8, .lf (.sc (.int .i64)))], [.box [.own 1], .row 2 (.int .i64)]⟩
noncomputable def slices_IndexFunc_Row__profile_Refutes_1.p0.w0 : Way := { ex := .rt, S := ⟨[(4, .lf (.sc (.int .i64)))], [.box [.own 1], .row 2 (.int .i64)]⟩, R := Int × List (Int), post := fun r => ((r.1, ()), (((), ()), (r.2, ()))), un := fun x => (x.1.1, x.2.2.1) }
noncomputable def slices_IndexFunc_Row__profile_Refutes_1.p0.w1 : Way := { ex := (.ex 0), S := ⟨[], [.box [.own 1], .row 2 (.int .i64)]⟩, R := List (Int), post := fun r => ((), (((), ()), (r, ()))), un := fun x => x.2.2.1 }
noncomputable def slices_IndexFunc_Row__profile_Refutes_1.p0.outs : List Way := [slices_IndexFunc_Row__profile_Refutes_1.p0.w0, slices_IndexFunc_Row__profile_Refutes_1.p0.w1]
noncomputable def slices_IndexFunc_Row__profile_Refutes_1.p0.un (x : Tup slices_IndexFunc_Row__profile_Refutes_1.p0.inS) : List ((Int × (Int × (Int × Int)))) × Int × Int × List (Int) := (x.1.1, x.1.2.2.1, x.1.2.2.2.1, x.2.2.1)
noncomputable def slices_IndexFunc_Row__profile_Refutes_1.p0.lp : LProc := { inS := slices_IndexFunc_Row__profile_Refutes_1.p0.inS, outs := slices_IndexFunc_Row__profile_Refutes_1.p0.outs, F := fun x => loopF slices_IndexFunc_Row__profile_Refutes_1.p0.step (slices_IndexFunc_Row__profile_Refutes_1.p0.un x) }
noncomputable def slices_IndexFunc_Row__profile_Refutes_1.F0 (a0 : List ((Int × (Int × (Int × Int))))) (a1 : List (Int)) : Option (Int × List (Int)) :=
  ((loopF slices_IndexFunc_Row__profile_Refutes_1.p0.step (a0, (a0.length : Int), (0 : Int), a1)).bind fun y3 => (Sum.elim (fun y4 => some (y4.1, y4.2)) (fun z5 => some ((-1 : Int), z5)) y3))
noncomputable def slices_IndexFunc_Row__profile_Refutes_1.F : (List ((Int × (Int × (Int × Int))))) → (List (Int)) → Option (Int × List (Int)) := lock slices_IndexFunc_Row__profile_Refutes_1.F0
theorem slices_IndexFunc_Row__profile_Refutes_1.F_eq : slices_IndexFunc_Row__profile_Refutes_1.F = slices_IndexFunc_Row__profile_Refutes_1.F0 := lock_eq _
noncomputable def slices_IndexFunc_Row__profile_Refutes_1.p : Proc := { nargs := 2, inS := ⟨[(0, .lf (.dat (.pair (.int .i64) (.pair (.int .i64) (.pair (.int .i64) (.int .i64)))))), (1, .lf (.fn 58 [0]))], [.box [.own 1], .row 2 (.int .i64)]⟩, outS := ⟨[(0, .lf (.sc (.int .i64)))], [.box [.own 1], .row 2 (.int .i64)]⟩, n0 := 1, R := Int × List (Int), F := fun x => slices_IndexFunc_Row__profile_Refutes_1.F x.1.1 x.2.2.1, post := fun r => ((r.1, ()), (((), ()), (r.2, ()))), un := fun x => (x.1.1, x.2.2.1) }
noncomputable def slices_IndexFunc_Row__profile_Refutes_1.E : Env := { P := Try.prog, ty := tyTab [], glob := glob0, proc := procTab [(58, profile_Refutes_1.p)], lproc := lprocTab [(0, slices_IndexFunc_Row__profile_Refutes_1.p0.lp)], n0 := 1, ntmps := 19 }
theorem slices_IndexFunc_Row__profile_Refutes_1.ok : ProcsOk slices_IndexFunc_Row__profile_Refutes_1.E := AllSound.ok (l := [(58, profile_Refutes_1.p)]) (by kernel_rfl) rfl ⟨profile_Refutes_1.sound, trivial⟩
noncomputable def slices_IndexFunc_Row__profile_Refutes_1.body0 : Code := (match Try.f66.body with | some c => c | none => .skip)
noncomputable def slices_IndexFunc_Row__profile_Refutes_1.p0.c : Code := ((codeAt slices_IndexFunc_Row__profile_Refutes_1.body0 [.r, .l, .r, .b, .b]).getD .skip)
noncomputable def slices_IndexFunc_Row__profile_Refutes_1.p0.ann : Ann := .z
set_option maxRecDepth 100000 in
theorem slices_IndexFunc_Row__profile_Refutes_1.p0.eq (x : Tup slices_IndexFunc_Row__profile_Refutes_1.p0.inS) : peRound slices_IndexFunc_Row__profile_Refutes_1.E slices_IndexFunc_Row__profile_Refutes_1.p0.c slices_IndexFunc_Row__profile_Refutes_1.p0.ann _ slices_IndexFunc_Row__profile_Refutes_1.p0.inS slices_IndexFunc_Row__profile_Refutes_1.p0.un slices_IndexFunc_Row__profile_Refutes_1.p0.outs x = slices_IndexFunc_Row__profile_Refutes_1.p0.step (slices_IndexFunc_Row__profile_Refutes_1.p0.un x) := by
  kernel_rfl
set_option maxRecDepth 100000 in
theorem slices_IndexFunc_Row__profile_Refutes_1.p0.sound : LProcSound slices_IndexFunc_Row__profile_Refutes_1.E (.loop slices_IndexFunc_Row__profile_Refutes_1.p0.c) slices_IndexFunc_Row__profile_Refutes_1.p0.lp :=
  loop_sound (c := slices_IndexFunc_Row__profile_Refutes_1.p0.c) (ann := slices_IndexFunc_Row__profile_Refutes_1.p0.ann) slices_IndexFunc_Row__profile_Refutes_1.ok ((SubsOk_z _ _) : SubsOk slices_IndexFunc_Row__profile_Refutes_1.E slices_IndexFunc_Row__profile_Refutes_1.p0.c slices_IndexFunc_Row__profile_Refutes_1.p0.ann) (by intro a ha; simp only [slices_IndexFunc_Row__profile_Refutes_1.p0.outs, List.mem_cons, List.not_mem_nil, or_false] at ha; rcases ha with rfl | rfl <;> exact fun _ => rfl) slices_IndexFunc_Row__profile_Refutes_1.p0.eq
noncomputable def slices_IndexFunc_Row__profile_Refutes_1.ann : Ann := .s (.z) (.s (.s (.z) (.b (.sub 0))) (.z))
set_option maxRecDepth 100000 in
theorem slices_IndexFunc_Row__profile_Refutes_1.eq (x : Tup slices_IndexFunc_Row__profile_Refutes_1.p.inS) : peFn slices_IndexFunc_Row__profile_Refutes_1.E Try.f66 slices_IndexFunc_Row__profile_Refutes_1.ann slices_IndexFunc_Row__profile_Refutes_1.p x = slices_IndexFunc_Row__profile_Refutes_1.p.F x := by
  have h : peFn slices_IndexFunc_Row__profile_Refutes_1.E Try.f66 slices_IndexFunc_Row__profile_Refutes_1.ann slices_IndexFunc_Row__profile_Refutes_1.p x = slices_IndexFunc_Row__profile_Refutes_1.F0 x.1.1 x.2.2.1 := by kernel_rfl
  exact h.trans (by show _ = slices_IndexFunc_Row__profile_Refutes_1.F x.1.1 x.2.2.1; rw [slices_IndexFunc_Row__profile_Refutes_1.F_eq])
set_option maxRecDepth 100000 in
theorem slices_IndexFunc_Row__profile_Refutes_1.sound : ProcSound Try.prog glob0 66 slices_IndexFunc_Row__profile_Refutes_1.p :=
  fn_sound (E := slices_IndexFunc_Row__profile_Refutes_1.E) (c := slices_IndexFunc_Row__profile_Refutes_1.body0) (ann := slices_IndexFunc_Row__profile_Refutes_1.ann) slices_IndexFunc_Row__profile_Refutes_1.ok Try.func66 (of_decide_eq_true (by kernel_rfl)) rfl rfl rfl (by decide +kernel) (⟨(SubsOk_z _ _), ⟨⟨(SubsOk_z _ _), (sub_of rfl slices_IndexFunc_Row__profile_Refutes_1.p0.sound)⟩, (SubsOk_z _ _)⟩⟩ : SubsOk slices_IndexFunc_Row__profile_Refutes_1.E slices_IndexFunc_Row__profile_Refutes_1.body0 slices_IndexFunc_Row__profile_Refutes_1.ann) (fun _ => rfl) rfl slices_IndexFunc_Row__profile_Refutes_1.eq

/-! ### slices.ContainsFunc[[]armplan/api.Row,armplan/api.Row]: function 41 -/
noncomputable def slices_ContainsFunc_Row__profile_Refutes_1.F0 (a0 : List ((Int × (Int × (Int × Int))))) (a1 : List (Int)) : Option (Bool × List (Int)) :=
  ((slices_IndexFunc_Row__profile_Refutes_1.F a0 a1).bind fun r1 => some (decide (r1.1 ≥ (0 : Int)), r1.2))
noncomputable def slices_ContainsFunc_Row__profile_Refutes_1.F : (List ((Int × (Int × (Int × Int))))) → (List (Int)) → Option (Bool × List (Int)) := lock slices_ContainsFunc_Row__profile_Refutes_1.F0
theorem slices_ContainsFunc_Row__profile_Refutes_1.F_eq : slices_ContainsFunc_Row__profile_Refutes_1.F = slices_ContainsFunc_Row__profile_Refutes_1.F0 := lock_eq _
noncomputable def slices_ContainsFunc_Row__profile_Refutes_1.p : Proc := { nargs := 2, inS := ⟨[(0, .lf (.dat (.pair (.int .i64) (.pair (.int .i64) (.pair (.int .i64) (.int .i64)))))), (1, .lf (.fn 58 [0]))], [.box [.own 1], .row 2 (.int .i64)]⟩, outS := ⟨[(0, .lf (.sc .bool))], [.box [.own 1], .row 2 (.int .i64)]⟩, n0 := 1, R := Bool × List (Int), F := fun x => slices_ContainsFunc_Row__profile_Refutes_1.F x.1.1 x.2.2.1, post := fun r => ((r.1, ()), (((), ()), (r.2, ()))), un := fun x => (x.1.1, x.2.2.1) }
noncomputable def slices_ContainsFunc_Row__profile_Refutes_1.E : Env := { P := Try.prog, ty := tyTab [(25, (.pair (.int .i64) (.pair (.int .i64) (.pair (.int .i64) (.int .i64)))))], glob := glob0, proc := procTab [(66, slices_IndexFunc_Row__profile_Refutes_1.p)], lproc := lprocTab [], n0 := 1, ntmps := 9 }
theorem slices_ContainsFunc_Row__profile_Refutes_1.ok : ProcsOk slices_ContainsFunc_Row__profile_Refutes_1.E := AllSound.ok (l := [(66, slices_IndexFunc_Row__profile_Refutes_1.p)]) (by kernel_rfl) rfl ⟨slices_IndexFunc_Row__profile_Refutes_1.sound, trivial⟩
noncomputable def slices_ContainsFunc_Row__profile_Refutes_1.body0 : Code := (match Try.f41.body with | some c => c | none => .skip)
noncomputable def slices_ContainsFunc_Row__profile_Refutes_1.ann : Ann := .z
set_option maxRecDepth 100000 in
theorem slices_ContainsFunc_Row__profile_Refutes_1.eq (x : Tup slices_ContainsFunc_Row__profile_Refutes_1.p.inS) : peFn slices_ContainsFunc_Row__profile_Refutes_1.E Try.f41 slices_ContainsFunc_Row__profile_Refutes_1.ann slices_ContainsFunc_Row__profile_Refutes_1.p x = slices_ContainsFunc_Row__profile_Refutes_1.p.F x := by
  have h : peFn slices_ContainsFunc_Row__profile_Refutes_1.E Try.f41 slices_ContainsFunc_Row__profile_Refutes_1.ann slices_ContainsFunc_Row__profile_Refutes_1.p x = slices_ContainsFunc_Row__profile_Refutes_1.F0 x.1.1 x.2.2.1 := by kernel_rfl
  exact h.trans (by show _ = slices_ContainsFunc_Row__profile_Refutes_1.F x.1.1 x.2.2.1; rw [slices_ContainsFunc_Row__profile_Refutes_1.F_eq])
set_option maxRecDepth 100000 in
theorem slices_ContainsFunc_Row__profile_Refutes_1.sound : ProcSound Try.prog glob0 41 slices_ContainsFunc_Row__profile_Refutes_1.p :=
  fn_sound (E := slices_ContainsFunc_Row__profile_Refutes_1.E) (c := slices_ContainsFunc_Row__profile_Refutes_1.body0) (ann := slices_ContainsFunc_Row__profile_Refutes_1.ann) slices_ContainsFunc_Row__profile_Refutes_1.ok Try.func41 (of_decide_eq_true (by kernel_rfl)) rfl rfl rfl (by decide +kernel) ((SubsOk_z _ _) : SubsOk slices_ContainsFunc_Row__profile_Refutes_1.E slices_ContainsFunc_Row__profile_Refutes_1.body0 slices_ContainsFunc_Row__profile_Refutes_1.ann) (fun _ => rfl) rfl slices_ContainsFunc_Row__profile_Refutes_1.eq

/-! ### armplan/profile.Refutes: function 28 -/
noncomputable def profile_Refutes.F0 (a0 : List (Int)) (a1 : List ((Int × (Int × (Int × Int))))) (a2 : List (Int)) : Option (Bool) :=
  ((profile_Replay.F a0 a1 a2).bind fun r1 => (bif (!r1.1) then some false else ((slices_Min_int64.F r1.2).bind fun r2 => (bif decide (r2 < (0 : Int)) then some true else ((slices_ContainsFunc_Row__profile_Refutes_1.F a1 r1.2).bind fun r3 => some r3.1)))))
noncomputable def profile_Refutes.F : (List (Int)) → (List ((Int × (Int × (Int × Int))))) → (List (Int)) → Option (Bool) := lock profile_Refutes.F0
theorem profile_Refutes.F_eq : profile_Refutes.F = profile_Refutes.F0 := lock_eq _
noncomputable def profile_Refutes.p : Proc := { nargs := 3, inS := ⟨[(0, .lf (.dat (.int .i64))), (1, .lf (.dat (.pair (.int .i64) (.pair (.int .i64) (.pair (.int .i64) (.int .i64)))))), (2, .lf (.dat (.int .i64)))], []⟩, outS := ⟨[(0, .lf (.sc .bool))], []⟩, n0 := 0, R := Bool, F := fun x => profile_Refutes.F x.1.1 x.1.2.1 x.1.2.2.1, post := fun r => ((r, ()), ()), un := fun x => x.1.1 }
noncomputable def profile_Refutes.E : Env := { P := Try.prog, ty := tyTab [(25, (.pair (.int .i64) (.pair (.int .i64) (.pair (.int .i64) (.int .i64)))))], glob := glob0, proc := procTab [(31, profile_Replay.p), (57, slices_Min_int64.p), (41, slices_ContainsFunc_Row__profile_Refutes_1.p)], lproc := lprocTab [], n0 := 0, ntmps := 26 }
theorem profile_Refutes.ok : ProcsOk profile_Refutes.E := AllSound.ok (l := [(31, profile_Replay.p), (57, slices_Min_int64.p), (41, slices_ContainsFunc_Row__profile_Refutes_1.p)]) (by kernel_rfl) rfl ⟨profile_Replay.sound, slices_Min_int64.sound, slices_ContainsFunc_Row__profile_Refutes_1.sound, trivial⟩
noncomputable def profile_Refutes.body0 : Code := (match Try.f28.body with | some c => c | none => .skip)
noncomputable def profile_Refutes.ann : Ann := .z
set_option maxRecDepth 100000 in
theorem profile_Refutes.eq (x : Tup profile_Refutes.p.inS) : peFn profile_Refutes.E Try.f28 profile_Refutes.ann profile_Refutes.p x = profile_Refutes.p.F x := by
  have h : peFn profile_Refutes.E Try.f28 profile_Refutes.ann profile_Refutes.p x = profile_Refutes.F0 x.1.1 x.1.2.1 x.1.2.2.1 := by kernel_rfl
  exact h.trans (by show _ = profile_Refutes.F x.1.1 x.1.2.1 x.1.2.2.1; rw [profile_Refutes.F_eq])
set_option maxRecDepth 100000 in
theorem profile_Refutes.sound : ProcSound Try.prog glob0 28 profile_Refutes.p :=
  fn_sound (E := profile_Refutes.E) (c := profile_Refutes.body0) (ann := profile_Refutes.ann) profile_Refutes.ok Try.func28 (of_decide_eq_true (by kernel_rfl)) rfl rfl rfl (by decide +kernel) ((SubsOk_z _ _) : SubsOk profile_Refutes.E profile_Refutes.body0 profile_Refutes.ann) (fun _ => rfl) rfl profile_Refutes.eq

/-! ### armplan/profile.Proves: function 29 -/
noncomputable def profile_Proves.F0 (a0 : List (Int)) (a1 : List ((Int × (Int × (Int × Int))))) (a2 : List (Int)) (a3 : List (Int)) : Option (Bool) :=
  ((profile_Replay.F a0 a1 a3).bind fun r1 => (bif r1.1 then ((slices_Equal_int64.F a2 r1.2).bind fun r2 => (bif r2 then ((profile_Feasible.F a0 a1 a2).bind fun r3 => some r3) else some false)) else some false))
noncomputable def profile_Proves.F : (List (Int)) → (List ((Int × (Int × (Int × Int))))) → (List (Int)) → (List (Int)) → Option (Bool) := lock profile_Proves.F0
theorem profile_Proves.F_eq : profile_Proves.F = profile_Proves.F0 := lock_eq _
noncomputable def profile_Proves.p : Proc := { nargs := 4, inS := ⟨[(0, .lf (.dat (.int .i64))), (1, .lf (.dat (.pair (.int .i64) (.pair (.int .i64) (.pair (.int .i64) (.int .i64)))))), (2, .lf (.dat (.int .i64))), (3, .lf (.dat (.int .i64)))], []⟩, outS := ⟨[(0, .lf (.sc .bool))], []⟩, n0 := 0, R := Bool, F := fun x => profile_Proves.F x.1.1 x.1.2.1 x.1.2.2.1 x.1.2.2.2.1, post := fun r => ((r, ()), ()), un := fun x => x.1.1 }
noncomputable def profile_Proves.E : Env := { P := Try.prog, ty := tyTab [], glob := glob0, proc := procTab [(31, profile_Replay.p), (59, slices_Equal_int64.p), (18, profile_Feasible.p)], lproc := lprocTab [], n0 := 0, ntmps := 30 }
theorem profile_Proves.ok : ProcsOk profile_Proves.E := AllSound.ok (l := [(31, profile_Replay.p), (59, slices_Equal_int64.p), (18, profile_Feasible.p)]) (by kernel_rfl) rfl ⟨profile_Replay.sound, slices_Equal_int64.sound, profile_Feasible.sound, trivial⟩
noncomputable def profile_Proves.body0 : Code := (match Try.f29.body with | some c => c | none => .skip)
noncomputable def profile_Proves.ann : Ann := .z
set_option maxRecDepth 100000 in
theorem profile_Proves.eq (x : Tup profile_Proves.p.inS) : peFn profile_Proves.E Try.f29 profile_Proves.ann profile_Proves.p x = profile_Proves.p.F x := by
  have h : peFn profile_Proves.E Try.f29 profile_Proves.ann profile_Proves.p x = profile_Proves.F0 x.1.1 x.1.2.1 x.1.2.2.1 x.1.2.2.2.1 := by kernel_rfl
  exact h.trans (by show _ = profile_Proves.F x.1.1 x.1.2.1 x.1.2.2.1 x.1.2.2.2.1; rw [profile_Proves.F_eq])
set_option maxRecDepth 100000 in
theorem profile_Proves.sound : ProcSound Try.prog glob0 29 profile_Proves.p :=
  fn_sound (E := profile_Proves.E) (c := profile_Proves.body0) (ann := profile_Proves.ann) profile_Proves.ok Try.func29 (of_decide_eq_true (by kernel_rfl)) rfl rfl rfl (by decide +kernel) ((SubsOk_z _ _) : SubsOk profile_Proves.E profile_Proves.body0 profile_Proves.ann) (fun _ => rfl) rfl profile_Proves.eq

/-! ### armplan/armplanlaw41.awake: function 14 -/
noncomputable def armplanlaw41_awake.F0 (_ : Unit) : Option (Bool) :=
  ((armplanlaw41_ramps.F (5 : Int) (4 : Int)).bind fun r1 => ((profile_Greatest.F ([(0 : Int), (9 : Int), (9 : Int), (9 : Int), (0 : Int)] : List (Int)) r1).bind fun r2 => ((profile_Phases.F r2.2.1).bind fun r3 => (bif r2.1 then ((armplanmake_Same_int64.F r2.2.1 ([(0 : Int), (4 : Int), (8 : Int), (4 : Int), (0 : Int)] : List (Int))).bind fun r4 => (bif r4 then ((profile_Proves.F ([(0 : Int), (9 : Int), (9 : Int), (9 : Int), (0 : Int)] : List (Int)) r1 r2.2.1 r2.2.2).bind fun r5 => (bif r5 then ((armplanmake_Same_Phase.F r3 ([((1 : Int), ((0 : Int), (2 : Int))), ((2 : Int), ((2 : Int), (4 : Int)))] : List ((Int × (Int × Int))))).bind fun r6 => some r6) else some false)) else some false)) else some false))))
noncomputable def armplanlaw41_awake.F : Unit → Option (Bool) := lock armplanlaw41_awake.F0
theorem armplanlaw41_awake.F_eq : armplanlaw41_awake.F = armplanlaw41_awake.F0 := lock_eq _
noncomputable def armplanlaw41_awake.p : Proc := { nargs := 0, inS := ⟨[], []⟩, outS := ⟨[(0, .lf (.sc .bool))], []⟩, n0 := 0, R := Bool, F := fun x => armplanlaw41_awake.F (), post := fun r => ((r, ()), ()), un := fun x => x.1.1 }
noncomputable def armplanlaw41_awake.E : Env := { P := Try.prog, ty := tyTab [(2, (.int .i64)), (46, (.pair (.int .i64) (.pair (.int .i64) (.int .i64))))], glob := glob0, proc := procTab [(23, armplanlaw41_ramps.p), (19, profile_Greatest.p), (24, profile_Phases.p), (30, armplanmake_Same_int64.p), (29, profile_Proves.p), (33, armplanmake_Same_Phase.p)], lproc := lprocTab [], n0 := 0, ntmps := 38 }
theorem armplanlaw41_awake.ok : ProcsOk armplanlaw41_awake.E := AllSound.ok (l := [(23, armplanlaw41_ramps.p), (19, profile_Greatest.p), (24, profile_Phases.p), (30, armplanmake_Same_int64.p), (29, profile_Proves.p), (33, armplanmake_Same_Phase.p)]) (by kernel_rfl) rfl ⟨armplanlaw41_ramps.sound, profile_Greatest.sound, profile_Phases.sound, armplanmake_Same_int64.sound, profile_Proves.sound, armplanmake_Same_Phase.sound, trivial⟩
noncomputable def armplanlaw41_awake.body0 : Code := (match Try.f14.body with | some c => c | none => .skip)
noncomputable def armplanlaw41_awake.ann : Ann := .z
set_option maxRecDepth 100000 in
theorem armplanlaw41_awake.eq (x : Tup armplanlaw41_awake.p.inS) : peFn armplanlaw41_awake.E Try.f14 armplanlaw41_awake.ann armplanlaw41_awake.p x = armplanlaw41_awake.p.F x := by
  have h : peFn armplanlaw41_awake.E Try.f14 armplanlaw41_awake.ann armplanlaw41_awake.p x = armplanlaw41_awake.F0 () := by kernel_rfl
  exact h.trans (by show _ = armplanlaw41_awake.F (); rw [armplanlaw41_awake.F_eq])
set_option maxRecDepth 100000 in
theorem armplanlaw41_awake.sound : ProcSound Try.prog glob0 14 armplanlaw41_awake.p :=
  fn_sound (E := armplanlaw41_awake.E) (c := armplanlaw41_awake.body0) (ann := armplanlaw41_awake.ann) armplanlaw41_awake.ok Try.func14 (of_decide_eq_true (by kernel_rfl)) rfl rfl rfl (by decide +kernel) ((SubsOk_z _ _) : SubsOk armplanlaw41_awake.E armplanlaw41_awake.body0 armplanlaw41_awake.ann) (fun _ => rfl) rfl armplanlaw41_awake.eq

/-! ### armplan/armplanlaw41.replays: function 27 -/
noncomputable def armplanlaw41_replays.F0 (a0 : List (Int)) (a1 : List ((Int × (Int × (Int × Int))))) (a2 : List (Int)) (a3 : List (Int)) : Option (Bool) :=
  ((profile_Replay.F a0 a1 a3).bind fun r1 => ((armplanref40_Replay.F a0 a1 a3).bind fun r2 => (bif (r1.1 == r2.1) then ((armplanmake_Same_int64.F r1.2 r2.2).bind fun r3 => (bif r3 then ((profile_Proves.F a0 a1 a2 a3).bind fun r4 => ((armplanref40_Proves.F a0 a1 a2 a3).bind fun r5 => (bif (r4 == r5) then ((profile_Refutes.F a0 a1 a3).bind fun r6 => ((armplanref40_Refutes.F a0 a1 a3).bind fun r7 => some (r6 == r7))) else some false))) else some false)) else some false)))
noncomputable def armplanlaw41_replays.F : (List (Int)) → (List ((Int × (Int × (Int × Int))))) → (List (Int)) → (List (Int)) → Option (Bool) := lock armplanlaw41_replays.F0
theorem armplanlaw41_replays.F_eq : armplanlaw41_replays.F = armplanlaw41_replays.F0 := lock_eq _
noncomputable def armplanlaw41_replays.p : Proc := { nargs := 4, inS := ⟨[(0, .lf (.dat (.int .i64))), (1, .lf (.dat (.pair (.int .i64) (.pair (.int .i64) (.pair (.int .i64) (.int .i64)))))), (2, .lf (.dat (.int .i64))), (3, .lf (.dat (.int .i64)))], []⟩, outS := ⟨[(0, .lf (.sc .bool))], []⟩, n0 := 0, R := Bool, F := fun x => armplanlaw41_replays.F x.1.1 x.1.2.1 x.1.2.2.1 x.1.2.2.2.1, post := fun r => ((r, ()), ()), un := fun x => x.1.1 }
noncomputable def armplanlaw41_replays.E : Env := { P := Try.prog, ty := tyTab [], glob := glob0, proc := procTab [(31, profile_Replay.p), (54, armplanref40_Replay.p), (30, armplanmake_Same_int64.p), (29, profile_Proves.p), (55, armplanref40_Proves.p), (28, profile_Refutes.p), (56, armplanref40_Refutes.p)], lproc := lprocTab [], n0 := 0, ntmps := 59 }
theorem armplanlaw41_replays.ok : ProcsOk armplanlaw41_replays.E := AllSound.ok (l := [(31, profile_Replay.p), (54, armplanref40_Replay.p), (30, armplanmake_Same_int64.p), (29, profile_Proves.p), (55, armplanref40_Proves.p), (28, profile_Refutes.p), (56, armplanref40_Refutes.p)]) (by kernel_rfl) rfl ⟨profile_Replay.sound, armplanref40_Replay.sound, armplanmake_Same_int64.sound, profile_Proves.sound, armplanref40_Proves.sound, profile_Refutes.sound, armplanref40_Refutes.sound, trivial⟩
noncomputable def armplanlaw41_replays.body0 : Code := (match Try.f27.body with | some c => c | none => .skip)
noncomputable def armplanlaw41_replays.ann : Ann := .z
set_option maxRecDepth 100000 in
theorem armplanlaw41_replays.eq (x : Tup armplanlaw41_replays.p.inS) : peFn armplanlaw41_replays.E Try.f27 armplanlaw41_replays.ann armplanlaw41_replays.p x = armplanlaw41_replays.p.F x := by
  have h : peFn armplanlaw41_replays.E Try.f27 armplanlaw41_replays.ann armplanlaw41_replays.p x = armplanlaw41_replays.F0 x.1.1 x.1.2.1 x.1.2.2.1 x.1.2.2.2.1 := by kernel_rfl
  exact h.trans (by show _ = armplanlaw41_replays.F x.1.1 x.1.2.1 x.1.2.2.1 x.1.2.2.2.1; rw [armplanlaw41_replays.F_eq])
set_option maxRecDepth 100000 in
theorem armplanlaw41_replays.sound : ProcSound Try.prog glob0 27 armplanlaw41_replays.p :=
  fn_sound (E := armplanlaw41_replays.E) (c := armplanlaw41_replays.body0) (ann := armplanlaw41_replays.ann) armplanlaw41_replays.ok Try.func27 (of_decide_eq_true (by kernel_rfl)) rfl rfl rfl (by decide +kernel) ((SubsOk_z _ _) : SubsOk armplanlaw41_replays.E armplanlaw41_replays.body0 armplanlaw41_replays.ann) (fun _ => rfl) rfl armplanlaw41_replays.eq

end Go.Abs
