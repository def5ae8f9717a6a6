/- A part of the proof that the text with the row names: printed readings of functions, or plain lemmas about them. -/
import Derived.Test.YtceacicpjgffgaaAbsD
import Derived.Test.YtceacicpjgffgaaProg
import Derived.KernelRfl
set_option linter.unusedVariables false
set_option linter.unusedSimpArgs false
namespace Go.Abs
open Go Go.Proofs

noncomputable def glob0 : Nat → Option (List DLeaf) := globTab []

/-! ### armplan/armplanlaw41.few: function 13 -/
noncomputable def armplanlaw41_few.F0 (a0 : List (Int)) (a1 : List ((Int × (Int × (Int × Int))))) (a2 : List (Int)) (a3 : List (Int)) : Option (Bool) :=
  (bif decide ((a0.length : Int) ≤ (70 : Int)) then (bif decide ((a1.length : Int) ≤ (60 : Int)) then (bif decide ((a2.length : Int) ≤ (70 : Int)) then some (decide ((a3.length : Int) ≤ (200 : Int))) else some false) else some false) else some false)
noncomputable def armplanlaw41_few.F : (List (Int)) → (List ((Int × (Int × (Int × Int))))) → (List (Int)) → (List (Int)) → Option (Bool) := lock armplanlaw41_few.F0
theorem armplanlaw41_few.F_eq : armplanlaw41_few.F = armplanlaw41_few.F0 := lock_eq _
noncomputable def armplanlaw41_few.p : Proc := { nargs := 4, inS := ⟨[(0, .lf (.dat (.int .i64))), (1, .lf (.dat (.pair (.int .i64) (.pair (.int .i64) (.pair (.int .i64) (.int .i64)))))), (2, .lf (.dat (.int .i64))), (3, .lf (.dat (.int .i64)))], []⟩, outS := ⟨[(0, .lf (.sc .bool))], []⟩, n0 := 0, R := Bool, F := fun x => armplanlaw41_few.F x.1.1 x.1.2.1 x.1.2.2.1 x.1.2.2.2.1, post := fun r => ((r, ()), ()), un := fun x => x.1.1 }
noncomputable def armplanlaw41_few.E : Env := { P := Try.prog, ty := tyTab [], glob := glob0, proc := procTab [], lproc := lprocTab [], n0 := 0, ntmps := 27 }
theorem armplanlaw41_few.ok : ProcsOk armplanlaw41_few.E := AllSound.ok (l := []) (by kernel_rfl) rfl trivial
noncomputable def armplanlaw41_few.body0 : Code := (match Try.f13.body with | some c => c | none => .skip)
noncomputable def armplanlaw41_few.ann : Ann := .z
set_option maxRecDepth 100000 in
theorem armplanlaw41_few.eq (x : Tup armplanlaw41_few.p.inS) : peFn armplanlaw41_few.E Try.f13 armplanlaw41_few.ann armplanlaw41_few.p x = armplanlaw41_few.p.F x := by
  have h : peFn armplanlaw41_few.E Try.f13 armplanlaw41_few.ann armplanlaw41_few.p x = armplanlaw41_few.F0 x.1.1 x.1.2.1 x.1.2.2.1 x.1.2.2.2.1 := by kernel_rfl
  exact h.trans (by show _ = armplanlaw41_few.F x.1.1 x.1.2.1 x.1.2.2.1 x.1.2.2.2.1; rw [armplanlaw41_few.F_eq])
set_option maxRecDepth 100000 in
theorem armplanlaw41_few.sound : ProcSound Try.prog glob0 13 armplanlaw41_few.p :=
  fn_sound (E := armplanlaw41_few.E) (c := armplanlaw41_few.body0) (ann := armplanlaw41_few.ann) armplanlaw41_few.ok Try.func13 (of_decide_eq_true (by kernel_rfl)) rfl rfl rfl (by decide +kernel) ((SubsOk_z _ _) : SubsOk armplanlaw41_few.E armplanlaw41_few.body0 armplanlaw41_few.ann) (fun _ => rfl) rfl armplanlaw41_few.eq

/-! ### armplan/armplanmake.Round: function 22 -/
noncomputable def armplanmake_Round.F0 (a0 : Int) (a1 : Int) : Option (Int) :=
  (bif (a1 != 0) then (bif decide ((a0.tmod a1) < (0 : Int)) then some (IntKind.wrap .i64 ((a0.tmod a1) + a1)) else some (a0.tmod a1)) else none)
noncomputable def armplanmake_Round.F : Int → Int → Option (Int) := lock armplanmake_Round.F0
theorem armplanmake_Round.F_eq : armplanmake_Round.F = armplanmake_Round.F0 := lock_eq _
noncomputable def armplanmake_Round.p : Proc := { nargs := 2, inS := ⟨[(0, .lf (.sc (.int .i64))), (1, .lf (.sc (.int .i64)))], []⟩, outS := ⟨[(0, .lf (.sc (.int .i64)))], []⟩, n0 := 0, R := Int, F := fun x => armplanmake_Round.F x.1.1 x.1.2.1, post := fun r => ((r, ()), ()), un := fun x => x.1.1 }
noncomputable def armplanmake_Round.E : Env := { P := Try.prog, ty := tyTab [], glob := glob0, proc := procTab [], lproc := lprocTab [], n0 := 0, ntmps := 15 }
theorem armplanmake_Round.ok : ProcsOk armplanmake_Round.E := AllSound.ok (l := []) (by kernel_rfl) rfl trivial
noncomputable def armplanmake_Round.body0 : Code := (match Try.f22.body with | some c => c | none => .skip)
noncomputable def armplanmake_Round.ann : Ann := .z
set_option maxRecDepth 100000 in
theorem armplanmake_Round.eq (x : Tup armplanmake_Round.p.inS) : peFn armplanmake_Round.E Try.f22 armplanmake_Round.ann armplanmake_Round.p x = armplanmake_Round.p.F x := by
  have h : peFn armplanmake_Round.E Try.f22 armplanmake_Round.ann armplanmake_Round.p x = armplanmake_Round.F0 x.1.1 x.1.2.1 := by kernel_rfl
  exact h.trans (by show _ = armplanmake_Round.F x.1.1 x.1.2.1; rw [armplanmake_Round.F_eq])
set_option maxRecDepth 100000 in
theorem armplanmake_Round.sound : ProcSound Try.prog glob0 22 armplanmake_Round.p :=
  fn_sound (E := armplanmake_Round.E) (c := armplanmake_Round.body0) (ann := armplanmake_Round.ann) armplanmake_Round.ok Try.func22 (of_decide_eq_true (by kernel_rfl)) rfl rfl rfl (by decide +kernel) ((SubsOk_z _ _) : SubsOk armplanmake_Round.E armplanmake_Round.body0 armplanmake_Round.ann) (fun _ => rfl) rfl armplanmake_Round.eq

/-! ### armplan/armplanlaw41.ramps: function 23 -/
noncomputable def armplanlaw41_ramps.p0.round (v0 : Int) (v1 : Int) (v2 : Int) (v3 : List ((Int × (Int × (Int × Int))))) : Option ((Int × Int × Int × List ((Int × (Int × (Int × Int))))) ⊕ ((List ((Int × (Int × (Int × Int))))))) :=
  (bif decide ((IntKind.wrap .i64 (v2 + (1 : Int))) < v0) then (bif decide (v3.length + ([(v2, ((-1 : Int), ((1 : Int), v1))), (v2, ((1 : Int), ((-1 : Int), v1)))] : List ((Int × (Int × (Int × Int))))).length < 4398046511104) then some (.inl (v0, v1, (IntKind.wrap .i64 (v2 + (1 : Int))), (v3 ++ ([(v2, ((-1 : Int), ((1 : Int), v1))), (v2, ((1 : Int), ((-1 : Int), v1)))] : List ((Int × (Int × (Int × Int)))))))) else none) else some (.inr v3))
noncomputable def armplanlaw41_ramps.p0.step (s : Int × Int × Int × List ((Int × (Int × (Int × Int))))) : Option ((Int × Int × Int × List ((Int × (Int × (Int × Int))))) ⊕ ((List ((Int × (Int × (Int × Int))))))) := armplanlaw41_ramps.p0.round s.1 s.2.1 s.2.2.1 s.2.2.2
noncomputable def armplanlaw41_ramps.p0.inS : Shape := ⟨[(0, .lf (.sc (.int .i64))), (1, .lf (.sc (.int .i64))), (5, .lf (.own 0)), (6, .lf (.sc (.int .i64)))], [.row 25 (.pair (.int .i64) (.pair (.int .i64) (.pair (.int .i64) (.int .i64))))]⟩
noncomputable def armplanlaw41_ramps.p0.w0 : Way := { ex := (.ex 0), S := ⟨[(5, .lf (.own 0))], [.row 25 (.pair (.int .i64) (.pair (.int .i64) (.pair (.int .i64) (.int .i64))))]⟩, R := List ((Int × (Int × (Int × Int)))), post := fun r => (((), ()), (r, ())), un := fun x => x.2.1 }
noncomputable def armplanlaw41_ramps.p0.outs : List Way := [armplanlaw41_ramps.p0.w0]
noncomputable def armplanlaw41_ramps.p0.un (x : Tup armplanlaw41_ramps.p0.inS) : Int × Int × Int × List ((Int × (Int × (Int × Int)))) := (x.1.1, x.1.2.1, x.1.2.2.2.1, x.2.1)
noncomputable def armplanlaw41_ramps.p0.lp : LProc := { inS := armplanlaw41_ramps.p0.inS, outs := armplanlaw41_ramps.p0.outs, F := fun x => loopF armplanlaw41_ramps.p0.step (armplanlaw41_ramps.p0.un x) }
noncomputable def armplanlaw41_ramps.F0 (a0 : Int) (a1 : Int) : Option (List ((Int × (Int × (Int × Int))))) :=
  ((loopF armplanlaw41_ramps.p0.step (a0, a1, (0 : Int), ([] : List ((Int × (Int × (Int × Int))))))).bind fun y1 => some y1)
noncomputable def armplanlaw41_ramps.F : Int → Int → Option (List ((Int × (Int × (Int × Int))))) := lock armplanlaw41_ramps.F0
theorem armplanlaw41_ramps.F_eq : armplanlaw41_ramps.F = armplanlaw41_ramps.F0 := lock_eq _
noncomputable def armplanlaw41_ramps.p : Proc := { nargs := 2, inS := ⟨[(0, .lf (.sc (.int .i64))), (1, .lf (.sc (.int .i64)))], []⟩, outS := ⟨[(0, .lf (.own 0))], [.row 25 (.pair (.int .i64) (.pair (.int .i64) (.pair (.int .i64) (.int .i64))))]⟩, n0 := 0, R := List ((Int × (Int × (Int × Int)))), F := fun x => armplanlaw41_ramps.F x.1.1 x.1.2.1, post := fun r => (((), ()), (r, ())), un := fun x => x.2.1 }
noncomputable def armplanlaw41_ramps.E : Env := { P := Try.prog, ty := tyTab [(25, (.pair (.int .i64) (.pair (.int .i64) (.pair (.int .i64) (.int .i64)))))], glob := glob0, proc := procTab [], lproc := lprocTab [(0, armplanlaw41_ramps.p0.lp)], n0 := 0, ntmps := 23 }
theorem armplanlaw41_ramps.ok : ProcsOk armplanlaw41_ramps.E := AllSound.ok (l := []) (by kernel_rfl) rfl trivial
noncomputable def armplanlaw41_ramps.body0 : Code := (match Try.f23.body with | some c => c | none => .skip)
noncomputable def armplanlaw41_ramps.p0.c : Code := ((codeAt armplanlaw41_ramps.body0 [.r, .r, .l, .r, .b, .b]).getD .skip)
noncomputable def armplanlaw41_ramps.p0.ann : Ann := .z
set_option maxRecDepth 100000 in
theorem armplanlaw41_ramps.p0.eq (x : Tup armplanlaw41_ramps.p0.inS) : peRound armplanlaw41_ramps.E armplanlaw41_ramps.p0.c armplanlaw41_ramps.p0.ann _ armplanlaw41_ramps.p0.inS armplanlaw41_ramps.p0.un armplanlaw41_ramps.p0.outs x = armplanlaw41_ramps.p0.step (armplanlaw41_ramps.p0.un x) := by
  kernel_rfl
set_option maxRecDepth 100000 in
theorem armplanlaw41_ramps.p0.sound : LProcSound armplanlaw41_ramps.E (.loop armplanlaw41_ramps.p0.c) armplanlaw41_ramps.p0.lp :=
  loop_sound (c := armplanlaw41_ramps.p0.c) (ann := armplanlaw41_ramps.p0.ann) armplanlaw41_ramps.ok ((SubsOk_z _ _) : SubsOk armplanlaw41_ramps.E armplanlaw41_ramps.p0.c armplanlaw41_ramps.p0.ann) (by intro a ha; simp only [armplanlaw41_ramps.p0.outs, List.mem_cons, List.not_mem_nil, or_false] at ha; rcases ha with rfl <;> exact fun _ => rfl) armplanlaw41_ramps.p0.eq
noncomputable def armplanlaw41_ramps.ann : Ann := .s (.z) (.s (.z) (.s (.s (.z) (.b (.sub 0))) (.z)))
set_option maxRecDepth 100000 in
theorem armplanlaw41_ramps.eq (x : Tup armplanlaw41_ramps.p.inS) : peFn armplanlaw41_ramps.E Try.f23 armplanlaw41_ramps.ann armplanlaw41_ramps.p x = armplanlaw41_ramps.p.F x := by
  have h : peFn armplanlaw41_ramps.E Try.f23 armplanlaw41_ramps.ann armplanlaw41_ramps.p x = armplanlaw41_ramps.F0 x.1.1 x.1.2.1 := by kernel_rfl
  exact h.trans (by show _ = armplanlaw41_ramps.F x.1.1 x.1.2.1; rw [armplanlaw41_ramps.F_eq])
set_option maxRecDepth 100000 in
theorem armplanlaw41_ramps.sound : ProcSound Try.prog glob0 23 armplanlaw41_ramps.p :=
  fn_sound (E := armplanlaw41_ramps.E) (c := armplanlaw41_ramps.body0) (ann := armplanlaw41_ramps.ann) armplanlaw41_ramps.ok Try.func23 (of_decide_eq_true (by kernel_rfl)) rfl rfl rfl (by decide +kernel) (⟨(SubsOk_z _ _), ⟨(SubsOk_z _ _), ⟨⟨(SubsOk_z _ _), (sub_of rfl armplanlaw41_ramps.p0.sound)⟩, (SubsOk_z _ _)⟩⟩⟩ : SubsOk armplanlaw41_ramps.E armplanlaw41_ramps.body0 armplanlaw41_ramps.ann) (fun _ => rfl) rfl armplanlaw41_ramps.eq

/-! ### armplan/armplanlaw41.altered: function 26 -/
noncomputable def armplanlaw41_altered.F0 (a0 : List (Int)) (a1 : Int) (a2 : Int) (a3 : Int) (a4 : Int) : Option (List (Int)) :=
  (bif decide (a0.length < 17592186044416) then ((armplanmake_Round.F a1 (4 : Int)).bind fun r1 => (bif (r1 == (0 : Int)) then (bif decide ((a0.length : Int) > (0 : Int)) then ((armplanmake_Round.F a2 (a0.length : Int)).bind fun r2 => (bif decide (0 ≤ r2) then (bif decide (r2 ≤ (a0.length : Int)) then some (a0.take r2.toNat) else none) else none)) else some a0) else (bif (r1 == (1 : Int)) then ((armplanmake_Round.F a3 (IntKind.wrap .i64 (a4 + (2 : Int)))).bind fun r3 => (bif decide (a0.length + ([(IntKind.wrap .i64 (r3 - (1 : Int)))] : List (Int)).length < 17592186044416) then some (a0 ++ ([(IntKind.wrap .i64 (r3 - (1 : Int)))] : List (Int))) else none)) else (bif (r1 == (2 : Int)) then (bif decide ((a0.length : Int) > (0 : Int)) then ((armplanmake_Round.F a2 (a0.length : Int)).bind fun r4 => ((armplanmake_Round.F a3 (IntKind.wrap .i64 (a4 + (2 : Int)))).bind fun r5 => (bif decide (0 ≤ r4) then (bif decide (r4 < (a0.length : Int)) then some (a0.set r4.toNat (IntKind.wrap .i64 (r5 - (1 : Int)))) else none) else none))) else some a0) else ((armplanmake_Round.F a3 (IntKind.wrap .i64 (a4 + (1 : Int)))).bind fun r6 => (bif decide (([r6] : List (Int)).length + a0.length < 17592186044416) then some (([r6] : List (Int)) ++ a0) else none)))))) else none)
noncomputable def armplanlaw41_altered.F : (List (Int)) → Int → Int → Int → Int → Option (List (Int)) := lock armplanlaw41_altered.F0
theorem armplanlaw41_altered.F_eq : armplanlaw41_altered.F = armplanlaw41_altered.F0 := lock_eq _
noncomputable def armplanlaw41_altered.p : Proc := { nargs := 5, inS := ⟨[(0, .lf (.dat (.int .i64))), (1, .lf (.sc (.int .i64))), (2, .lf (.sc (.int .i64))), (3, .lf (.sc (.int .i64))), (4, .lf (.sc (.int .i64)))], []⟩, outS := ⟨[(0, .lf (.dat (.int .i64)))], []⟩, n0 := 0, R := List (Int), F := fun x => armplanlaw41_altered.F x.1.1 x.1.2.1 x.1.2.2.1 x.1.2.2.2.1 x.1.2.2.2.2.1, post := fun r => ((r, ()), ()), un := fun x => x.1.1 }
noncomputable def armplanlaw41_altered.E : Env := { P := Try.prog, ty := tyTab [(3, (.int .i64))], glob := glob0, proc := procTab [(22, armplanmake_Round.p)], lproc := lprocTab [], n0 := 0, ntmps := 61 }
theorem armplanlaw41_altered.ok : ProcsOk armplanlaw41_altered.E := AllSound.ok (l := [(22, armplanmake_Round.p)]) (by kernel_rfl) rfl ⟨armplanmake_Round.sound, trivial⟩
noncomputable def armplanlaw41_altered.body0 : Code := (match Try.f26.body with | some c => c | none => .skip)
noncomputable def armplanlaw41_altered.ann : Ann := .z
set_option maxRecDepth 100000 in
theorem armplanlaw41_altered.eq (x : Tup armplanlaw41_altered.p.inS) : peFn armplanlaw41_altered.E Try.f26 armplanlaw41_altered.ann armplanlaw41_altered.p x = armplanlaw41_altered.p.F x := by
  have h : peFn armplanlaw41_altered.E Try.f26 armplanlaw41_altered.ann armplanlaw41_altered.p x = armplanlaw41_altered.F0 x.1.1 x.1.2.1 x.1.2.2.1 x.1.2.2.2.1 x.1.2.2.2.2.1 := by kernel_rfl
  exact h.trans (by show _ = armplanlaw41_altered.F x.1.1 x.1.2.1 x.1.2.2.1 x.1.2.2.2.1 x.1.2.2.2.2.1; rw [armplanlaw41_altered.F_eq])
set_option maxRecDepth 100000 in
theorem armplanlaw41_altered.sound : ProcSound Try.prog glob0 26 armplanlaw41_altered.p :=
  fn_sound (E := armplanlaw41_altered.E) (c := armplanlaw41_altered.body0) (ann := armplanlaw41_altered.ann) armplanlaw41_altered.ok Try.func26 (of_decide_eq_true (by kernel_rfl)) rfl rfl rfl (by decide +kernel) ((SubsOk_z _ _) : SubsOk armplanlaw41_altered.E armplanlaw41_altered.body0 armplanlaw41_altered.ann) (fun _ => rfl) rfl armplanlaw41_altered.eq

/-! ### armplan/armplanmake.Same[int64]: function 30 -/
noncomputable def armplanmake_Same_int64.p0.round (v0 : List (Int)) (v1 : List (Int)) (v2 : Int) : Option ((List (Int) × List (Int) × Int) ⊕ ((Bool) ⊕ (Unit))) :=
  (bif decide (v2 < (v0.length : Int)) then (bif decide (0 ≤ v2) then (bif decide (v2 < (v0.length : Int)) then (bif decide (0 ≤ v2) then (bif decide (v2 < (v1.length : Int)) then (bif ((v0.getD v2.toNat (0 : Int)) != (v1.getD v2.toNat (0 : Int))) then some (.inr (.inl false)) else some (.inl (v0, v1, (IntKind.wrap .i64 (v2 + (1 : Int)))))) else none) else none) else none) else none) else some (.inr (.inr ())))
noncomputable def armplanmake_Same_int64.p0.step (s : List (Int) × List (Int) × Int) : Option ((List (Int) × List (Int) × Int) ⊕ ((Bool) ⊕ (Unit))) := armplanmake_Same_int64.p0.round s.1 s.2.1 s.2.2
noncomputable def armplanmake_Same_int64.p0.inS : Shape := ⟨[(0, .lf (.dat (.int .i64))), (1, .lf (.dat (.int .i64))), (5, .lf (.sc (.int .i64)))], []⟩
noncomputable def armplanmake_Same_int64.p0.w0 : Way := { ex := .rt, S := ⟨[(4, .lf (.sc .bool))], []⟩, R := Bool, post := fun r => ((r, ()), ()), un := fun x => x.1.1 }
noncomputable def armplanmake_Same_int64.p0.w1 : Way := { ex := (.ex 0), S := ⟨[], []⟩, R := Unit, post := fun r => ((), ()), un := fun x => () }
noncomputable def armplanmake_Same_int64.p0.outs : List Way := [armplanmake_Same_int64.p0.w0, armplanmake_Same_int64.p0.w1]
noncomputable def armplanmake_Same_int64.p0.un (x : Tup armplanmake_Same_int64.p0.inS) : List (Int) × List (Int) × Int := (x.1.1, x.1.2.1, x.1.2.2.1)
noncomputable def armplanmake_Same_int64.p0.lp : LProc := { inS := armplanmake_Same_int64.p0.inS, outs := armplanmake_Same_int64.p0.outs, F := fun x => loopF armplanmake_Same_int64.p0.step (armplanmake_Same_int64.p0.un x) }
noncomputable def armplanmake_Same_int64.F0 (a0 : List (Int)) (a1 : List (Int)) : Option (Bool) :=
  (bif ((a0.length : Int) != (a1.length : Int)) then some false else ((loopF armplanmake_Same_int64.p0.step (a0, a1, (0 : Int))).bind fun y1 => (Sum.elim (fun y2 => some y2) (fun z3 => some true) y1)))
noncomputable def armplanmake_Same_int64.F : (List (Int)) → (List (Int)) → Option (Bool) := lock armplanmake_Same_int64.F0
theorem armplanmake_Same_int64.F_eq : armplanmake_Same_int64.F = armplanmake_Same_int64.F0 := lock_eq _
noncomputable def armplanmake_Same_int64.p : Proc := { nargs := 2, inS := ⟨[(0, .lf (.dat (.int .i64))), (1, .lf (.dat (.int .i64)))], []⟩, outS := ⟨[(0, .lf (.sc .bool))], []⟩, n0 := 0, R := Bool, F := fun x => armplanmake_Same_int64.F x.1.1 x.1.2.1, post := fun r => ((r, ()), ()), un := fun x => x.1.1 }
noncomputable def armplanmake_Same_int64.E : Env := { P := Try.prog, ty := tyTab [], glob := glob0, proc := procTab [], lproc := lprocTab [(0, armplanmake_Same_int64.p0.lp)], n0 := 0, ntmps := 26 }
theorem armplanmake_Same_int64.ok : ProcsOk armplanmake_Same_int64.E := AllSound.ok (l := []) (by kernel_rfl) rfl trivial
noncomputable def armplanmake_Same_int64.body0 : Code := (match Try.f30.body with | some c => c | none => .skip)
noncomputable def armplanmake_Same_int64.p0.c : Code := ((codeAt armplanmake_Same_int64.body0 [.r, .r, .l, .r, .b, .b]).getD .skip)
noncomputable def armplanmake_Same_int64.p0.ann : Ann := .z
set_option maxRecDepth 100000 in
theorem armplanmake_Same_int64.p0.eq (x : Tup armplanmake_Same_int64.p0.inS) : peRound armplanmake_Same_int64.E armplanmake_Same_int64.p0.c armplanmake_Same_int64.p0.ann _ armplanmake_Same_int64.p0.inS armplanmake_Same_int64.p0.un armplanmake_Same_int64.p0.outs x = armplanmake_Same_int64.p0.step (armplanmake_Same_int64.p0.un x) := by
  kernel_rfl
set_option maxRecDepth 100000 in
theorem armplanmake_Same_int64.p0.sound : LProcSound armplanmake_Same_int64.E (.loop armplanmake_Same_int64.p0.c) armplanmake_Same_int64.p0.lp :=
  loop_sound (c := armplanmake_Same_int64.p0.c) (ann := armplanmake_Same_int64.p0.ann) armplanmake_Same_int64.ok ((SubsOk_z _ _) : SubsOk armplanmake_Same_int64.E armplanmake_Same_int64.p0.c armplanmake_Same_int64.p0.ann) (by intro a ha; simp only [armplanmake_Same_int64.p0.outs, List.mem_cons, List.not_mem_nil, or_false] at ha; rcases ha with rfl | rfl <;> exact fun _ => rfl) armplanmake_Same_int64.p0.eq
noncomputable def armplanmake_Same_int64.ann : Ann := .s (.z) (.s (.z) (.s (.s (.z) (.b (.sub 0))) (.z)))
set_option maxRecDepth 100000 in
theorem armplanmake_Same_int64.eq (x : Tup armplanmake_Same_int64.p.inS) : peFn armplanmake_Same_int64.E Try.f30 armplanmake_Same_int64.ann armplanmake_Same_int64.p x = armplanmake_Same_int64.p.F x := by
  have h : peFn armplanmake_Same_int64.E Try.f30 armplanmake_Same_int64.ann armplanmake_Same_int64.p x = armplanmake_Same_int64.F0 x.1.1 x.1.2.1 := by kernel_rfl
  exact h.trans (by show _ = armplanmake_Same_int64.F x.1.1 x.1.2.1; rw [armplanmake_Same_int64.F_eq])
set_option maxRecDepth 100000 in
theorem armplanmake_Same_int64.sound : ProcSound Try.prog glob0 30 armplanmake_Same_int64.p :=
  fn_sound (E := armplanmake_Same_int64.E) (c := armplanmake_Same_int64.body0) (ann := armplanmake_Same_int64.ann) armplanmake_Same_int64.ok Try.func30 (of_decide_eq_true (by kernel_rfl)) rfl rfl rfl (by decide +kernel) (⟨(SubsOk_z _ _), ⟨(SubsOk_z _ _), ⟨⟨(SubsOk_z _ _), (sub_of rfl armplanmake_Same_int64.p0.sound)⟩, (SubsOk_z _ _)⟩⟩⟩ : SubsOk armplanmake_Same_int64.E armplanmake_Same_int64.body0 armplanmake_Same_int64.ann) (fun _ => rfl) rfl armplanmake_Same_int64.eq

/-! ### armplan/armplanmake.Same[armplan/api.Phase]: function 33 -/
noncomputable def armplanmake_Same_Phase.p0.round (v0 : List ((Int × (Int × Int)))) (v1 : List ((Int × (Int × Int)))) (v2 : Int) : Option ((List ((Int × (Int × Int))) × List ((Int × (Int × Int))) × Int) ⊕ ((Bool) ⊕ (Unit))) :=
  (bif decide (v2 < (v0.length : Int)) then (bif decide (0 ≤ v2) then (bif decide (v2 < (v0.length : Int)) then (bif decide (0 ≤ v2) then (bif decide (v2 < (v1.length : Int)) then (bif (!(((v0.getD v2.toNat ((0 : Int), ((0 : Int), (0 : Int)))).1 == (v1.getD v2.toNat ((0 : Int), ((0 : Int), (0 : Int)))).1) && ((((v0.getD v2.toNat ((0 : Int), ((0 : Int), (0 : Int)))).2).1 == ((v1.getD v2.toNat ((0 : Int), ((0 : Int), (0 : Int)))).2).1) && ((((v0.getD v2.toNat ((0 : Int), ((0 : Int), (0 : Int)))).2).2 == ((v1.getD v2.toNat ((0 : Int), ((0 : Int), (0 : Int)))).2).2) && true)))) then some (.inr (.inl false)) else some (.inl (v0, v1, (IntKind.wrap .i64 (v2 + (1 : Int)))))) else none) else none) else none) else none) else some (.inr (.inr ())))
noncomputable def armplanmake_Same_Phase.p0.step (s : List ((Int × (Int × Int))) × List ((Int × (Int × Int))) × Int) : Option ((List ((Int × (Int × Int))) × List ((Int × (Int × Int))) × Int) ⊕ ((Bool) ⊕ (Unit))) := armplanmake_Same_Phase.p0.round s.1 s.2.1 s.2.2
noncomputable def armplanmake_Same_Phase.p0.inS : Shape := ⟨[(0, .lf (.dat (.pair (.int .i64) (.pair (.int .i64) (.int .i64))))), (1, .lf (.dat (.pair (.int .i64) (.pair (.int .i64) (.int .i64))))), (5, .lf (.sc (.int .i64)))], []⟩
noncomputable def armplanmake_Same_Phase.p0.w0 : Way := { ex := .rt, S := ⟨[(4, .lf (.sc .bool))], []⟩, R := Bool, post := fun r => ((r, ()), ()), un := fun x => x.1.1 }
noncomputable def armplanmake_Same_Phase.p0.w1 : Way := { ex := (.ex 0), S := ⟨[], []⟩, R := Unit, post := fun r => ((), ()), un := fun x => () }
noncomputable def armplanmake_Same_Phase.p0.outs : List Way := [armplanmake_Same_Phase.p0.w0, armplanmake_Same_Phase.p0.w1]
noncomputable def armplanmake_Same_Phase.p0.un (x : Tup armplanmake_Same_Phase.p0.inS) : List ((Int × (Int × Int))) × List ((Int × (Int × Int))) × Int := (x.1.1, x.1.2.1, x.1.2.2.1)
noncomputable def armplanmake_Same_Phase.p0.lp : LProc := { inS := armplanmake_Same_Phase.p0.inS, outs := armplanmake_Same_Phase.p0.outs, F := fun x => loopF armplanmake_Same_Phase.p0.step (armplanmake_Same_Phase.p0.un x) }
noncomputable def armplanmake_Same_Phase.F0 (a0 : List ((Int × (Int × Int)))) (a1 : List ((Int × (Int × Int)))) : Option (Bool) :=
  (bif ((a0.length : Int) != (a1.length : Int)) then some false else ((loopF armplanmake_Same_Phase.p0.step (a0, a1, (0 : Int))).bind fun y1 => (Sum.elim (fun y2 => some y2) (fun z3 => some true) y1)))
noncomputable def armplanmake_Same_Phase.F : (List ((Int × (Int × Int)))) → (List ((Int × (Int × Int)))) → Option (Bool) := lock armplanmake_Same_Phase.F0
theorem armplanmake_Same_Phase.F_eq : armplanmake_Same_Phase.F = armplanmake_Same_Phase.F0 := lock_eq _
noncomputable def armplanmake_Same_Phase.p : Proc := { nargs := 2, inS := ⟨[(0, .lf (.dat (.pair (.int .i64) (.pair (.int .i64) (.int .i64))))), (1, .lf (.dat (.pair (.int .i64) (.pair (.int .i64) (.int .i64)))))], []⟩, outS := ⟨[(0, .lf (.sc .bool))], []⟩, n0 := 0, R := Bool, F := fun x => armplanmake_Same_Phase.F x.1.1 x.1.2.1, post := fun r => ((r, ()), ()), un := fun x => x.1.1 }
noncomputable def armplanmake_Same_Phase.E : Env := { P := Try.prog, ty := tyTab [], glob := glob0, proc := procTab [], lproc := lprocTab [(0, armplanmake_Same_Phase.p0.lp)], n0 := 0, ntmps := 26 }
theorem armplanmake_Same_Phase.ok : ProcsOk armplanmake_Same_Phase.E := AllSound.ok (l := []) (by kernel_rfl) rfl trivial
noncomputable def armplanmake_Same_Phase.body0 : Code := (match Try.f33.body with | some c => c | none => .skip)
noncomputable def armplanmake_Same_Phase.p0.c : Code := ((codeAt armplanmake_Same_Phase.body0 [.r, .r, .l, .r, .b, .b]).getD .skip)
noncomputable def armplanmake_Same_Phase.p0.ann : Ann := .z
set_option maxRecDepth 100000 in
theorem armplanmake_Same_Phase.p0.eq (x : Tup armplanmake_Same_Phase.p0.inS) : peRound armplanmake_Same_Phase.E armplanmake_Same_Phase.p0.c armplanmake_Same_Phase.p0.ann _ armplanmake_Same_Phase.p0.inS armplanmake_Same_Phase.p0.un armplanmake_Same_Phase.p0.outs x = armplanmake_Same_Phase.p0.step (armplanmake_Same_Phase.p0.un x) := by
  kernel_rfl
set_option maxRecDepth 100000 in
theorem armplanmake_Same_Phase.p0.sound : LProcSound armplanmake_Same_Phase.E (.loop armplanmake_Same_Phase.p0.c) armplanmake_Same_Phase.p0.lp :=
  loop_sound (c := armplanmake_Same_Phase.p0.c) (ann := armplanmake_Same_Phase.p0.ann) armplanmake_Same_Phase.ok ((SubsOk_z _ _) : SubsOk armplanmake_Same_Phase.E armplanmake_Same_Phase.p0.c armplanmake_Same_Phase.p0.ann) (by intro a ha; simp only [armplanmake_Same_Phase.p0.outs, List.mem_cons, List.not_mem_nil, or_false] at ha; rcases ha with rfl | rfl <;> exact fun _ => rfl) armplanmake_Same_Phase.p0.eq
noncomputable def armplanmake_Same_Phase.ann : Ann := .s (.z) (.s (.z) (.s (.s (.z) (.b (.sub 0))) (.z)))
set_option maxRecDepth 100000 in
theorem armplanmake_Same_Phase.eq (x : Tup armplanmake_Same_Phase.p.inS) : peFn armplanmake_Same_Phase.E Try.f33 armplanmake_Same_Phase.ann armplanmake_Same_Phase.p x = armplanmake_Same_Phase.p.F x := by
  have h : peFn armplanmake_Same_Phase.E Try.f33 armplanmake_Same_Phase.ann armplanmake_Same_Phase.p x = armplanmake_Same_Phase.F0 x.1.1 x.1.2.1 := by kernel_rfl
  exact h.trans (by show _ = armplanmake_Same_Phase.F x.1.1 x.1.2.1; rw [armplanmake_Same_Phase.F_eq])
set_option maxRecDepth 100000 in
theorem armplanmake_Same_Phase.sound : ProcSound Try.prog glob0 33 armplanmake_Same_Phase.p :=
  fn_sound (E := armplanmake_Same_Phase.E) (c := armplanmake_Same_Phase.body0) (ann := armplanmake_Same_Phase.ann) armplanmake_Same_Phase.ok Try.func33 (of_decide_eq_true (by kernel_rfl)) rfl rfl rfl (by decide +kernel) (⟨(SubsOk_z _ _), ⟨(SubsOk_z _ _), ⟨⟨(SubsOk_z _ _), (sub_of rfl armplanmake_Same_Phase.p0.sound)⟩, (SubsOk_z _ _)⟩⟩⟩ : SubsOk armplanmake_Same_Phase.E armplanmake_Same_Phase.body0 armplanmake_Same_Phase.ann) (fun _ => rfl) rfl armplanmake_Same_Phase.eq

/-! ### armplan/armplanref40.Phases: function 34 -/
noncomputable def armplanref40_Phases.p0.round (v0 : List (Int)) (v1 : Int) (v2 : List ((Int × (Int × Int)))) : Option ((List (Int) × Int × List ((Int × (Int × Int)))) ⊕ ((List ((Int × (Int × Int)))))) :=
  (bif decide ((IntKind.wrap .i64 (v1 + (1 : Int))) < (v0.length : Int)) then (bif decide (0 ≤ (IntKind.wrap .i64 (v1 + (1 : Int)))) then (bif decide ((IntKind.wrap .i64 (v1 + (1 : Int))) < (v0.length : Int)) then (bif decide (0 ≤ v1) then (bif decide (v1 < (v0.length : Int)) then (bif decide ((v0.getD (IntKind.wrap .i64 (v1 + (1 : Int))).toNat (0 : Int)) > (v0.getD v1.toNat (0 : Int))) then (bif decide (0 ≤ (IntKind.wrap .i64 (v1 + (1 : Int)))) then (bif decide ((IntKind.wrap .i64 (v1 + (1 : Int))) < (v0.length : Int)) then (bif decide (0 ≤ v1) then (bif decide (v1 < (v0.length : Int)) then (bif decide ((v0.getD (IntKind.wrap .i64 (v1 + (1 : Int))).toNat (0 : Int)) < (v0.getD v1.toNat (0 : Int))) then (bif decide ((v2.length : Int) > (0 : Int)) then (bif decide (0 ≤ (IntKind.wrap .i64 ((v2.length : Int) - (1 : Int)))) then (bif decide ((IntKind.wrap .i64 ((v2.length : Int) - (1 : Int))) < (v2.length : Int)) then (bif ((v2.getD (IntKind.wrap .i64 ((v2.length : Int) - (1 : Int))).toNat ((0 : Int), ((0 : Int), (0 : Int)))).1 == (2 : Int)) then (bif decide (0 ≤ (IntKind.wrap .i64 ((v2.length : Int) - (1 : Int)))) then (bif decide ((IntKind.wrap .i64 ((v2.length : Int) - (1 : Int))) < (v2.length : Int)) then some (.inl (v0, (IntKind.wrap .i64 (v1 + (1 : Int))), (v2.set (IntKind.wrap .i64 ((v2.length : Int) - (1 : Int))).toNat ((v2.getD (IntKind.wrap .i64 ((v2.length : Int) - (1 : Int))).toNat ((0 : Int), ((0 : Int), (0 : Int)))).1, (((v2.getD (IntKind.wrap .i64 ((v2.length : Int) - (1 : Int))).toNat ((0 : Int), ((0 : Int), (0 : Int)))).2).1, (IntKind.wrap .i64 (v1 + (1 : Int)))))))) else none) else none) else (bif decide (v2.length + ([((2 : Int), (v1, (IntKind.wrap .i64 (v1 + (1 : Int)))))] : List ((Int × (Int × Int)))).length < 5864062014805) then some (.inl (v0, (IntKind.wrap .i64 (v1 + (1 : Int))), (v2 ++ ([((2 : Int), (v1, (IntKind.wrap .i64 (v1 + (1 : Int)))))] : List ((Int × (Int × Int))))))) else none)) else none) else none) else (bif decide (v2.length + ([((2 : Int), (v1, (IntKind.wrap .i64 (v1 + (1 : Int)))))] : List ((Int × (Int × Int)))).length < 5864062014805) then some (.inl (v0, (IntKind.wrap .i64 (v1 + (1 : Int))), (v2 ++ ([((2 : Int), (v1, (IntKind.wrap .i64 (v1 + (1 : Int)))))] : List ((Int × (Int × Int))))))) else none)) else (bif decide ((v2.length : Int) > (0 : Int)) then (bif decide (0 ≤ (IntKind.wrap .i64 ((v2.length : Int) - (1 : Int)))) then (bif decide ((IntKind.wrap .i64 ((v2.length : Int) - (1 : Int))) < (v2.length : Int)) then (bif ((v2.getD (IntKind.wrap .i64 ((v2.length : Int) - (1 : Int))).toNat ((0 : Int), ((0 : Int), (0 : Int)))).1 == (1 : Int)) then (bif decide (0 ≤ (IntKind.wrap .i64 ((v2.length : Int) - (1 : Int)))) then (bif decide ((IntKind.wrap .i64 ((v2.length : Int) - (1 : Int))) < (v2.length : Int)) then some (.inl (v0, (IntKind.wrap .i64 (v1 + (1 : Int))), (v2.set (IntKind.wrap .i64 ((v2.length : Int) - (1 : Int))).toNat ((v2.getD (IntKind.wrap .i64 ((v2.length : Int) - (1 : Int))).toNat ((0 : Int), ((0 : Int), (0 : Int)))).1, (((v2.getD (IntKind.wrap .i64 ((v2.length : Int) - (1 : Int))).toNat ((0 : Int), ((0 : Int), (0 : Int)))).2).1, (IntKind.wrap .i64 (v1 + (1 : Int)))))))) else none) else none) else (bif decide (v2.length + ([((1 : Int), (v1, (IntKind.wrap .i64 (v1 + (1 : Int)))))] : List ((Int × (Int × Int)))).length < 5864062014805) then some (.inl (v0, (IntKind.wrap .i64 (v1 + (1 : Int))), (v2 ++ ([((1 : Int), (v1, (IntKind.wrap .i64 (v1 + (1 : Int)))))] : List ((Int × (Int × Int))))))) else none)) else none) else none) else (bif decide (v2.length + ([((1 : Int), (v1, (IntKind.wrap .i64 (v1 + (1 : Int)))))] : List ((Int × (Int × Int)))).length < 5864062014805) then some (.inl (v0, (IntKind.wrap .i64 (v1 + (1 : Int))), (v2 ++ ([((1 : Int), (v1, (IntKind.wrap .i64 (v1 + (1 : Int)))))] : List ((Int × (Int × Int))))))) else none))) else none) else none) else none) else none) else (bif decide (0 ≤ (IntKind.wrap .i64 (v1 + (1 : Int)))) then (bif decide ((IntKind.wrap .i64 (v1 + (1 : Int))) < (v0.length : Int)) then (bif decide (0 ≤ v1) then (bif decide (v1 < (v0.length : Int)) then (bif decide ((v0.getD (IntKind.wrap .i64 (v1 + (1 : Int))).toNat (0 : Int)) < (v0.getD v1.toNat (0 : Int))) then (bif decide ((v2.length : Int) > (0 : Int)) then (bif decide (0 ≤ (IntKind.wrap .i64 ((v2.length : Int) - (1 : Int)))) then (bif decide ((IntKind.wrap .i64 ((v2.length : Int) - (1 : Int))) < (v2.length : Int)) then (bif ((v2.getD (IntKind.wrap .i64 ((v2.length : Int) - (1 : Int))).toNat ((0 : Int), ((0 : Int), (0 : Int)))).1 == (2 : Int)) then (bif decide (0 ≤ (IntKind.wrap .i64 ((v2.length : Int) - (1 : Int)))) then (bif decide ((IntKind.wrap .i64 ((v2.length : Int) - (1 : Int))) < (v2.length : Int)) then some (.inl (v0, (IntKind.wrap .i64 (v1 + (1 : Int))), (v2.set (IntKind.wrap .i64 ((v2.length : Int) - (1 : Int))).toNat ((v2.getD (IntKind.wrap .i64 ((v2.length : Int) - (1 : Int))).toNat ((0 : Int), ((0 : Int), (0 : Int)))).1, (((v2.getD (IntKind.wrap .i64 ((v2.length : Int) - (1 : Int))).toNat ((0 : Int), ((0 : Int), (0 : Int)))).2).1, (IntKind.wrap .i64 (v1 + (1 : Int)))))))) else none) else none) else (bif decide (v2.length + ([((2 : Int), (v1, (IntKind.wrap .i64 (v1 + (1 : Int)))))] : List ((Int × (Int × Int)))).length < 5864062014805) then some (.inl (v0, (IntKind.wrap .i64 (v1 + (1 : Int))), (v2 ++ ([((2 : Int), (v1, (IntKind.wrap .i64 (v1 + (1 : Int)))))] : List ((Int × (Int × Int))))))) else none)) else none) else none) else (bif decide (v2.length + ([((2 : Int), (v1, (IntKind.wrap .i64 (v1 + (1 : Int)))))] : List ((Int × (Int × Int)))).length < 5864062014805) then some (.inl (v0, (IntKind.wrap .i64 (v1 + (1 : Int))), (v2 ++ ([((2 : Int), (v1, (IntKind.wrap .i64 (v1 + (1 : Int)))))] : List ((Int × (Int × Int))))))) else none)) else (bif decide ((v2.length : Int) > (0 : Int)) then (bif decide (0 ≤ (IntKind.wrap .i64 ((v2.length : Int) - (1 : Int)))) then (bif decide ((IntKind.wrap .i64 ((v2.length : Int) - (1 : Int))) < (v2.length : Int)) then (bif ((v2.getD (IntKind.wrap .i64 ((v2.length : Int) - (1 : Int))).toNat ((0 : Int), ((0 : Int), (0 : Int)))).1 == (0 : Int)) then (bif decide (0 ≤ (IntKind.wrap .i64 ((v2.length : Int) - (1 : Int)))) then (bif decide ((IntKind.wrap .i64 ((v2.length : Int) - (1 : Int))) < (v2.length : Int)) then some (.inl (v0, (IntKind.wrap .i64 (v1 + (1 : Int))), (v2.set (IntKind.wrap .i64 ((v2.length : Int) - (1 : Int))).toNat ((v2.getD (IntKind.wrap .i64 ((v2.length : Int) - (1 : Int))).toNat ((0 : Int), ((0 : Int), (0 : Int)))).1, (((v2.getD (IntKind.wrap .i64 ((v2.length : Int) - (1 : Int))).toNat ((0 : Int), ((0 : Int), (0 : Int)))).2).1, (IntKind.wrap .i64 (v1 + (1 : Int)))))))) else none) else none) else (bif decide (v2.length + ([((0 : Int), (v1, (IntKind.wrap .i64 (v1 + (1 : Int)))))] : List ((Int × (Int × Int)))).length < 5864062014805) then some (.inl (v0, (IntKind.wrap .i64 (v1 + (1 : Int))), (v2 ++ ([((0 : Int), (v1, (IntKind.wrap .i64 (v1 + (1 : Int)))))] : List ((Int × (Int × Int))))))) else none)) else none) else none) else (bif decide (v2.length + ([((0 : Int), (v1, (IntKind.wrap .i64 (v1 + (1 : Int)))))] : List ((Int × (Int × Int)))).length < 5864062014805) then some (.inl (v0, (IntKind.wrap .i64 (v1 + (1 : Int))), (v2 ++ ([((0 : Int), (v1, (IntKind.wrap .i64 (v1 + (1 : Int)))))] : List ((Int × (Int × Int))))))) else none))) else none) else none) else none) else none)) else none) else none) else none) else none) else some (.inr v2))
noncomputable def armplanref40_Phases.p0.step (s : List (Int) × Int × List ((Int × (Int × Int)))) : Option ((List (Int) × Int × List ((Int × (Int × Int)))) ⊕ ((List ((Int × (Int × Int)))))) := armplanref40_Phases.p0.round s.1 s.2.1 s.2.2
noncomputable def armplanref40_Phases.p0.inS : Shape := ⟨[(0, .lf (.dat (.int .i64))), (3, .lf (.own 0)), (4, .lf (.sc (.int .i64)))], [.row 46 (.pair (.int .i64) (.pair (.int .i64) (.int .i64)))]⟩
noncomputable def armplanref40_Phases.p0.w0 : Way := { ex := (.ex 0), S := ⟨[(3, .lf (.own 0))], [.row 46 (.pair (.int .i64) (.pair (.int .i64) (.int .i64)))]⟩, R := List ((Int × (Int × Int))), post := fun r => (((), ()), (r, ())), un := fun x => x.2.1 }
noncomputable def armplanref40_Phases.p0.outs : List Way := [armplanref40_Phases.p0.w0]
noncomputable def armplanref40_Phases.p0.un (x : Tup armplanref40_Phases.p0.inS) : List (Int) × Int × List ((Int × (Int × Int))) := (x.1.1, x.1.2.2.1, x.2.1)
noncomputable def armplanref40_Phases.p0.lp : LProc := { inS := armplanref40_Phases.p0.inS, outs := armplanref40_Phases.p0.outs, F := fun x => loopF armplanref40_Phases.p0.step (armplanref40_Phases.p0.un x) }
noncomputable def armplanref40_Phases.F0 (a0 : List (Int)) : Option (List ((Int × (Int × Int)))) :=
  ((loopF armplanref40_Phases.p0.step (a0, (0 : Int), ([] : List ((Int × (Int × Int)))))).bind fun y1 => some y1)
noncomputable def armplanref40_Phases.F : (List (Int)) → Option (List ((Int × (Int × Int)))) := lock armplanref40_Phases.F0
theorem armplanref40_Phases.F_eq : armplanref40_Phases.F = armplanref40_Phases.F0 := lock_eq _
noncomputable def armplanref40_Phases.p : Proc := { nargs := 1, inS := ⟨[(0, .lf (.dat (.int .i64)))], []⟩, outS := ⟨[(0, .lf (.own 0))], [.row 46 (.pair (.int .i64) (.pair (.int .i64) (.int .i64)))]⟩, n0 := 0, R := List ((Int × (Int × Int))), F := fun x => armplanref40_Phases.F x.1.1, post := fun r => (((), ()), (r, ())), un := fun x => x.2.1 }
noncomputable def armplanref40_Phases.E : Env := { P := Try.prog, ty := tyTab [(46, (.pair (.int .i64) (.pair (.int .i64) (.int .i64))))], glob := glob0, proc := procTab [], lproc := lprocTab [(0, armplanref40_Phases.p0.lp)], n0 := 0, ntmps := 64 }
theorem armplanref40_Phases.ok : ProcsOk armplanref40_Phases.E := AllSound.ok (l := []) (by kernel_rfl) rfl trivial
noncomputable def armplanref40_Phases.body0 : Code := (match Try.f34.body with | some c => c | none => .skip)
noncomputable def armplanref40_Phases.p0.c : Code := ((codeAt armplanref40_Phases.body0 [.r, .r, .l, .r, .b, .b]).getD .skip)
noncomputable def armplanref40_Phases.p0.ann : Ann := .z
set_option maxRecDepth 100000 in
theorem armplanref40_Phases.p0.eq (x : Tup armplanref40_Phases.p0.inS) : peRound armplanref40_Phases.E armplanref40_Phases.p0.c armplanref40_Phases.p0.ann _ armplanref40_Phases.p0.inS armplanref40_Phases.p0.un armplanref40_Phases.p0.outs x = armplanref40_Phases.p0.step (armplanref40_Phases.p0.un x) := by
  kernel_rfl
set_option maxRecDepth 100000 in
theorem armplanref40_Phases.p0.sound : LProcSound armplanref40_Phases.E (.loop armplanref40_Phases.p0.c) armplanref40_Phases.p0.lp :=
  loop_sound (c := armplanref40_Phases.p0.c) (ann := armplanref40_Phases.p0.ann) armplanref40_Phases.ok ((SubsOk_z _ _) : SubsOk armplanref40_Phases.E armplanref40_Phases.p0.c armplanref40_Phases.p0.ann) (by intro a ha; simp only [armplanref40_Phases.p0.outs, List.mem_cons, List.not_mem_nil, or_false] at ha; rcases ha with rfl <;> exact fun _ => rfl) armplanref40_Phases.p0.eq
noncomputable def armplanref40_Phases.ann : Ann := .s (.z) (.s (.z) (.s (.s (.z) (.b (.sub 0))) (.z)))
set_option maxRecDepth 100000 in
theorem armplanref40_Phases.eq (x : Tup armplanref40_Phases.p.inS) : peFn armplanref40_Phases.E Try.f34 armplanref40_Phases.ann armplanref40_Phases.p x = armplanref40_Phases.p.F x := by
  have h : peFn armplanref40_Phases.E Try.f34 armplanref40_Phases.ann armplanref40_Phases.p x = armplanref40_Phases.F0 x.1.1 := by kernel_rfl
  exact h.trans (by show _ = armplanref40_Phases.F x.1.1; rw [armplanref40_Phases.F_eq])
set_option maxRecDepth 100000 in
theorem armplanref40_Phases.sound : ProcSound Try.prog glob0 34 armplanref40_Phases.p :=
  fn_sound (E := armplanref40_Phases.E) (c := armplanref40_Phases.body0) (ann := armplanref40_Phases.ann) armplanref40_Phases.ok Try.func34 (of_decide_eq_true (by kernel_rfl)) rfl rfl rfl (by decide +kernel) (⟨(SubsOk_z _ _), ⟨(SubsOk_z _ _), ⟨⟨(SubsOk_z _ _), (sub_of rfl armplanref40_Phases.p0.sound)⟩, (SubsOk_z _ _)⟩⟩⟩ : SubsOk armplanref40_Phases.E armplanref40_Phases.body0 armplanref40_Phases.ann) (fun _ => rfl) rfl armplanref40_Phases.eq

/-! ### armplan/armplanmake.From: function 36 -/
noncomputable def armplanmake_From.F0 (a0 : List (Int)) : Option (List (Int) × Int) :=
  some (a0, (0 : Int))
noncomputable def armplanmake_From.F : (List (Int)) → Option (List (Int) × Int) := lock armplanmake_From.F0
theorem armplanmake_From.F_eq : armplanmake_From.F = armplanmake_From.F0 := lock_eq _
noncomputable def armplanmake_From.p : Proc := { nargs := 1, inS := ⟨[(0, .lf (.dat (.int .i64)))], []⟩, outS := ⟨[(0, .lf (.bp 0 0))], [.box [.dat (.int .i64), .sc (.int .i64)]]⟩, n0 := 0, R := List (Int) × Int, F := fun x => armplanmake_From.F x.1.1, post := fun r => (((), ()), ((r.1, (r.2, ())), ())), un := fun x => (x.2.1.1, x.2.1.2.1) }
noncomputable def armplanmake_From.E : Env := { P := Try.prog, ty := tyTab [], glob := glob0, proc := procTab [], lproc := lprocTab [], n0 := 0, ntmps := 6 }
theorem armplanmake_From.ok : ProcsOk armplanmake_From.E := AllSound.ok (l := []) (by kernel_rfl) rfl trivial
noncomputable def armplanmake_From.body0 : Code := (match Try.f36.body with | some c => c | none => .skip)
noncomputable def armplanmake_From.ann : Ann := .z
set_option maxRecDepth 100000 in
theorem armplanmake_From.eq (x : Tup armplanmake_From.p.inS) : peFn armplanmake_From.E Try.f36 armplanmake_From.ann armplanmake_From.p x = armplanmake_From.p.F x := by
  have h : peFn armplanmake_From.E Try.f36 armplanmake_From.ann armplanmake_From.p x = armplanmake_From.F0 x.1.1 := by kernel_rfl
  exact h.trans (by show _ = armplanmake_From.F x.1.1; rw [armplanmake_From.F_eq])
set_option maxRecDepth 100000 in
theorem armplanmake_From.sound : ProcSound Try.prog glob0 36 armplanmake_From.p :=
  fn_sound (E := armplanmake_From.E) (c := armplanmake_From.body0) (ann := armplanmake_From.ann) armplanmake_From.ok Try.func36 (of_decide_eq_true (by kernel_rfl)) rfl rfl rfl (by decide +kernel) ((SubsOk_z _ _) : SubsOk armplanmake_From.E armplanmake_From.body0 armplanmake_From.ann) (fun _ => rfl) rfl armplanmake_From.eq

/-! ### (*armplan/armplanmake.Source).Next: function 37 -/
noncomputable def armplanmake_Source_Next.F0 (a0 : Int) (a1 : List (Int)) (a2 : Int) : Option (Int × List (Int) × Int) :=
  (bif decide (a2 ≥ (a1.length : Int)) then some ((0 : Int), a1, a2) else (bif decide (0 ≤ (IntKind.wrap .i64 ((IntKind.wrap .i64 (a2 + (1 : Int))) - (1 : Int)))) then (bif decide ((IntKind.wrap .i64 ((IntKind.wrap .i64 (a2 + (1 : Int))) - (1 : Int))) < (a1.length : Int)) then ((armplanmake_Round.F (a1.getD (IntKind.wrap .i64 ((IntKind.wrap .i64 (a2 + (1 : Int))) - (1 : Int))).toNat (0 : Int)) a0).bind fun r1 => some (r1, a1, (IntKind.wrap .i64 (a2 + (1 : Int))))) else none) else none))
noncomputable def armplanmake_Source_Next.F : Int → (List (Int)) → Int → Option (Int × List (Int) × Int) := lock armplanmake_Source_Next.F0
theorem armplanmake_Source_Next.F_eq : armplanmake_Source_Next.F = armplanmake_Source_Next.F0 := lock_eq _
noncomputable def armplanmake_Source_Next.p : Proc := { nargs := 2, inS := ⟨[(0, .lf (.bp 0 0)), (1, .lf (.sc (.int .i64)))], [.box [.dat (.int .i64), .sc (.int .i64)]]⟩, outS := ⟨[(0, .lf (.sc (.int .i64)))], [.box [.dat (.int .i64), .sc (.int .i64)]]⟩, n0 := 1, R := Int × List (Int) × Int, F := fun x => armplanmake_Source_Next.F x.1.2.1 x.2.1.1 x.2.1.2.1, post := fun r => ((r.1, ()), ((r.2.1, (r.2.2, ())), ())), un := fun x => (x.1.1, x.2.1.1, x.2.1.2.1) }
noncomputable def armplanmake_Source_Next.E : Env := { P := Try.prog, ty := tyTab [], glob := glob0, proc := procTab [(22, armplanmake_Round.p)], lproc := lprocTab [], n0 := 1, ntmps := 35 }
theorem armplanmake_Source_Next.ok : ProcsOk armplanmake_Source_Next.E := AllSound.ok (l := [(22, armplanmake_Round.p)]) (by kernel_rfl) rfl ⟨armplanmake_Round.sound, trivial⟩
noncomputable def armplanmake_Source_Next.body0 : Code := (match Try.f37.body with | some c => c | none => .skip)
noncomputable def armplanmake_Source_Next.ann : Ann := .z
set_option maxRecDepth 100000 in
theorem armplanmake_Source_Next.eq (x : Tup armplanmake_Source_Next.p.inS) : peFn armplanmake_Source_Next.E Try.f37 armplanmake_Source_Next.ann armplanmake_Source_Next.p x = armplanmake_Source_Next.p.F x := by
  have h : peFn armplanmake_Source_Next.E Try.f37 armplanmake_Source_Next.ann armplanmake_Source_Next.p x = armplanmake_Source_Next.F0 x.1.2.1 x.2.1.1 x.2.1.2.1 := by kernel_rfl
  exact h.trans (by show _ = armplanmake_Source_Next.F x.1.2.1 x.2.1.1 x.2.1.2.1; rw [armplanmake_Source_Next.F_eq])
set_option maxRecDepth 100000 in
theorem armplanmake_Source_Next.sound : ProcSound Try.prog glob0 37 armplanmake_Source_Next.p :=
  fn_sound (E := armplanmake_Source_Next.E) (c := armplanmake_Source_Next.body0) (ann := armplanmake_Source_Next.ann) armplanmake_Source_Next.ok Try.func37 (of_decide_eq_true (by kernel_rfl)) rfl rfl rfl (by decide +kernel) ((SubsOk_z _ _) : SubsOk armplanmake_Source_Next.E armplanmake_Source_Next.body0 armplanmake_Source_Next.ann) (fun _ => rfl) rfl armplanmake_Source_Next.eq

/-! ### (*armplan/armplanmake.Source).Signed: function 38 -/
noncomputable def armplanmake_Source_Signed.F0 (a0 : Int) (a1 : List (Int)) (a2 : Int) : Option (Int × List (Int) × Int) :=
  ((armplanmake_Source_Next.F (IntKind.wrap .i64 ((IntKind.wrap .i64 ((2 : Int) * a0)) + (1 : Int))) a1 a2).bind fun r1 => some ((IntKind.wrap .i64 (r1.1 - a0)), r1.2.1, r1.2.2))
noncomputable def armplanmake_Source_Signed.F : Int → (List (Int)) → Int → Option (Int × List (Int) × Int) := lock armplanmake_Source_Signed.F0
theorem armplanmake_Source_Signed.F_eq : armplanmake_Source_Signed.F = armplanmake_Source_Signed.F0 := lock_eq _
noncomputable def armplanmake_Source_Signed.p : Proc := { nargs := 2, inS := ⟨[(0, .lf (.bp 0 0)), (1, .lf (.sc (.int .i64)))], [.box [.dat (.int .i64), .sc (.int .i64)]]⟩, outS := ⟨[(0, .lf (.sc (.int .i64)))], [.box [.dat (.int .i64), .sc (.int .i64)]]⟩, n0 := 1, R := Int × List (Int) × Int, F := fun x => armplanmake_Source_Signed.F x.1.2.1 x.2.1.1 x.2.1.2.1, post := fun r => ((r.1, ()), ((r.2.1, (r.2.2, ())), ())), un := fun x => (x.1.1, x.2.1.1, x.2.1.2.1) }
noncomputable def armplanmake_Source_Signed.E : Env := { P := Try.prog, ty := tyTab [], glob := glob0, proc := procTab [(37, armplanmake_Source_Next.p)], lproc := lprocTab [], n0 := 1, ntmps := 12 }
theorem armplanmake_Source_Signed.ok : ProcsOk armplanmake_Source_Signed.E := AllSound.ok (l := [(37, armplanmake_Source_Next.p)]) (by kernel_rfl) rfl ⟨armplanmake_Source_Next.sound, trivial⟩
noncomputable def armplanmake_Source_Signed.body0 : Code := (match Try.f38.body with | some c => c | none => .skip)
noncomputable def armplanmake_Source_Signed.ann : Ann := .z
set_option maxRecDepth 100000 in
theorem armplanmake_Source_Signed.eq (x : Tup armplanmake_Source_Signed.p.inS) : peFn armplanmake_Source_Signed.E Try.f38 armplanmake_Source_Signed.ann armplanmake_Source_Signed.p x = armplanmake_Source_Signed.p.F x := by
  have h : peFn armplanmake_Source_Signed.E Try.f38 armplanmake_Source_Signed.ann armplanmake_Source_Signed.p x = armplanmake_Source_Signed.F0 x.1.2.1 x.2.1.1 x.2.1.2.1 := by kernel_rfl
  exact h.trans (by show _ = armplanmake_Source_Signed.F x.1.2.1 x.2.1.1 x.2.1.2.1; rw [armplanmake_Source_Signed.F_eq])
set_option maxRecDepth 100000 in
theorem armplanmake_Source_Signed.sound : ProcSound Try.prog glob0 38 armplanmake_Source_Signed.p :=
  fn_sound (E := armplanmake_Source_Signed.E) (c := armplanmake_Source_Signed.body0) (ann := armplanmake_Source_Signed.ann) armplanmake_Source_Signed.ok Try.func38 (of_decide_eq_true (by kernel_rfl)) rfl rfl rfl (by decide +kernel) ((SubsOk_z _ _) : SubsOk armplanmake_Source_Signed.E armplanmake_Source_Signed.body0 armplanmake_Source_Signed.ann) (fun _ => rfl) rfl armplanmake_Source_Signed.eq

/-! ### armplan/armplanmake.Same[int]: function 39 -/
noncomputable def armplanmake_Same_int.p0.round (v0 : List (Int)) (v1 : List (Int)) (v2 : Int) : Option ((List (Int) × List (Int) × Int) ⊕ ((Bool) ⊕ (Unit))) :=
  (bif decide (v2 < (v0.length : Int)) then (bif decide (0 ≤ v2) then (bif decide (v2 < (v0.length : Int)) then (bif decide (0 ≤ v2) then (bif decide (v2 < (v1.length : Int)) then (bif ((v0.getD v2.toNat (0 : Int)) != (v1.getD v2.toNat (0 : Int))) then some (.inr (.inl false)) else some (.inl (v0, v1, (IntKind.wrap .i64 (v2 + (1 : Int)))))) else none) else none) else none) else none) else some (.inr (.inr ())))
noncomputable def armplanmake_Same_int.p0.step (s : List (Int) × List (Int) × Int) : Option ((List (Int) × List (Int) × Int) ⊕ ((Bool) ⊕ (Unit))) := armplanmake_Same_int.p0.round s.1 s.2.1 s.2.2
noncomputable def armplanmake_Same_int.p0.inS : Shape := ⟨[(0, .lf (.dat (.int .i64))), (1, .lf (.dat (.int .i64))), (5, .lf (.sc (.int .i64)))], []⟩
noncomputable def armplanmake_Same_int.p0.w0 : Way := { ex := .rt, S := ⟨[(4, .lf (.sc .bool))], []⟩, R := Bool, post := fun r => ((r, ()), ()), un := fun x => x.1.1 }
noncomputable def armplanmake_Same_int.p0.w1 : Way := { ex := (.ex 0), S := ⟨[], []⟩, R := Unit, post := fun r => ((), ()), un := fun x => () }
noncomputable def armplanmake_Same_int.p0.outs : List Way := [armplanmake_Same_int.p0.w0, armplanmake_Same_int.p0.w1]
noncomputable def armplanmake_Same_int.p0.un (x : Tup armplanmake_Same_int.p0.inS) : List (Int) × List (Int) × Int := (x.1.1, x.1.2.1, x.1.2.2.1)
noncomputable def armplanmake_Same_int.p0.lp : LProc := { inS := armplanmake_Same_int.p0.inS, outs := armplanmake_Same_int.p0.outs, F := fun x => loopF armplanmake_Same_int.p0.step (armplanmake_Same_int.p0.un x) }
noncomputable def armplanmake_Same_int.F0 (a0 : List (Int)) (a1 : List (Int)) : Option (Bool) :=
  (bif ((a0.length : Int) != (a1.length : Int)) then some false else ((loopF armplanmake_Same_int.p0.step (a0, a1, (0 : Int))).bind fun y1 => (Sum.elim (fun y2 => some y2) (fun z3 => some true) y1)))
noncomputable def armplanmake_Same_int.F : (List (Int)) → (List (Int)) → Option (Bool) := lock armplanmake_Same_int.F0
theorem armplanmake_Same_int.F_eq : armplanmake_Same_int.F = armplanmake_Same_int.F0 := lock_eq _
noncomputable def armplanmake_Same_int.p : Proc := { nargs := 2, inS := ⟨[(0, .lf (.dat (.int .i64))), (1, .lf (.dat (.int .i64)))], []⟩, outS := ⟨[(0, .lf (.sc .bool))], []⟩, n0 := 0, R := Bool, F := fun x => armplanmake_Same_int.F x.1.1 x.1.2.1, post := fun r => ((r, ()), ()), un := fun x => x.1.1 }
noncomputable def armplanmake_Same_int.E : Env := { P := Try.prog, ty := tyTab [], glob := glob0, proc := procTab [], lproc := lprocTab [(0, armplanmake_Same_int.p0.lp)], n0 := 0, ntmps := 26 }
theorem armplanmake_Same_int.ok : ProcsOk armplanmake_Same_int.E := AllSound.ok (l := []) (by kernel_rfl) rfl trivial
noncomputable def armplanmake_Same_int.body0 : Code := (match Try.f39.body with | some c => c | none => .skip)
noncomputable def armplanmake_Same_int.p0.c : Code := ((codeAt armplanmake_Same_int.body0 [.r, .r, .l, .r, .b, .b]).getD .skip)
noncomputable def armplanmake_Same_int.p0.ann : Ann := .z
set_option maxRecDepth 100000 in
theorem armplanmake_Same_int.p0.eq (x : Tup armplanmake_Same_int.p0.inS) : peRound armplanmake_Same_int.E armplanmake_Same_int.p0.c armplanmake_Same_int.p0.ann _ armplanmake_Same_int.p0.inS armplanmake_Same_int.p0.un armplanmake_Same_int.p0.outs x = armplanmake_Same_int.p0.step (armplanmake_Same_int.p0.un x) := by
  kernel_rfl
set_option maxRecDepth 100000 in
theorem armplanmake_Same_int.p0.sound : LProcSound armplanmake_Same_int.E (.loop armplanmake_Same_int.p0.c) armplanmake_Same_int.p0.lp :=
  loop_sound (c := armplanmake_Same_int.p0.c) (ann := armplanmake_Same_int.p0.ann) armplanmake_Same_int.ok ((SubsOk_z _ _) : SubsOk armplanmake_Same_int.E armplanmake_Same_int.p0.c armplanmake_Same_int.p0.ann) (by intro a ha; simp only [armplanmake_Same_int.p0.outs, List.mem_cons, List.not_mem_nil, or_false] at ha; rcases ha with rfl | rfl <;> exact fun _ => rfl) armplanmake_Same_int.p0.eq
noncomputable def armplanmake_Same_int.ann : Ann := .s (.z) (.s (.z) (.s (.s (.z) (.b (.sub 0))) (.z)))
set_option maxRecDepth 100000 in
theorem armplanmake_Same_int.eq (x : Tup armplanmake_Same_int.p.inS) : peFn armplanmake_Same_int.E Try.f39 armplanmake_Same_int.ann armplanmake_Same_int.p x = armplanmake_Same_int.p.F x := by
  have h : peFn armplanmake_Same_int.E Try.f39 armplanmake_Same_int.ann armplanmake_Same_int.p x = armplanmake_Same_int.F0 x.1.1 x.1.2.1 := by kernel_rfl
  exact h.trans (by show _ = armplanmake_Same_int.F x.1.1 x.1.2.1; rw [armplanmake_Same_int.F_eq])
set_option maxRecDepth 100000 in
theorem armplanmake_Same_int.sound : ProcSound Try.prog glob0 39 armplanmake_Same_int.p :=
  fn_sound (E := armplanmake_Same_int.E) (c := armplanmake_Same_int.body0) (ann := armplanmake_Same_int.ann) armplanmake_Same_int.ok Try.func39 (of_decide_eq_true (by kernel_rfl)) rfl rfl rfl (by decide +kernel) (⟨(SubsOk_z _ _), ⟨(SubsOk_z _ _), ⟨⟨(SubsOk_z _ _), (sub_of rfl armplanmake_Same_int.p0.sound)⟩, (SubsOk_z _ _)⟩⟩⟩ : SubsOk armplanmake_Same_int.E armplanmake_Same_int.body0 armplanmake_Same_int.ann) (fun _ => rfl) rfl armplanmake_Same_int.eq

/-! ### armplan/profile.satisfied: function 43 -/
noncomputable def profile_satisfied.F0 (a0 : Int) (a1 : Int) (a2 : Int) (a3 : Int) (a4 : List (Int)) : Option (Bool) :=
  (bif decide (0 ≤ a0) then (bif decide (a0 < (a4.length : Int)) then (bif decide (0 ≤ (IntKind.wrap .i64 (a0 + (1 : Int)))) then (bif decide ((IntKind.wrap .i64 (a0 + (1 : Int))) < (a4.length : Int)) then some (decide ((IntKind.wrap .i64 ((IntKind.wrap .i64 (a1 * (a4.getD a0.toNat (0 : Int)))) + (IntKind.wrap .i64 (a2 * (a4.getD (IntKind.wrap .i64 (a0 + (1 : Int))).toNat (0 : Int)))))) ≤ a3)) else none) else none) else none) else none)
noncomputable def profile_satisfied.F : Int → Int → Int → Int → (List (Int)) → Option (Bool) := lock profile_satisfied.F0
theorem profile_satisfied.F_eq : profile_satisfied.F = profile_satisfied.F0 := lock_eq _
noncomputable def profile_satisfied.p : Proc := { nargs := 2, inS := ⟨[(0, .ag [.sc (.int .i64), .sc (.int .i64), .sc (.int .i64), .sc (.int .i64)]), (1, .lf (.dat (.int .i64)))], []⟩, outS := ⟨[(0, .lf (.sc .bool))], []⟩, n0 := 0, R := Bool, F := fun x => profile_satisfied.F x.1.1.1 x.1.1.2.1 x.1.1.2.2.1 x.1.1.2.2.2.1 x.1.2.1, post := fun r => ((r, ()), ()), un := fun x => x.1.1 }
noncomputable def profile_satisfied.E : Env := { P := Try.prog, ty := tyTab [], glob := glob0, proc := procTab [], lproc := lprocTab [], n0 := 0, ntmps := 26 }
theorem profile_satisfied.ok : ProcsOk profile_satisfied.E := AllSound.ok (l := []) (by kernel_rfl) rfl trivial
noncomputable def profile_satisfied.body0 : Code := (match Try.f43.body with | some c => c | none => .skip)
noncomputable def profile_satisfied.ann : Ann := .z
set_option maxRecDepth 100000 in
theorem profile_satisfied.eq (x : Tup profile_satisfied.p.inS) : peFn profile_satisfied.E Try.f43 profile_satisfied.ann profile_satisfied.p x = profile_satisfied.p.F x := by
  have h : peFn profile_satisfied.E Try.f43 profile_satisfied.ann profile_satisfied.p x = profile_satisfied.F0 x.1.1.1 x.1.1.2.1 x.1.1.2.2.1 x.1.1.2.2.2.1 x.1.2.1 := by kernel_rfl
  exact h.trans (by show _ = profile_satisfied.F x.1.1.1 x.1.1.2.1 x.1.1.2.2.1 x.1.1.2.2.2.1 x.1.2.1; rw [profile_satisfied.F_eq])
set_option maxRecDepth 100000 in
theorem profile_satisfied.sound : ProcSound Try.prog glob0 43 profile_satisfied.p :=
  fn_sound (E := profile_satisfied.E) (c := profile_satisfied.body0) (ann := profile_satisfied.ann) profile_satisfied.ok Try.func43 (of_decide_eq_true (by kernel_rfl)) rfl rfl rfl (by decide +kernel) ((SubsOk_z _ _) : SubsOk profile_satisfied.E profile_satisfied.body0 profile_satisfied.ann) (fun _ => rfl) rfl profile_satisfied.eq

/-! ### slices.Clone[[]int64,int64]: function 44 -/
noncomputable def slices_Clone_int64.F0 (a0 : List (Int)) : Option (List (Int)) :=
  (bif decide (0 < a0.length) then (bif decide (([] : List (Int)).length + a0.length < 17592186044416) then some (([] : List (Int)) ++ a0) else none) else none)
noncomputable def slices_Clone_int64.F : (List (Int)) → Option (List (Int)) := lock slices_Clone_int64.F0
theorem slices_Clone_int64.F_eq : slices_Clone_int64.F = slices_Clone_int64.F0 := lock_eq _
noncomputable def slices_Clone_int64.p : Proc := { nargs := 1, inS := ⟨[(0, .lf (.dat (.int .i64)))], []⟩, outS := ⟨[(0, .lf (.own 0))], [.row 2 (.int .i64)]⟩, n0 := 0, R := List (Int), F := fun x => slices_Clone_int64.F x.1.1, post := fun r => (((), ()), (r, ())), un := fun x => x.2.1 }
noncomputable def slices_Clone_int64.E : Env := { P := Try.prog, ty := tyTab [(2, (.int .i64))], glob := glob0, proc := procTab [], lproc := lprocTab [], n0 := 0, ntmps := 8 }
theorem slices_Clone_int64.ok : ProcsOk slices_Clone_int64.E := AllSound.ok (l := []) (by kernel_rfl) rfl trivial
noncomputable def slices_Clone_int64.body0 : Code := (match Try.f44.body with | some c => c | none => .skip)
noncomputable def slices_Clone_int64.ann : Ann := .z
set_option maxRecDepth 100000 in
theorem slices_Clone_int64.eq (x : Tup slices_Clone_int64.p.inS) : peFn slices_Clone_int64.E Try.f44 slices_Clone_int64.ann slices_Clone_int64.p x = slices_Clone_int64.p.F x := by
  have h : peFn slices_Clone_int64.E Try.f44 slices_Clone_int64.ann slices_Clone_int64.p x = slices_Clone_int64.F0 x.1.1 := by kernel_rfl
  exact h.trans (by show _ = slices_Clone_int64.F x.1.1; rw [slices_Clone_int64.F_eq])
set_option maxRecDepth 100000 in
theorem slices_Clone_int64.sound : ProcSound Try.prog glob0 44 slices_Clone_int64.p :=
  fn_sound (E := slices_Clone_int64.E) (c := slices_Clone_int64.body0) (ann := slices_Clone_int64.ann) slices_Clone_int64.ok Try.func44 (of_decide_eq_true (by kernel_rfl)) rfl rfl rfl (by decide +kernel) ((SubsOk_z _ _) : SubsOk slices_Clone_int64.E slices_Clone_int64.body0 slices_Clone_int64.ann) (fun _ => rfl) rfl slices_Clone_int64.eq

/-! ### armplan/profile.wake: function 48 -/
noncomputable def profile_wake.p0.round (v0 : Int) (v1 : List ((Int × (Int × (Int × Int))))) (v2 : Int) (v3 : Int) (v4 : List (Bool)) : Option ((Int × List ((Int × (Int × (Int × Int)))) × Int × Int × List (Bool)) ⊕ ((List (Bool)))) :=
  (bif decide (v3 < v2) then (bif decide (0 ≤ v3) then (bif decide (v3 < (v1.length : Int)) then (bif decide (((v1.getD v3.toNat ((0 : Int), ((0 : Int), ((0 : Int), (0 : Int))))).2).1 > (0 : Int)) then (bif ((IntKind.wrap .i64 ((v1.getD v3.toNat ((0 : Int), ((0 : Int), ((0 : Int), (0 : Int))))).1 + (1 : Int))) == v0) then (bif decide (0 ≤ v3) then (bif decide (v3 < (v4.length : Int)) then some (.inl (v0, v1, v2, (IntKind.wrap .i64 (v3 + (1 : Int))), (v4.set v3.toNat true))) else none) else none) else (bif decide ((((v1.getD v3.toNat ((0 : Int), ((0 : Int), ((0 : Int), (0 : Int))))).2).2).1 > (0 : Int)) then (bif ((v1.getD v3.toNat ((0 : Int), ((0 : Int), ((0 : Int), (0 : Int))))).1 == v0) then (bif decide (0 ≤ v3) then (bif decide (v3 < (v4.length : Int)) then some (.inl (v0, v1, v2, (IntKind.wrap .i64 (v3 + (1 : Int))), (v4.set v3.toNat true))) else none) else none) else some (.inl (v0, v1, v2, (IntKind.wrap .i64 (v3 + (1 : Int))), v4))) else some (.inl (v0, v1, v2, (IntKind.wrap .i64 (v3 + (1 : Int))), v4)))) else (bif decide ((((v1.getD v3.toNat ((0 : Int), ((0 : Int), ((0 : Int), (0 : Int))))).2).2).1 > (0 : Int)) then (bif ((v1.getD v3.toNat ((0 : Int), ((0 : Int), ((0 : Int), (0 : Int))))).1 == v0) then (bif decide (0 ≤ v3) then (bif decide (v3 < (v4.length : Int)) then some (.inl (v0, v1, v2, (IntKind.wrap .i64 (v3 + (1 : Int))), (v4.set v3.toNat true))) else none) else none) else some (.inl (v0, v1, v2, (IntKind.wrap .i64 (v3 + (1 : Int))), v4))) else some (.inl (v0, v1, v2, (IntKind.wrap .i64 (v3 + (1 : Int))), v4)))) else none) else none) else some (.inr v4))
noncomputable def profile_wake.p0.step (s : Int × List ((Int × (Int × (Int × Int)))) × Int × Int × List (Bool)) : Option ((Int × List ((Int × (Int × (Int × Int)))) × Int × Int × List (Bool)) ⊕ ((List (Bool)))) := profile_wake.p0.round s.1 s.2.1 s.2.2.1 s.2.2.2.1 s.2.2.2.2
noncomputable def profile_wake.p0.inS : Shape := ⟨[(1, .lf (.own 0)), (2, .lf (.sc (.int .i64))), (8, .lf (.dat (.pair (.int .i64) (.pair (.int .i64) (.pair (.int .i64) (.int .i64)))))), (9, .lf (.sc (.int .i64))), (10, .lf (.sc (.int .i64)))], [.row 4 .bool]⟩
noncomputable def profile_wake.p0.w0 : Way := { ex := (.ex 0), S := ⟨[], [.row 4 .bool]⟩, R := List (Bool), post := fun r => ((), (r, ())), un := fun x => x.2.1 }
noncomputable def profile_wake.p0.outs : List Way := [profile_wake.p0.w0]
noncomputable def profile_wake.p0.un (x : Tup profile_wake.p0.inS) : Int × List ((Int × (Int × (Int × Int)))) × Int × Int × List (Bool) := (x.1.2.1, x.1.2.2.1, x.1.2.2.2.1, x.1.2.2.2.2.1, x.2.1)
noncomputable def profile_wake.p0.lp : LProc := { inS := profile_wake.p0.inS, outs := profile_wake.p0.outs, F := fun x => loopF profile_wake.p0.step (profile_wake.p0.un x) }
noncomputable def profile_wake.F0 (a0 : List ((Int × (Int × (Int × Int))))) (a1 : Int) (a2 : List (Bool)) : Option (List (Bool)) :=
  ((loopF profile_wake.p0.step (a1, a0, (a0.length : Int), (0 : Int), a2)).bind fun y1 => some y1)
noncomputable def profile_wake.F : (List ((Int × (Int × (Int × Int))))) → Int → (List (Bool)) → Option (List (Bool)) := lock profile_wake.F0
theorem profile_wake.F_eq : profile_wake.F = profile_wake.F0 := lock_eq _
noncomputable def profile_wake.p : Proc := { nargs := 3, inS := ⟨[(0, .lf (.dat (.pair (.int .i64) (.pair (.int .i64) (.pair (.int .i64) (.int .i64)))))), (1, .lf (.own 0)), (2, .lf (.sc (.int .i64)))], [.row 4 .bool]⟩, outS := ⟨[], [.row 4 .bool]⟩, n0 := 1, R := List (Bool), F := fun x => profile_wake.F x.1.1 x.1.2.2.1 x.2.1, post := fun r => ((), (r, ())), un := fun x => x.2.1 }
noncomputable def profile_wake.E : Env := { P := Try.prog, ty := tyTab [], glob := glob0, proc := procTab [], lproc := lprocTab [(0, profile_wake.p0.lp)], n0 := 1, ntmps := 40 }
theorem profile_wake.ok : ProcsOk profile_wake.E := AllSound.ok (l := []) (by kernel_rfl) rfl trivial
noncomputable def profile_wake.body0 : Code := (match Try.f48.body with | some c => c | none => .skip)
noncomputable def profile_wake.p0.c : Code := ((codeAt profile_wake.body0 [.r, .b, .b]).getD .skip)
noncomputable def profile_wake.p0.ann : Ann := .z
set_option maxRecDepth 100000 in
theorem profile_wake.p0.eq (x : Tup profile_wake.p0.inS) : peRound profile_wake.E profile_wake.p0.c profile_wake.p0.ann _ profile_wake.p0.inS profile_wake.p0.un profile_wake.p0.outs x = profile_wake.p0.step (profile_wake.p0.un x) := by
  kernel_rfl
set_option maxRecDepth 100000 in
theorem profile_wake.p0.sound : LProcSound profile_wake.E (.loop profile_wake.p0.c) profile_wake.p0.lp :=
  loop_sound (c := profile_wake.p0.c) (ann := profile_wake.p0.ann) profile_wake.ok ((SubsOk_z _ _) : SubsOk profile_wake.E profile_wake.p0.c profile_wake.p0.ann) (by intro a ha; simp only [profile_wake.p0.outs, List.mem_cons, List.not_mem_nil, or_false] at ha; rcases ha with rfl <;> exact fun _ => rfl) profile_wake.p0.eq
noncomputable def profile_wake.ann : Ann := .s (.z) (.b (.sub 0))
set_option maxRecDepth 100000 in
theorem profile_wake.eq (x : Tup profile_wake.p.inS) : peFn profile_wake.E Try.f48 profile_wake.ann profile_wake.p x = profile_wake.p.F x := by
  have h : peFn profile_wake.E Try.f48 profile_wake.ann profile_wake.p x = profile_wake.F0 x.1.1 x.1.2.2.1 x.2.1 := by kernel_rfl
  exact h.trans (by show _ = profile_wake.F x.1.1 x.1.2.2.1 x.2.1; rw [profile_wake.F_eq])
set_option maxRecDepth 100000 in
theorem profile_wake.sound : ProcSound Try.prog glob0 48 profile_wake.p :=
  fn_sound (E := profile_wake.E) (c := profile_wake.body0) (ann := profile_wake.ann) profile_wake.ok Try.func48 (of_decide_eq_true (by kernel_rfl)) rfl rfl rfl (by decide +kernel) (⟨(SubsOk_z _ _), (sub_of rfl profile_wake.p0.sound)⟩ : SubsOk profile_wake.E profile_wake.body0 profile_wake.ann) (fun _ => rfl) rfl profile_wake.eq

/-! ### armplan/armplanref40.holds: function 51 -/
noncomputable def armplanref40_holds.F0 (a0 : Int) (a1 : Int) (a2 : Int) (a3 : Int) (a4 : List (Int)) : Option (Bool) :=
  (bif decide (0 ≤ a0) then (bif decide (a0 < (a4.length : Int)) then (bif decide (0 ≤ (IntKind.wrap .i64 (a0 + (1 : Int)))) then (bif decide ((IntKind.wrap .i64 (a0 + (1 : Int))) < (a4.length : Int)) then some (decide ((IntKind.wrap .i64 ((IntKind.wrap .i64 (a1 * (a4.getD a0.toNat (0 : Int)))) + (IntKind.wrap .i64 (a2 * (a4.getD (IntKind.wrap .i64 (a0 + (1 : Int))).toNat (0 : Int)))))) ≤ a3)) else none) else none) else none) else none)
noncomputable def armplanref40_holds.F : Int → Int → Int → Int → (List (Int)) → Option (Bool) := lock armplanref40_holds.F0
theorem armplanref40_holds.F_eq : armplanref40_holds.F = armplanref40_holds.F0 := lock_eq _
noncomputable def armplanref40_holds.p : Proc := { nargs := 2, inS := ⟨[(0, .ag [.sc (.int .i64), .sc (.int .i64), .sc (.int .i64), .sc (.int .i64)]), (1, .lf (.dat (.int .i64)))], []⟩, outS := ⟨[(0, .lf (.sc .bool))], []⟩, n0 := 0, R := Bool, F := fun x => armplanref40_holds.F x.1.1.1 x.1.1.2.1 x.1.1.2.2.1 x.1.1.2.2.2.1 x.1.2.1, post := fun r => ((r, ()), ()), un := fun x => x.1.1 }
noncomputable def armplanref40_holds.E : Env := { P := Try.prog, ty := tyTab [], glob := glob0, proc := procTab [], lproc := lprocTab [], n0 := 0, ntmps := 26 }
theorem armplanref40_holds.ok : ProcsOk armplanref40_holds.E := AllSound.ok (l := []) (by kernel_rfl) rfl trivial
noncomputable def armplanref40_holds.body0 : Code := (match Try.f51.body with | some c => c | none => .skip)
noncomputable def armplanref40_holds.ann : Ann := .z
set_option maxRecDepth 100000 in
theorem armplanref40_holds.eq (x : Tup armplanref40_holds.p.inS) : peFn armplanref40_holds.E Try.f51 armplanref40_holds.ann armplanref40_holds.p x = armplanref40_holds.p.F x := by
  have h : peFn armplanref40_holds.E Try.f51 armplanref40_holds.ann armplanref40_holds.p x = armplanref40_holds.F0 x.1.1.1 x.1.1.2.1 x.1.1.2.2.1 x.1.1.2.2.2.1 x.1.2.1 := by kernel_rfl
  exact h.trans (by show _ = armplanref40_holds.F x.1.1.1 x.1.1.2.1 x.1.1.2.2.1 x.1.1.2.2.2.1 x.1.2.1; rw [armplanref40_holds.F_eq])
set_option maxRecDepth 100000 in
theorem armplanref40_holds.sound : ProcSound Try.prog glob0 51 armplanref40_holds.p :=
  fn_sound (E := armplanref40_holds.E) (c := armplanref40_holds.body0) (ann := armplanref40_holds.ann) armplanref40_holds.ok Try.func51 (of_decide_eq_true (by kernel_rfl)) rfl rfl rfl (by decide +kernel) ((SubsOk_z _ _) : SubsOk armplanref40_holds.E armplanref40_holds.body0 armplanref40_holds.ann) (fun _ => rfl) rfl armplanref40_holds.eq

/-! ### armplan/profile.kind: function 52 -/
noncomputable def profile_kind.F0 (a0 : Int) (a1 : Int) : Option (Int) :=
  (bif decide (a0 < a1) then some (1 : Int) else (bif decide (a0 > a1) then some (2 : Int) else some (0 : Int)))
noncomputable def profile_kind.F : Int → Int → Option (Int) := lock profile_kind.F0
theorem profile_kind.F_eq : profile_kind.F = profile_kind.F0 := lock_eq _
noncomputable def profile_kind.p : Proc := { nargs := 2, inS := ⟨[(0, .lf (.sc (.int .i64))), (1, .lf (.sc (.int .i64)))], []⟩, outS := ⟨[(0, .lf (.sc (.int .i64)))], []⟩, n0 := 0, R := Int, F := fun x => profile_kind.F x.1.1 x.1.2.1, post := fun r => ((r, ()), ()), un := fun x => x.1.1 }
noncomputable def profile_kind.E : Env := { P := Try.prog, ty := tyTab [], glob := glob0, proc := procTab [], lproc := lprocTab [], n0 := 0, ntmps := 13 }
theorem profile_kind.ok : ProcsOk profile_kind.E := AllSound.ok (l := []) (by kernel_rfl) rfl trivial
noncomputable def profile_kind.body0 : Code := (match Try.f52.body with | some c => c | none => .skip)
noncomputable def profile_kind.ann : Ann := .z
set_option maxRecDepth 100000 in
theorem profile_kind.eq (x : Tup profile_kind.p.inS) : peFn profile_kind.E Try.f52 profile_kind.ann profile_kind.p x = profile_kind.p.F x := by
  have h : peFn profile_kind.E Try.f52 profile_kind.ann profile_kind.p x = profile_kind.F0 x.1.1 x.1.2.1 := by kernel_rfl
  exact h.trans (by show _ = profile_kind.F x.1.1 x.1.2.1; rw [profile_kind.F_eq])
set_option maxRecDepth 100000 in
theorem profile_kind.sound : ProcSound Try.prog glob0 52 profile_kind.p :=
  fn_sound (E := profile_kind.E) (c := profile_kind.body0) (ann := profile_kind.ann) profile_kind.ok Try.func52 (of_decide_eq_true (by kernel_rfl)) rfl rfl rfl (by decide +kernel) ((SubsOk_z _ _) : SubsOk profile_kind.E profile_kind.body0 profile_kind.ann) (fun _ => rfl) rfl profile_kind.eq

/-! ### slices.Min[[]int64,int64]: function 57 -/
noncomputable def slices_Min_int64.p0.round (v0 : List (Int)) (v1 : Int) (v2 : Int) : Option ((List (Int) × Int × Int) ⊕ ((Int))) :=
  (bif decide (v2 < (v0.length : Int)) then (bif decide (0 ≤ v2) then (bif decide (v2 < (v0.length : Int)) then some (.inl (v0, (bif decide ((v0.getD v2.toNat (0 : Int)) < v1) then (v0.getD v2.toNat (0 : Int)) else v1), (IntKind.wrap .i64 (v2 + (1 : Int))))) else none) else none) else some (.inr v1))
noncomputable def slices_Min_int64.p0.step (s : List (Int) × Int × Int) : Option ((List (Int) × Int × Int) ⊕ ((Int))) := slices_Min_int64.p0.round s.1 s.2.1 s.2.2
noncomputable def slices_Min_int64.p0.inS : Shape := ⟨[(0, .lf (.dat (.int .i64))), (3, .lf (.sc (.int .i64))), (4, .lf (.sc (.int .i64)))], []⟩
noncomputable def slices_Min_int64.p0.w0 : Way := { ex := (.ex 0), S := ⟨[(3, .lf (.sc (.int .i64)))], []⟩, R := Int, post := fun r => ((r, ()), ()), un := fun x => x.1.1 }
noncomputable def slices_Min_int64.p0.outs : List Way := [slices_Min_int64.p0.w0]
noncomputable def slices_Min_int64.p0.un (x : Tup slices_Min_int64.p0.inS) : List (Int) × Int × Int := (x.1.1, x.1.2.1, x.1.2.2.1)
noncomputable def slices_Min_int64.p0.lp : LProc := { inS := slices_Min_int64.p0.inS, outs := slices_Min_int64.p0.outs, F := fun x => loopF slices_Min_int64.p0.step (slices_Min_int64.p0.un x) }
noncomputable def slices_Min_int64.F0 (a0 : List (Int)) : Option (Int) :=
  (bif decide ((a0.length : Int) < (1 : Int)) then none else (bif decide ((0 : Int) < (a0.length : Int)) then ((loopF slices_Min_int64.p0.step (a0, (a0.getD 0 (0 : Int)), (1 : Int))).bind fun y1 => some y1) else none))
noncomputable def slices_Min_int64.F : (List (Int)) → Option (Int) := lock slices_Min_int64.F0
theorem slices_Min_int64.F_eq : slices_Min_int64.F = slices_Min_int64.F0 := lock_eq _
noncomputable def slices_Min_int64.p : Proc := { nargs := 1, inS := ⟨[(0, .lf (.dat (.int .i64)))], []⟩, outS := ⟨[(0, .lf (.sc (.int .i64)))], []⟩, n0 := 0, R := Int, F := fun x => slices_Min_int64.F x.1.1, post := fun r => ((r, ()), ()), un := fun x => x.1.1 }
noncomputable def slices_Min_int64.E : Env := { P := Try.prog, ty := tyTab [], glob := glob0, proc := procTab [], lproc := lprocTab [(0, slices_Min_int64.p0.lp)], n0 := 0, ntmps := 25 }
theorem slices_Min_int64.ok : ProcsOk slices_Min_int64.E := AllSound.ok (l := []) (by kernel_rfl) rfl trivial
noncomputable def slices_Min_int64.body0 : Code := (match Try.f57.body with | some c => c | none => .skip)
noncomputable def slices_Min_int64.p0.c : Code := ((codeAt slices_Min_int64.body0 [.r, .r, .r, .l, .r, .b, .b]).getD .skip)
noncomputable def slices_Min_int64.p0.ann : Ann := .z
set_option maxRecDepth 100000 in
theorem slices_Min_int64.p0.eq (x : Tup slices_Min_int64.p0.inS) : peRound slices_Min_int64.E slices_Min_int64.p0.c slices_Min_int64.p0.ann _ slices_Min_int64.p0.inS slices_Min_int64.p0.un slices_Min_int64.p0.outs x = slices_Min_int64.p0.step (slices_Min_int64.p0.un x) := by
  kernel_rfl
set_option maxRecDepth 100000 in
theorem slices_Min_int64.p0.sound : LProcSound slices_Min_int64.E (.loop slices_Min_int64.p0.c) slices_Min_int64.p0.lp :=
  loop_sound (c := slices_Min_int64.p0.c) (ann := slices_Min_int64.p0.ann) slices_Min_int64.ok ((SubsOk_z _ _) : SubsOk slices_Min_int64.E slices_Min_int64.p0.c slices_Min_int64.p0.ann) (by intro a ha; simp only [slices_Min_int64.p0.outs, List.mem_cons, List.not_mem_nil, or_false] at ha; rcases ha with rfl <;> exact fun _ => rfl) slices_Min_int64.p0.eq
noncomputable def slices_Min_int64.ann : Ann := .s (.z) (.s (.z) (.s (.z) (.s (.s (.z) (.b (.sub 0))) (.z))))
set_option maxRecDepth 100000 in
theorem slices_Min_int64.eq (x : Tup slices_Min_int64.p.inS) : peFn slices_Min_int64.E Try.f57 slices_Min_int64.ann slices_Min_int64.p x = slices_Min_int64.p.F x := by
  have h : peFn slices_Min_int64.E Try.f57 slices_Min_int64.ann slices_Min_int64.p x = slices_Min_int64.F0 x.1.1 := by kernel_rfl
  exact h.trans (by show _ = slices_Min_int64.F x.1.1; rw [slices_Min_int64.F_eq])
set_option maxRecDepth 100000 in
theorem slices_Min_int64.sound : ProcSound Try.prog glob0 57 slices_Min_int64.p :=
  fn_sound (E := slices_Min_int64.E) (c := slices_Min_int64.body0) (ann := slices_Min_int64.ann) slices_Min_int64.ok Try.func57 (of_decide_eq_true (by kernel_rfl)) rfl rfl rfl (by decide +kernel) (⟨(SubsOk_z _ _), ⟨(SubsOk_z _ _), ⟨(SubsOk_z _ _), ⟨⟨(SubsOk_z _ _), (sub_of rfl slices_Min_int64.p0.sound)⟩, (SubsOk_z _ _)⟩⟩⟩⟩ : SubsOk slices_Min_int64.E slices_Min_int64.body0 slices_Min_int64.ann) (fun _ => rfl) rfl slices_Min_int64.eq

/-! ### slices.Equal[[]int64,int64]: function 59 -/
noncomputable def slices_Equal_int64.p0.round (v0 : List (Int)) (v1 : List (Int)) (v2 : Int) (v3 : Int) : Option ((List (Int) × List (Int) × Int × Int) ⊕ ((Bool) ⊕ (Unit))) :=
  (bif decide (v3 < v2) then (bif decide (0 ≤ v3) then (bif decide (v3 < (v0.length : Int)) then (bif decide (0 ≤ v3) then (bif decide (v3 < (v1.length : Int)) then (bif ((v0.getD v3.toNat (0 : Int)) != (v1.getD v3.toNat (0 : Int))) then some (.inr (.inl false)) else some (.inl (v0, v1, v2, (IntKind.wrap .i64 (v3 + (1 : Int)))))) else none) else none) else none) else none) else some (.inr (.inr ())))
noncomputable def slices_Equal_int64.p0.step (s : List (Int) × List (Int) × Int × Int) : Option ((List (Int) × List (Int) × Int × Int) ⊕ ((Bool) ⊕ (Unit))) := slices_Equal_int64.p0.round s.1 s.2.1 s.2.2.1 s.2.2.2
noncomputable def slices_Equal_int64.p0.inS : Shape := ⟨[(0, .lf (.dat (.int .i64))), (1, .lf (.dat (.int .i64))), (12, .lf (.sc (.int .i64))), (13, .lf (.sc (.int .i64)))], []⟩
noncomputable def slices_Equal_int64.p0.w0 : Way := { ex := .rt, S := ⟨[(4, .lf (.sc .bool))], []⟩, R := Bool, post := fun r => ((r, ()), ()), un := fun x => x.1.1 }
noncomputable def slices_Equal_int64.p0.w1 : Way := { ex := (.ex 0), S := ⟨[], []⟩, R := Unit, post := fun r => ((), ()), un := fun x => () }
noncomputable def slices_Equal_int64.p0.outs : List Way := [slices_Equal_int64.p0.w0, slices_Equal_int64.p0.w1]
noncomputable def slices_Equal_int64.p0.un (x : Tup slices_Equal_int64.p0.inS) : List (Int) × List (Int) × Int × Int := (x.1.1, x.1.2.1, x.1.2.2.1, x.1.2.2.2.1)
noncomputable def slices_Equal_int64.p0.lp : LProc := { inS := slices_Equal_int64.p0.inS, outs := slices_Equal_int64.p0.outs, F := fun x => loopF slices_Equal_int64.p0.step (slices_Equal_int64.p0.un x) }
noncomputable def slices_Equal_int64.F0 (a0 : List (Int)) (a1 : List (Int)) : Option (Bool) :=
  (bif ((a0.length : Int) != (a1.length : Int)) then some false else ((loopF slices_Equal_int64.p0.step (a0, a1, (a0.length : Int), (0 : Int))).bind fun y1 => (Sum.elim (fun y2 => some y2) (fun z3 => some true) y1)))
noncomputable def slices_Equal_int64.F : (List (Int)) → (List (Int)) → Option (Bool) := lock slices_Equal_int64.F0
theorem slices_Equal_int64.F_eq : slices_Equal_int64.F = slices_Equal_int64.F0 := lock_eq _
noncomputable def slices_Equal_int64.p : Proc := { nargs := 2, inS := ⟨[(0, .lf (.dat (.int .i64))), (1, .lf (.dat (.int .i64)))], []⟩, outS := ⟨[(0, .lf (.sc .bool))], []⟩, n0 := 0, R := Bool, F := fun x => slices_Equal_int64.F x.1.1 x.1.2.1, post := fun r => ((r, ()), ()), un := fun x => x.1.1 }
noncomputable def slices_Equal_int64.E : Env := { P := Try.prog, ty := tyTab [], glob := glob0, proc := procTab [], lproc := lprocTab [(0, slices_Equal_int64.p0.lp)], n0 := 0, ntmps := 26 }
theorem slices_Equal_int64.ok : ProcsOk slices_Equal_int64.E := AllSound.ok (l := []) (by kernel_rfl) rfl trivial
noncomputable def slices_Equal_int64.body0 : Code := (match Try.f59.body with | some c => c | none => .skip)
noncomputable def slices_Equal_int64.p0.c : Code := ((codeAt slices_Equal_int64.body0 [.r, .r, .l, .r, .b, .b]).getD .skip)
noncomputable def slices_Equal_int64.p0.ann : Ann := .z
set_option maxRecDepth 100000 in
theorem slices_Equal_int64.p0.eq (x : Tup slices_Equal_int64.p0.inS) : peRound slices_Equal_int64.E slices_Equal_int64.p0.c slices_Equal_int64.p0.ann _ slices_Equal_int64.p0.inS slices_Equal_int64.p0.un slices_Equal_int64.p0.outs x = slices_Equal_int64.p0.step (slices_Equal_int64.p0.un x) := by
  kernel_rfl
set_option maxRecDepth 100000 in
theorem slices_Equal_int64.p0.sound : LProcSound slices_Equal_int64.E (.loop slices_Equal_int64.p0.c) slices_Equal_int64.p0.lp :=
  loop_sound (c := slices_Equal_int64.p0.c) (ann := slices_Equal_int64.p0.ann) slices_Equal_int64.ok ((SubsOk_z _ _) : SubsOk slices_Equal_int64.E slices_Equal_int64.p0.c slices_Equal_int64.p0.ann) (by intro a ha; simp only [slices_Equal_int64.p0.outs, List.mem_cons, List.not_mem_nil, or_false] at ha; rcases ha with rfl | rfl <;> exact fun _ => rfl) slices_Equal_int64.p0.eq
noncomputable def slices_Equal_int64.ann : Ann := .s (.z) (.s (.z) (.s (.s (.z) (.b (.sub 0))) (.z)))
set_option maxRecDepth 100000 in
theorem slices_Equal_int64.eq (x : Tup slices_Equal_int64.p.inS) : peFn slices_Equal_int64.E Try.f59 slices_Equal_int64.ann slices_Equal_int64.p x = slices_Equal_int64.p.F x := by
  have h : peFn slices_Equal_int64.E Try.f59 slices_Equal_int64.ann slices_Equal_int64.p x = slices_Equal_int64.F0 x.1.1 x.1.2.1 := by kernel_rfl
  exact h.trans (by show _ = slices_Equal_int64.F x.1.1 x.1.2.1; rw [slices_Equal_int64.F_eq])
set_option maxRecDepth 100000 in
theorem slices_Equal_int64.sound : ProcSound Try.prog glob0 59 slices_Equal_int64.p :=
  fn_sound (E := slices_Equal_int64.E) (c := slices_Equal_int64.body0) (ann := slices_Equal_int64.ann) slices_Equal_int64.ok Try.func59 (of_decide_eq_true (by kernel_rfl)) rfl rfl rfl (by decide +kernel) (⟨(SubsOk_z _ _), ⟨(SubsOk_z _ _), ⟨⟨(SubsOk_z _ _), (sub_of rfl slices_Equal_int64.p0.sound)⟩, (SubsOk_z _ _)⟩⟩⟩ : SubsOk slices_Equal_int64.E slices_Equal_int64.body0 slices_Equal_int64.ann) (fun _ => rfl) rfl slices_Equal_int64.eq

/-! ### armplan/armplanmake.Same[armplan/api.Row]: function 61 -/
noncomputable def armplanmake_Same_Row.p0.round (v0 : List ((Int × (Int × (Int × Int))))) (v1 : List ((Int × (Int × (Int × Int))))) (v2 : Int) : Option ((List ((Int × (Int × (Int × Int)))) × List ((Int × (Int × (Int × Int)))) × Int) ⊕ ((Bool) ⊕ (Unit))) :=
  (bif decide (v2 < (v0.length : Int)) then (bif decide (0 ≤ v2) then (bif decide (v2 < (v0.length : Int)) then (bif decide (0 ≤ v2) then (bif decide (v2 < (v1.length : Int)) then (bif (!(((v0.getD v2.toNat ((0 : Int), ((0 : Int), ((0 : Int), (0 : Int))))).1 == (v1.getD v2.toNat ((0 : Int), ((0 : Int), ((0 : Int), (0 : Int))))).1) && ((((v0.getD v2.toNat ((0 : Int), ((0 : Int), ((0 : Int), (0 : Int))))).2).1 == ((v1.getD v2.toNat ((0 : Int), ((0 : Int), ((0 : Int), (0 : Int))))).2).1) && (((((v0.getD v2.toNat ((0 : Int), ((0 : Int), ((0 : Int), (0 : Int))))).2).2).1 == (((v1.getD v2.toNat ((0 : Int), ((0 : Int), ((0 : Int), (0 : Int))))).2).2).1) && (((((v0.getD v2.toNat ((0 : Int), ((0 : Int), ((0 : Int), (0 : Int))))).2).2).2 == (((v1.getD v2.toNat ((0 : Int), ((0 : Int), ((0 : Int), (0 : Int))))).2).2).2) && true))))) then some (.inr (.inl false)) else some (.inl (v0, v1, (IntKind.wrap .i64 (v2 + (1 : Int)))))) else none) else none) else none) else none) else some (.inr (.inr ())))
noncomputable def armplanmake_Same_Row.p0.step (s : List ((Int × (Int × (Int × Int)))) × List ((Int × (Int × (Int × Int)))) × Int) : Option ((List ((Int × (Int × (Int × Int)))) × List ((Int × (Int × (Int × Int)))) × Int) ⊕ ((Bool) ⊕ (Unit))) := armplanmake_Same_Row.p0.round s.1 s.2.1 s.2.2
noncomputable def armplanmake_Same_Row.p0.inS : Shape := ⟨[(0, .lf (.dat (.pair (.int .i64) (.pair (.int .i64) (.pair (.int .i64) (.int .i64)))))), (1, .lf (.dat (.pair (.int .i64) (.pair (.int .i64) (.pair (.int .i64) (.int .i64)))))), (5, .lf (.sc (.int .i64)))], []⟩
noncomputable def armplanmake_Same_Row.p0.w0 : Way := { ex := .rt, S := ⟨[(4, .lf (.sc .bool))], []⟩, R := Bool, post := fun r => ((r, ()), ()), un := fun x => x.1.1 }
noncomputable def armplanmake_Same_Row.p0.w1 : Way := { ex := (.ex 0), S := ⟨[], []⟩, R := Unit, post := fun r => ((), ()), un := fun x => () }
noncomputable def armplanmake_Same_Row.p0.outs : List Way := [armplanmake_Same_Row.p0.w0, armplanmake_Same_Row.p0.w1]
noncomputable def armplanmake_Same_Row.p0.un (x : Tup armplanmake_Same_Row.p0.inS) : List ((Int × (Int × (Int × Int)))) × List ((Int × (Int × (Int × Int)))) × Int := (x.1.1, x.1.2.1, x.1.2.2.1)
noncomputable def armplanmake_Same_Row.p0.lp : LProc := { inS := armplanmake_Same_Row.p0.inS, outs := armplanmake_Same_Row.p0.outs, F := fun x => loopF armplanmake_Same_Row.p0.step (armplanmake_Same_Row.p0.un x) }
noncomputable def armplanmake_Same_Row.F0 (a0 : List ((Int × (Int × (Int × Int))))) (a1 : List ((Int × (Int × (Int × Int))))) : Option (Bool) :=
  (bif ((a0.length : Int) != (a1.length : Int)) then some false else ((loopF armplanmake_Same_Row.p0.step (a0, a1, (0 : Int))).bind fun y1 => (Sum.elim (fun y2 => some y2) (fun z3 => some true) y1)))
noncomputable def armplanmake_Same_Row.F : (List ((Int × (Int × (Int × Int))))) → (List ((Int × (Int × (Int × Int))))) → Option (Bool) := lock armplanmake_Same_Row.F0
theorem armplanmake_Same_Row.F_eq : armplanmake_Same_Row.F = armplanmake_Same_Row.F0 := lock_eq _
noncomputable def armplanmake_Same_Row.p : Proc := { nargs := 2, inS := ⟨[(0, .lf (.dat (.pair (.int .i64) (.pair (.int .i64) (.pair (.int .i64) (.int .i64)))))), (1, .lf (.dat (.pair (.int .i64) (.pair (.int .i64) (.pair (.int .i64) (.int .i64))))))], []⟩, outS := ⟨[(0, .lf (.sc .bool))], []⟩, n0 := 0, R := Bool, F := fun x => armplanmake_Same_Row.F x.1.1 x.1.2.1, post := fun r => ((r, ()), ()), un := fun x => x.1.1 }
noncomputable def armplanmake_Same_Row.E : Env := { P := Try.prog, ty := tyTab [], glob := glob0, proc := procTab [], lproc := lprocTab [(0, armplanmake_Same_Row.p0.lp)], n0 := 0, ntmps := 26 }
theorem armplanmake_Same_Row.ok : ProcsOk armplanmake_Same_Row.E := AllSound.ok (l := []) (by kernel_rfl) rfl trivial
noncomputable def armplanmake_Same_Row.body0 : Code := (match Try.f61.body with | some c => c | none => .skip)
noncomputable def armplanmake_Same_Row.p0.c : Code := ((codeAt armplanmake_Same_Row.body0 [.r, .r, .l, .r, .b, .b]).getD .skip)
noncomputable def armplanmake_Same_Row.p0.ann : Ann := .z
set_option maxRecDepth 100000 in
theorem armplanmake_Same_Row.p0.eq (x : Tup armplanmake_Same_Row.p0.inS) : peRound armplanmake_Same_Row.E armplanmake_Same_Row.p0.c armplanmake_Same_Row.p0.ann _ armplanmake_Same_Row.p0.inS armplanmake_Same_Row.p0.un armplanmake_Same_Row.p0.outs x = armplanmake_Same_Row.p0.step (armplanmake_Same_Row.p0.un x) := by
  kernel_rfl
set_option maxRecDepth 100000 in
theorem armplanmake_Same_Row.p0.sound : LProcSound armplanmake_Same_Row.E (.loop armplanmake_Same_Row.p0.c) armplanmake_Same_Row.p0.lp :=
  loop_sound (c := armplanmake_Same_Row.p0.c) (ann := armplanmake_Same_Row.p0.ann) armplanmake_Same_Row.ok ((SubsOk_z _ _) : SubsOk armplanmake_Same_Row.E armplanmake_Same_Row.p0.c armplanmake_Same_Row.p0.ann) (by intro a ha; simp only [armplanmake_Same_Row.p0.outs, List.mem_cons, List.not_mem_nil, or_false] at ha; rcases ha with rfl | rfl <;> exact fun _ => rfl) armplanmake_Same_Row.p0.eq
noncomputable def armplanmake_Same_Row.ann : Ann := .s (.z) (.s (.z) (.s (.s (.z) (.b (.sub 0))) (.z)))
set_option maxRecDepth 100000 in
theorem armplanmake_Same_Row.eq (x : Tup armplanmake_Same_Row.p.inS) : peFn armplanmake_Same_Row.E Try.f61 armplanmake_Same_Row.ann armplanmake_Same_Row.p x = armplanmake_Same_Row.p.F x := by
  have h : peFn armplanmake_Same_Row.E Try.f61 armplanmake_Same_Row.ann armplanmake_Same_Row.p x = armplanmake_Same_Row.F0 x.1.1 x.1.2.1 := by kernel_rfl
  exact h.trans (by show _ = armplanmake_Same_Row.F x.1.1 x.1.2.1; rw [armplanmake_Same_Row.F_eq])
set_option maxRecDepth 100000 in
theorem armplanmake_Same_Row.sound : ProcSound Try.prog glob0 61 armplanmake_Same_Row.p :=
  fn_sound (E := armplanmake_Same_Row.E) (c := armplanmake_Same_Row.body0) (ann := armplanmake_Same_Row.ann) armplanmake_Same_Row.ok Try.func61 (of_decide_eq_true (by kernel_rfl)) rfl rfl rfl (by decide +kernel) (⟨(SubsOk_z _ _), ⟨(SubsOk_z _ _), ⟨⟨(SubsOk_z _ _), (sub_of rfl armplanmake_Same_Row.p0.sound)⟩, (SubsOk_z _ _)⟩⟩⟩ : SubsOk armplanmake_Same_Row.E armplanmake_Same_Row.body0 armplanmake_Same_Row.ann) (fun _ => rfl) rfl armplanmake_Same_Row.eq

/-! ### armplan/profile.within: function 63 -/
noncomputable def profile_within.F0 (a0 : Int) (a1 : Int) : Option (Bool) :=
  (bif decide ((IntKind.wrap .i64 (0 - a1)) ≤ a0) then some (decide (a0 ≤ a1)) else some false)
noncomputable def profile_within.F : Int → Int → Option (Bool) := lock profile_within.F0
theorem profile_within.F_eq : profile_within.F = profile_within.F0 := lock_eq _
noncomputable def profile_within.p : Proc := { nargs := 2, inS := ⟨[(0, .lf (.sc (.int .i64))), (1, .lf (.sc (.int .i64)))], []⟩, outS := ⟨[(0, .lf (.sc .bool))], []⟩, n0 := 0, R := Bool, F := fun x => profile_within.F x.1.1 x.1.2.1, post := fun r => ((r, ()), ()), un := fun x => x.1.1 }
noncomputable def profile_within.E : Env := { P := Try.prog, ty := tyTab [], glob := glob0, proc := procTab [], lproc := lprocTab [], n0 := 0, ntmps := 14 }
theorem profile_within.ok : ProcsOk profile_within.E := AllSound.ok (l := []) (by kernel_rfl) rfl trivial
noncomputable def profile_within.body0 : Code := (match Try.f63.body with | some c => c | none => .skip)
noncomputable def profile_within.ann : Ann := .z
set_option maxRecDepth 100000 in
theorem profile_within.eq (x : Tup profile_within.p.inS) : peFn profile_within.E Try.f63 profile_within.ann profile_within.p x = profile_within.p.F x := by
  have h : peFn profile_within.E Try.f63 profile_within.ann profile_within.p x = profile_within.F0 x.1.1 x.1.2.1 := by kernel_rfl
  exact h.trans (by show _ = profile_within.F x.1.1 x.1.2.1; rw [profile_within.F_eq])
set_option maxRecDepth 100000 in
theorem profile_within.sound : ProcSound Try.prog glob0 63 profile_within.p :=
  fn_sound (E := profile_within.E) (c := profile_within.body0) (ann := profile_within.ann) profile_within.ok Try.func63 (of_decide_eq_true (by kernel_rfl)) rfl rfl rfl (by decide +kernel) ((SubsOk_z _ _) : SubsOk profile_within.E profile_within.body0 profile_within.ann) (fun _ => rfl) rfl profile_within.eq

/-! ### slices.Max[[]int64,int64]: function 64 -/
noncomputable def slices_Max_int64.p0.round (v0 : List (Int)) (v1 : Int) (v2 : Int) : Option ((List (Int) × Int × Int) ⊕ ((Int))) :=
  (bif decide (v2 < (v0.length : Int)) then (bif decide (0 ≤ v2) then (bif decide (v2 < (v0.length : Int)) then some (.inl (v0, (bif decide ((v0.getD v2.toNat (0 : Int)) > v1) then (v0.getD v2.toNat (0 : Int)) else v1), (IntKind.wrap .i64 (v2 + (1 : Int))))) else none) else none) else some (.inr v1))
noncomputable def slices_Max_int64.p0.step (s : List (Int) × Int × Int) : Option ((List (Int) × Int × Int) ⊕ ((Int))) := slices_Max_int64.p0.round s.1 s.2.1 s.2.2
noncomputable def slices_Max_int64.p0.inS : Shape := ⟨[(0, .lf (.dat (.int .i64))), (3, .lf (.sc (.int .i64))), (4, .lf (.sc (.int .i64)))], []⟩
noncomputable def slices_Max_int64.p0.w0 : Way := { ex := (.ex 0), S := ⟨[(3, .lf (.sc (.int .i64)))], []⟩, R := Int, post := fun r => ((r, ()), ()), un := fun x => x.1.1 }
noncomputable def slices_Max_int64.p0.outs : List Way := [slices_Max_int64.p0.w0]
noncomputable def slices_Max_int64.p0.un (x : Tup slices_Max_int64.p0.inS) : List (Int) × Int × Int := (x.1.1, x.1.2.1, x.1.2.2.1)
noncomputable def slices_Max_int64.p0.lp : LProc := { inS := slices_Max_int64.p0.inS, outs := slices_Max_int64.p0.outs, F := fun x => loopF slices_Max_int64.p0.step (slices_Max_int64.p0.un x) }
noncomputable def slices_Max_int64.F0 (a0 : List (Int)) : Option (Int) :=
  (bif decide ((a0.length : Int) < (1 : Int)) then none else (bif decide ((0 : Int) < (a0.length : Int)) then ((loopF slices_Max_int64.p0.step (a0, (a0.getD 0 (0 : Int)), (1 : Int))).bind fun y1 => some y1) else none))
noncomputable def slices_Max_int64.F : (List (Int)) → Option (Int) := lock slices_Max_int64.F0
theorem slices_Max_int64.F_eq : slices_Max_int64.F = slices_Max_int64.F0 := lock_eq _
noncomputable def slices_Max_int64.p : Proc := { nargs := 1, inS := ⟨[(0, .lf (.dat (.int .i64)))], []⟩, outS := ⟨[(0, .lf (.sc (.int .i64)))], []⟩, n0 := 0, R := Int, F := fun x => slices_Max_int64.F x.1.1, post := fun r => ((r, ()), ()), un := fun x => x.1.1 }
noncomputable def slices_Max_int64.E : Env := { P := Try.prog, ty := tyTab [], glob := glob0, proc := procTab [], lproc := lprocTab [(0, slices_Max_int64.p0.lp)], n0 := 0, ntmps := 25 }
theorem slices_Max_int64.ok : ProcsOk slices_Max_int64.E := AllSound.ok (l := []) (by kernel_rfl) rfl trivial
noncomputable def slices_Max_int64.body0 : Code := (match Try.f64.body with | some c => c | none => .skip)
noncomputable def slices_Max_int64.p0.c : Code := ((codeAt slices_Max_int64.body0 [.r, .r, .r, .l, .r, .b, .b]).getD .skip)
noncomputable def slices_Max_int64.p0.ann : Ann := .z
set_option maxRecDepth 100000 in
theorem slices_Max_int64.p0.eq (x : Tup slices_Max_int64.p0.inS) : peRound slices_Max_int64.E slices_Max_int64.p0.c slices_Max_int64.p0.ann _ slices_Max_int64.p0.inS slices_Max_int64.p0.un slices_Max_int64.p0.outs x = slices_Max_int64.p0.step (slices_Max_int64.p0.un x) := by
  kernel_rfl
set_option maxRecDepth 100000 in
theorem slices_Max_int64.p0.sound : LProcSound slices_Max_int64.E (.loop slices_Max_int64.p0.c) slices_Max_int64.p0.lp :=
  loop_sound (c := slices_Max_int64.p0.c) (ann := slices_Max_int64.p0.ann) slices_Max_int64.ok ((SubsOk_z _ _) : SubsOk slices_Max_int64.E slices_Max_int64.p0.c slices_Max_int64.p0.ann) (by intro a ha; simp only [slices_Max_int64.p0.outs, List.mem_cons, List.not_mem_nil, or_false] at ha; rcases ha with rfl <;> exact fun _ => rfl) slices_Max_int64.p0.eq
noncomputable def slices_Max_int64.ann : Ann := .s (.z) (.s (.z) (.s (.z) (.s (.s (.z) (.b (.sub 0))) (.z))))
set_option maxRecDepth 100000 in
theorem slices_Max_int64.eq (x : Tup slices_Max_int64.p.inS) : peFn slices_Max_int64.E Try.f64 slices_Max_int64.ann slices_Max_int64.p x = slices_Max_int64.p.F x := by
  have h : peFn slices_Max_int64.E Try.f64 slices_Max_int64.ann slices_Max_int64.p x = slices_Max_int64.F0 x.1.1 := by kernel_rfl
  exact h.trans (by show _ = slices_Max_int64.F x.1.1; rw [slices_Max_int64.F_eq])
set_option maxRecDepth 100000 in
theorem slices_Max_int64.sound : ProcSound Try.prog glob0 64 slices_Max_int64.p :=
  fn_sound (E := slices_Max_int64.E) (c := slices_Max_int64.body0) (ann := slices_Max_int64.ann) slices_Max_int64.ok Try.func64 (of_decide_eq_true (by kernel_rfl)) rfl rfl rfl (by decide +kernel) (⟨(SubsOk_z _ _), ⟨(SubsOk_z _ _), ⟨(SubsOk_z _ _), ⟨⟨(SubsOk_z _ _), (sub_of rfl slices_Max_int64.p0.sound)⟩, (SubsOk_z _ _)⟩⟩⟩⟩ : SubsOk slices_Max_int64.E slices_Max_int64.body0 slices_Max_int64.ann) (fun _ => rfl) rfl slices_Max_int64.eq

/-! ### slices.Index[[]bool,bool]: function 68 -/
noncomputable def slices_Index_bool.p0.round (v0 : List (Bool)) (v1 : Bool) (v2 : Int) (v3 : Int) : Option ((List (Bool) × Bool × Int × Int) ⊕ ((Int) ⊕ (Unit))) :=
  (bif decide (v3 < v2) then (bif decide (0 ≤ v3) then (bif decide (v3 < (v0.length : Int)) then (bif (v1 == (v0.getD v3.toNat false)) then some (.inr (.inl v3)) else some (.inl (v0, v1, v2, (IntKind.wrap .i64 (v3 + (1 : Int)))))) else none) else none) else some (.inr (.inr ())))
noncomputable def slices_Index_bool.p0.step (s : List (Bool) × Bool × Int × Int) : Option ((List (Bool) × Bool × Int × Int) ⊕ ((Int) ⊕ (Unit))) := slices_Index_bool.p0.round s.1 s.2.1 s.2.2.1 s.2.2.2
noncomputable def slices_Index_bool.p0.inS : Shape := ⟨[(0, .lf (.dat .bool)), (1, .lf (.sc .bool)), (7, .lf (.sc (.int .i64))), (8, .lf (.sc (.int .i64)))], []⟩
noncomputable def slices_Index_bool.p0.w0 : Way := { ex := .rt, S := ⟨[(4, .lf (.sc (.int .i64)))], []⟩, R := Int, post := fun r => ((r, ()), ()), un := fun x => x.1.1 }
noncomputable def slices_Index_bool.p0.w1 : Way := { ex := (.ex 0), S := ⟨[], []⟩, R := Unit, post := fun r => ((), ()), un := fun x => () }
noncomputable def slices_Index_bool.p0.outs : List Way := [slices_Index_bool.p0.w0, slices_Index_bool.p0.w1]
noncomputable def slices_Index_bool.p0.un (x : Tup slices_Index_bool.p0.inS) : List (Bool) × Bool × Int × Int := (x.1.1, x.1.2.1, x.1.2.2.1, x.1.2.2.2.1)
noncomputable def slices_Index_bool.p0.lp : LProc := { inS := slices_Index_bool.p0.inS, outs := slices_Index_bool.p0.outs, F := fun x => loopF slices_Index_bool.p0.step (slices_Index_bool.p0.un x) }
noncomputable def slices_Index_bool.F0 (a0 : List (Bool)) (a1 : Bool) : Option (Int) :=
  ((loopF slices_Index_bool.p0.step (a0, a1, (a0.length : Int), (0 : Int))).bind fun y1 => (Sum.elim (fun y2 => some y2) (fun z3 => some (-1 : Int)) y1))
noncomputable def slices_Index_bool.F : (List (Bool)) → Bool → Option (Int) := lock slices_Index_bool.F0
theorem slices_Index_bool.F_eq : slices_Index_bool.F = slices_Index_bool.F0 := lock_eq _
noncomputable def slices_Index_bool.p : Proc := { nargs := 2, inS := ⟨[(0, .lf (.dat .bool)), (1, .lf (.sc .bool))], []⟩, outS := ⟨[(0, .lf (.sc (.int .i64)))], []⟩, n0 := 0, R := Int, F := fun x => slices_Index_bool.F x.1.1 x.1.2.1, post := fun r => ((r, ()), ()), un := fun x => x.1.1 }
noncomputable def slices_Index_bool.E : Env := { P := Try.prog, ty := tyTab [], glob := glob0, proc := procTab [], lproc := lprocTab [(0, slices_Index_bool.p0.lp)], n0 := 0, ntmps := 19 }
theorem slices_Index_bool.ok : ProcsOk slices_Index_bool.E := AllSound.ok (l := []) (by kernel_rfl) rfl trivial
noncomputable def slices_Index_bool.body0 : Code := (match Try.f68.body with | some c => c | none => .skip)
noncomputable def slices_Index_bool.p0.c : Code := ((codeAt slices_Index_bool.body0 [.r, .l, .r, .b, .b]).getD .skip)
noncomputable def slices_Index_bool.p0.ann : Ann := .z
set_option maxRecDepth 100000 in
theorem slices_Index_bool.p0.eq (x : Tup slices_Index_bool.p0.inS) : peRound slices_Index_bool.E slices_Index_bool.p0.c slices_Index_bool.p0.ann _ slices_Index_bool.p0.inS slices_Index_bool.p0.un slices_Index_bool.p0.outs x = slices_Index_bool.p0.step (slices_Index_bool.p0.un x) := by
  kernel_rfl
set_option maxRecDepth 100000 in
theorem slices_Index_bool.p0.sound : LProcSound slices_Index_bool.E (.loop slices_Index_bool.p0.c) slices_Index_bool.p0.lp :=
  loop_sound (c := slices_Index_bool.p0.c) (ann := slices_Index_bool.p0.ann) slices_Index_bool.ok ((SubsOk_z _ _) : SubsOk slices_Index_bool.E slices_Index_bool.p0.c slices_Index_bool.p0.ann) (by intro a ha; simp only [slices_Index_bool.p0.outs, List.mem_cons, List.not_mem_nil, or_false] at ha; rcases ha with rfl | rfl <;> exact fun _ => rfl) slices_Index_bool.p0.eq
noncomputable def slices_Index_bool.ann : Ann := .s (.z) (.s (.s (.z) (.b (.sub 0))) (.z))
set_option maxRecDepth 100000 in
theorem slices_Index_bool.eq (x : Tup slices_Index_bool.p.inS) : peFn slices_Index_bool.E Try.f68 slices_Index_bool.ann slices_Index_bool.p x = slices_Index_bool.p.F x := by
  have h : peFn slices_Index_bool.E Try.f68 slices_Index_bool.ann slices_Index_bool.p x = slices_Index_bool.F0 x.1.1 x.1.2.1 := by kernel_rfl
  exact h.trans (by show _ = slices_Index_bool.F x.1.1 x.1.2.1; rw [slices_Index_bool.F_eq])
set_option maxRecDepth 100000 in
theorem slices_Index_bool.sound : ProcSound Try.prog glob0 68 slices_Index_bool.p :=
  fn_sound (E := slices_Index_bool.E) (c := slices_Index_bool.body0) (ann := slices_Index_bool.ann) slices_Index_bool.ok Try.func68 (of_decide_eq_true (by kernel_rfl)) rfl rfl rfl (by decide +kernel) (⟨(SubsOk_z _ _), ⟨⟨(SubsOk_z _ _), (sub_of rfl slices_Index_bool.p0.sound)⟩, (SubsOk_z _ _)⟩⟩ : SubsOk slices_Index_bool.E slices_Index_bool.body0 slices_Index_bool.ann) (fun _ => rfl) rfl slices_Index_bool.eq

/-! ### armplan/profile.Bound$1: function 70 -/
noncomputable def profile_Bound_1.F0 (a0 : Int) : Option (Bool) :=
  ((profile_within.F a0 (1073741824 : Int)).bind fun r1 => some (!r1))
noncomputable def profile_Bound_1.F : Int → Option (Bool) := lock profile_Bound_1.F0
theorem profile_Bound_1.F_eq : profile_Bound_1.F = profile_Bound_1.F0 := lock_eq _
noncomputable def profile_Bound_1.p : Proc := { nargs := 1, inS := ⟨[(0, .lf (.sc (.int .i64)))], []⟩, outS := ⟨[(0, .lf (.sc .bool))], []⟩, n0 := 0, R := Bool, F := fun x => profile_Bound_1.F x.1.1, post := fun r => ((r, ()), ()), un := fun x => x.1.1 }
noncomputable def profile_Bound_1.E : Env := { P := Try.prog, ty := tyTab [], glob := glob0, proc := procTab [(63, profile_within.p)], lproc := lprocTab [], n0 := 0, ntmps := 6 }
theorem profile_Bound_1.ok : ProcsOk profile_Bound_1.E := AllSound.ok (l := [(63, profile_within.p)]) (by kernel_rfl) rfl ⟨profile_within.sound, trivial⟩
noncomputable def profile_Bound_1.body0 : Code := (match Try.f70.body with | some c => c | none => .skip)
noncomputable def profile_Bound_1.ann : Ann := .z
set_option maxRecDepth 100000 in
theorem profile_Bound_1.eq (x : Tup profile_Bound_1.p.inS) : peFn profile_Bound_1.E Try.f70 profile_Bound_1.ann profile_Bound_1.p x = profile_Bound_1.p.F x := by
  have h : peFn profile_Bound_1.E Try.f70 profile_Bound_1.ann profile_Bound_1.p x = profile_Bound_1.F0 x.1.1 := by kernel_rfl
  exact h.trans (by show _ = profile_Bound_1.F x.1.1; rw [profile_Bound_1.F_eq])
set_option maxRecDepth 100000 in
theorem profile_Bound_1.sound : ProcSound Try.prog glob0 70 profile_Bound_1.p :=
  fn_sound (E := profile_Bound_1.E) (c := profile_Bound_1.body0) (ann := profile_Bound_1.ann) profile_Bound_1.ok Try.func70 (of_decide_eq_true (by kernel_rfl)) rfl rfl rfl (by decide +kernel) ((SubsOk_z _ _) : SubsOk profile_Bound_1.E profile_Bound_1.body0 profile_Bound_1.ann) (fun _ => rfl) rfl profile_Bound_1.eq

/-! ### armplan/profile.quotient: function 71 -/
noncomputable def profile_quotient.F0 (a0 : Int) (a1 : Int) : Option (Int) :=
  (bif (a1 != 0) then (bif (a1 != 0) then (bif decide ((a0.tmod a1) < (0 : Int)) then some (IntKind.wrap .i64 ((IntKind.wrap .i64 (a0.tdiv a1)) - (1 : Int))) else some (IntKind.wrap .i64 (a0.tdiv a1))) else none) else none)
noncomputable def profile_quotient.F : Int → Int → Option (Int) := lock profile_quotient.F0
theorem profile_quotient.F_eq : profile_quotient.F = profile_quotient.F0 := lock_eq _
noncomputable def profile_quotient.p : Proc := { nargs := 2, inS := ⟨[(0, .lf (.sc (.int .i64))), (1, .lf (.sc (.int .i64)))], []⟩, outS := ⟨[(0, .lf (.sc (.int .i64)))], []⟩, n0 := 0, R := Int, F := fun x => profile_quotient.F x.1.1 x.1.2.1, post := fun r => ((r, ()), ()), un := fun x => x.1.1 }
noncomputable def profile_quotient.E : Env := { P := Try.prog, ty := tyTab [], glob := glob0, proc := procTab [], lproc := lprocTab [], n0 := 0, ntmps := 16 }
theorem profile_quotient.ok : ProcsOk profile_quotient.E := AllSound.ok (l := []) (by kernel_rfl) rfl trivial
noncomputable def profile_quotient.body0 : Code := (match Try.f71.body with | some c => c | none => .skip)
noncomputable def profile_quotient.ann : Ann := .z
set_option maxRecDepth 100000 in
theorem profile_quotient.eq (x : Tup profile_quotient.p.inS) : peFn profile_quotient.E Try.f71 profile_quotient.ann profile_quotient.p x = profile_quotient.p.F x := by
  have h : peFn profile_quotient.E Try.f71 profile_quotient.ann profile_quotient.p x = profile_quotient.F0 x.1.1 x.1.2.1 := by kernel_rfl
  exact h.trans (by show _ = profile_quotient.F x.1.1 x.1.2.1; rw [profile_quotient.F_eq])
set_option maxRecDepth 100000 in
theorem profile_quotient.sound : ProcSound Try.prog glob0 71 profile_quotient.p :=
  fn_sound (E := profile_quotient.E) (c := profile_quotient.body0) (ann := profile_quotient.ann) profile_quotient.ok Try.func71 (of_decide_eq_true (by kernel_rfl)) rfl rfl rfl (by decide +kernel) ((SubsOk_z _ _) : SubsOk profile_quotient.E profile_quotient.body0 profile_quotient.ann) (fun _ => rfl) rfl profile_quotient.eq

/-! ### armplan/armplanref40.formedRow: function 72 -/
noncomputable def armplanref40_formedRow.F0 (a0 : Int) (a1 : Int) (a2 : Int) (a3 : Int) : Option (Bool) :=
  (bif decide (a1 ≥ (-1073741824 : Int)) then (bif decide (a1 ≤ (1073741824 : Int)) then (bif decide (a2 ≥ (-1073741824 : Int)) then (bif decide (a2 ≤ (1073741824 : Int)) then (bif decide (a3 ≥ (-1152921504606846976 : Int)) then some (decide (a3 ≤ (1152921504606846976 : Int))) else some false) else some false) else some false) else some false) else some false)
noncomputable def armplanref40_formedRow.F : Int → Int → Int → Int → Option (Bool) := lock armplanref40_formedRow.F0
theorem armplanref40_formedRow.F_eq : armplanref40_formedRow.F = armplanref40_formedRow.F0 := lock_eq _
noncomputable def armplanref40_formedRow.p : Proc := { nargs := 1, inS := ⟨[(0, .ag [.sc (.int .i64), .sc (.int .i64), .sc (.int .i64), .sc (.int .i64)])], []⟩, outS := ⟨[(0, .lf (.sc .bool))], []⟩, n0 := 0, R := Bool, F := fun x => armplanref40_formedRow.F x.1.1.1 x.1.1.2.1 x.1.1.2.2.1 x.1.1.2.2.2.1, post := fun r => ((r, ()), ()), un := fun x => x.1.1 }
noncomputable def armplanref40_formedRow.E : Env := { P := Try.prog, ty := tyTab [], glob := glob0, proc := procTab [], lproc := lprocTab [], n0 := 0, ntmps := 31 }
theorem armplanref40_formedRow.ok : ProcsOk armplanref40_formedRow.E := AllSound.ok (l := []) (by kernel_rfl) rfl trivial
noncomputable def armplanref40_formedRow.body0 : Code := (match Try.f72.body with | some c => c | none => .skip)
noncomputable def armplanref40_formedRow.ann : Ann := .z
set_option maxRecDepth 100000 in
theorem armplanref40_formedRow.eq (x : Tup armplanref40_formedRow.p.inS) : peFn armplanref40_formedRow.E Try.f72 armplanref40_formedRow.ann armplanref40_formedRow.p x = armplanref40_formedRow.p.F x := by
  have h : peFn armplanref40_formedRow.E Try.f72 armplanref40_formedRow.ann armplanref40_formedRow.p x = armplanref40_formedRow.F0 x.1.1.1 x.1.1.2.1 x.1.1.2.2.1 x.1.1.2.2.2.1 := by kernel_rfl
  exact h.trans (by show _ = armplanref40_formedRow.F x.1.1.1 x.1.1.2.1 x.1.1.2.2.1 x.1.1.2.2.2.1; rw [armplanref40_formedRow.F_eq])
set_option maxRecDepth 100000 in
theorem armplanref40_formedRow.sound : ProcSound Try.prog glob0 72 armplanref40_formedRow.p :=
  fn_sound (E := armplanref40_formedRow.E) (c := armplanref40_formedRow.body0) (ann := armplanref40_formedRow.ann) armplanref40_formedRow.ok Try.func72 (of_decide_eq_true (by kernel_rfl)) rfl rfl rfl (by decide +kernel) ((SubsOk_z _ _) : SubsOk armplanref40_formedRow.E armplanref40_formedRow.body0 armplanref40_formedRow.ann) (fun _ => rfl) rfl armplanref40_formedRow.eq

/-! ### armplan/armplanref1.Floor: function 73 -/
noncomputable def armplanref1_Floor.F0 (a0 : Int) (a1 : Int) : Option (Int) :=
  (bif (a1 != 0) then (bif (a1 != 0) then (bif decide ((a0.tmod a1) < (0 : Int)) then some (IntKind.wrap .i64 ((IntKind.wrap .i64 (a0.tdiv a1)) - (1 : Int))) else some (IntKind.wrap .i64 (a0.tdiv a1))) else none) else none)
noncomputable def armplanref1_Floor.F : Int → Int → Option (Int) := lock armplanref1_Floor.F0
theorem armplanref1_Floor.F_eq : armplanref1_Floor.F = armplanref1_Floor.F0 := lock_eq _
noncomputable def armplanref1_Floor.p : Proc := { nargs := 2, inS := ⟨[(0, .lf (.sc (.int .i64))), (1, .lf (.sc (.int .i64)))], []⟩, outS := ⟨[(0, .lf (.sc (.int .i64)))], []⟩, n0 := 0, R := Int, F := fun x => armplanref1_Floor.F x.1.1 x.1.2.1, post := fun r => ((r, ()), ()), un := fun x => x.1.1 }
noncomputable def armplanref1_Floor.E : Env := { P := Try.prog, ty := tyTab [], glob := glob0, proc := procTab [], lproc := lprocTab [], n0 := 0, ntmps := 16 }
theorem armplanref1_Floor.ok : ProcsOk armplanref1_Floor.E := AllSound.ok (l := []) (by kernel_rfl) rfl trivial
noncomputable def armplanref1_Floor.body0 : Code := (match Try.f73.body with | some c => c | none => .skip)
noncomputable def armplanref1_Floor.ann : Ann := .z
set_option maxRecDepth 100000 in
theorem armplanref1_Floor.eq (x : Tup armplanref1_Floor.p.inS) : peFn armplanref1_Floor.E Try.f73 armplanref1_Floor.ann armplanref1_Floor.p x = armplanref1_Floor.p.F x := by
  have h : peFn armplanref1_Floor.E Try.f73 armplanref1_Floor.ann armplanref1_Floor.p x = armplanref1_Floor.F0 x.1.1 x.1.2.1 := by kernel_rfl
  exact h.trans (by show _ = armplanref1_Floor.F x.1.1 x.1.2.1; rw [armplanref1_Floor.F_eq])
set_option maxRecDepth 100000 in
theorem armplanref1_Floor.sound : ProcSound Try.prog glob0 73 armplanref1_Floor.p :=
  fn_sound (E := armplanref1_Floor.E) (c := armplanref1_Floor.body0) (ann := armplanref1_Floor.ann) armplanref1_Floor.ok Try.func73 (of_decide_eq_true (by kernel_rfl)) rfl rfl rfl (by decide +kernel) ((SubsOk_z _ _) : SubsOk armplanref1_Floor.E armplanref1_Floor.body0 armplanref1_Floor.ann) (fun _ => rfl) rfl armplanref1_Floor.eq

/-! ### armplan/armplanref19.SameNumbers: function 74 -/
noncomputable def armplanref19_SameNumbers.p0.round (v0 : List (Int)) (v1 : List (Int)) (v2 : Int) : Option ((List (Int) × List (Int) × Int) ⊕ ((Bool) ⊕ (Unit))) :=
  (bif decide (v2 < (v0.length : Int)) then (bif decide (0 ≤ v2) then (bif decide (v2 < (v0.length : Int)) then (bif decide (0 ≤ v2) then (bif decide (v2 < (v1.length : Int)) then (bif ((v0.getD v2.toNat (0 : Int)) != (v1.getD v2.toNat (0 : Int))) then some (.inr (.inl false)) else some (.inl (v0, v1, (IntKind.wrap .i64 (v2 + (1 : Int)))))) else none) else none) else none) else none) else some (.inr (.inr ())))
noncomputable def armplanref19_SameNumbers.p0.step (s : List (Int) × List (Int) × Int) : Option ((List (Int) × List (Int) × Int) ⊕ ((Bool) ⊕ (Unit))) := armplanref19_SameNumbers.p0.round s.1 s.2.1 s.2.2
noncomputable def armplanref19_SameNumbers.p0.inS : Shape := ⟨[(0, .lf (.dat (.int .i64))), (1, .lf (.dat (.int .i64))), (5, .lf (.sc (.int .i64)))], []⟩
noncomputable def armplanref19_SameNumbers.p0.w0 : Way := { ex := .rt, S := ⟨[(4, .lf (.sc .bool))], []⟩, R := Bool, post := fun r => ((r, ()), ()), un := fun x => x.1.1 }
noncomputable def armplanref19_SameNumbers.p0.w1 : Way := { ex := (.ex 0), S := ⟨[], []⟩, R := Unit, post := fun r => ((), ()), un := fun x => () }
noncomputable def armplanref19_SameNumbers.p0.outs : List Way := [armplanref19_SameNumbers.p0.w0, armplanref19_SameNumbers.p0.w1]
noncomputable def armplanref19_SameNumbers.p0.un (x : Tup armplanref19_SameNumbers.p0.inS) : List (Int) × List (Int) × Int := (x.1.1, x.1.2.1, x.1.2.2.1)
noncomputable def armplanref19_SameNumbers.p0.lp : LProc := { inS := armplanref19_SameNumbers.p0.inS, outs := armplanref19_SameNumbers.p0.outs, F := fun x => loopF armplanref19_SameNumbers.p0.step (armplanref19_SameNumbers.p0.un x) }
noncomputable def armplanref19_SameNumbers.F0 (a0 : List (Int)) (a1 : List (Int)) : Option (Bool) :=
  (bif ((a0.length : Int) != (a1.length : Int)) then some false else ((loopF armplanref19_SameNumbers.p0.step (a0, a1, (0 : Int))).bind fun y1 => (Sum.elim (fun y2 => some y2) (fun z3 => some true) y1)))
noncomputable def armplanref19_SameNumbers.F : (List (Int)) → (List (Int)) → Option (Bool) := lock armplanref19_SameNumbers.F0
theorem armplanref19_SameNumbers.F_eq : armplanref19_SameNumbers.F = armplanref19_SameNumbers.F0 := lock_eq _
noncomputable def armplanref19_SameNumbers.p : Proc := { nargs := 2, inS := ⟨[(0, .lf (.dat (.int .i64))), (1, .lf (.dat (.int .i64)))], []⟩, outS := ⟨[(0, .lf (.sc .bool))], []⟩, n0 := 0, R := Bool, F := fun x => armplanref19_SameNumbers.F x.1.1 x.1.2.1, post := fun r => ((r, ()), ()), un := fun x => x.1.1 }
noncomputable def armplanref19_SameNumbers.E : Env := { P := Try.prog, ty := tyTab [], glob := glob0, proc := procTab [], lproc := lprocTab [(0, armplanref19_SameNumbers.p0.lp)], n0 := 0, ntmps := 26 }
theorem armplanref19_SameNumbers.ok : ProcsOk armplanref19_SameNumbers.E := AllSound.ok (l := []) (by kernel_rfl) rfl trivial
noncomputable def armplanref19_SameNumbers.body0 : Code := (match Try.f74.body with | some c => c | none => .skip)
noncomputable def armplanref19_SameNumbers.p0.c : Code := ((codeAt armplanref19_SameNumbers.body0 [.r, .r, .l, .r, .b, .b]).getD .skip)
noncomputable def armplanref19_SameNumbers.p0.ann : Ann := .z
set_option maxRecDepth 100000 in
theorem armplanref19_SameNumbers.p0.eq (x : Tup armplanref19_SameNumbers.p0.inS) : peRound armplanref19_SameNumbers.E armplanref19_SameNumbers.p0.c armplanref19_SameNumbers.p0.ann _ armplanref19_SameNumbers.p0.inS armplanref19_SameNumbers.p0.un armplanref19_SameNumbers.p0.outs x = armplanref19_SameNumbers.p0.step (armplanref19_SameNumbers.p0.un x) := by
  kernel_rfl
set_option maxRecDepth 100000 in
theorem armplanref19_SameNumbers.p0.sound : LProcSound armplanref19_SameNumbers.E (.loop armplanref19_SameNumbers.p0.c) armplanref19_SameNumbers.p0.lp :=
  loop_sound (c := armplanref19_SameNumbers.p0.c) (ann := armplanref19_SameNumbers.p0.ann) armplanref19_SameNumbers.ok ((SubsOk_z _ _) : SubsOk armplanref19_SameNumbers.E armplanref19_SameNumbers.p0.c armplanref19_SameNumbers.p0.ann) (by intro a ha; simp only [armplanref19_SameNumbers.p0.outs, List.mem_cons, List.not_mem_nil, or_false] at ha; rcases ha with rfl | rfl <;> exact fun _ => rfl) armplanref19_SameNumbers.p0.eq
noncomputable def armplanref19_SameNumbers.ann : Ann := .s (.z) (.s (.z) (.s (.s (.z) (.b (.sub 0))) (.z)))
set_option maxRecDepth 100000 in
theorem armplanref19_SameNumbers.eq (x : Tup armplanref19_SameNumbers.p.inS) : peFn armplanref19_SameNumbers.E Try.f74 armplanref19_SameNumbers.ann armplanref19_SameNumbers.p x = armplanref19_SameNumbers.p.F x := by
  have h : peFn armplanref19_SameNumbers.E Try.f74 armplanref19_SameNumbers.ann armplanref19_SameNumbers.p x = armplanref19_SameNumbers.F0 x.1.1 x.1.2.1 := by kernel_rfl
  exact h.trans (by show _ = armplanref19_SameNumbers.F x.1.1 x.1.2.1; rw [armplanref19_SameNumbers.F_eq])
set_option maxRecDepth 100000 in
theorem armplanref19_SameNumbers.sound : ProcSound Try.prog glob0 74 armplanref19_SameNumbers.p :=
  fn_sound (E := armplanref19_SameNumbers.E) (c := armplanref19_SameNumbers.body0) (ann := armplanref19_SameNumbers.ann) armplanref19_SameNumbers.ok Try.func74 (of_decide_eq_true (by kernel_rfl)) rfl rfl rfl (by decide +kernel) (⟨(SubsOk_z _ _), ⟨(SubsOk_z _ _), ⟨⟨(SubsOk_z _ _), (sub_of rfl armplanref19_SameNumbers.p0.sound)⟩, (SubsOk_z _ _)⟩⟩⟩ : SubsOk armplanref19_SameNumbers.E armplanref19_SameNumbers.body0 armplanref19_SameNumbers.ann) (fun _ => rfl) rfl armplanref19_SameNumbers.eq

/-! ### math/bits.Mul64: function 76 -/
noncomputable def bits_Mul64.F0 (a0 : Int) (a1 : Int) : Option (Int × Int) :=
  some ((IntKind.wrap .u64 ((IntKind.wrap .u64 ((IntKind.wrap .u64 ((shrI .u64 a0 (32 : Int)) * (shrI .u64 a1 (32 : Int)))) + (shrI .u64 (IntKind.wrap .u64 ((IntKind.wrap .u64 ((shrI .u64 a0 (32 : Int)) * (ibits .and .u64 a1 (4294967295 : Int)))) + (shrI .u64 (IntKind.wrap .u64 ((ibits .and .u64 a0 (4294967295 : Int)) * (ibits .and .u64 a1 (4294967295 : Int)))) (32 : Int)))) (32 : Int)))) + (shrI .u64 (IntKind.wrap .u64 ((ibits .and .u64 (IntKind.wrap .u64 ((IntKind.wrap .u64 ((shrI .u64 a0 (32 : Int)) * (ibits .and .u64 a1 (4294967295 : Int)))) + (shrI .u64 (IntKind.wrap .u64 ((ibits .and .u64 a0 (4294967295 : Int)) * (ibits .and .u64 a1 (4294967295 : Int)))) (32 : Int)))) (4294967295 : Int)) + (IntKind.wrap .u64 ((ibits .and .u64 a0 (4294967295 : Int)) * (shrI .u64 a1 (32 : Int)))))) (32 : Int)))), (IntKind.wrap .u64 (a0 * a1)))
noncomputable def bits_Mul64.F : Int → Int → Option (Int × Int) := lock bits_Mul64.F0
theorem bits_Mul64.F_eq : bits_Mul64.F = bits_Mul64.F0 := lock_eq _
noncomputable def bits_Mul64.p : Proc := { nargs := 2, inS := ⟨[(0, .lf (.sc (.int .u64))), (1, .lf (.sc (.int .u64)))], []⟩, outS := ⟨[(0, .lf (.sc (.int .u64))), (1, .lf (.sc (.int .u64)))], []⟩, n0 := 0, R := Int × Int, F := fun x => bits_Mul64.F x.1.1 x.1.2.1, post := fun r => ((r.1, (r.2, ())), ()), un := fun x => (x.1.1, x.1.2.1) }
noncomputable def bits_Mul64.E : Env := { P := Try.prog, ty := tyTab [], glob := glob0, proc := procTab [], lproc := lprocTab [], n0 := 0, ntmps := 51 }
theorem bits_Mul64.ok : ProcsOk bits_Mul64.E := AllSound.ok (l := []) (by kernel_rfl) rfl trivial
noncomputable def bits_Mul64.body0 : Code := (match Try.f76.body with | some c => c | none => .skip)
noncomputable def bits_Mul64.ann : Ann := .z
set_option maxRecDepth 100000 in
theorem bits_Mul64.eq (x : Tup bits_Mul64.p.inS) : peFn bits_Mul64.E Try.f76 bits_Mul64.ann bits_Mul64.p x = bits_Mul64.p.F x := by
  have h : peFn bits_Mul64.E Try.f76 bits_Mul64.ann bits_Mul64.p x = bits_Mul64.F0 x.1.1 x.1.2.1 := by kernel_rfl
  exact h.trans (by show _ = bits_Mul64.F x.1.1 x.1.2.1; rw [bits_Mul64.F_eq])
set_option maxRecDepth 100000 in
theorem bits_Mul64.sound : ProcSound Try.prog glob0 76 bits_Mul64.p :=
  fn_sound (E := bits_Mul64.E) (c := bits_Mul64.body0) (ann := bits_Mul64.ann) bits_Mul64.ok Try.func76 (of_decide_eq_true (by kernel_rfl)) rfl rfl rfl (by decide +kernel) ((SubsOk_z _ _) : SubsOk bits_Mul64.E bits_Mul64.body0 bits_Mul64.ann) (fun _ => rfl) rfl bits_Mul64.eq

/-! ### armplan/armplanmake.Limits: function 15 -/
noncomputable def armplanmake_Limits.p0.round (v0 : Int) (v1 : Int) (v2 : List (Int)) (v3 : Int) (v4 : List (Int)) : Option ((Int × Int × List (Int) × Int × List (Int)) ⊕ ((Int × List (Int) × Int × List (Int)))) :=
  (bif decide (v1 < v0) then ((armplanmake_Source_Next.F (30 : Int) v2 v3).bind fun r5 => (bif decide (v4.length + ([r5.1] : List (Int)).length < 17592186044416) then some (.inl (v0, (IntKind.wrap .i64 (v1 + (1 : Int))), r5.2.1, r5.2.2, (v4 ++ ([r5.1] : List (Int))))) else none)) else some (.inr (v0, v2, v3, v4)))
noncomputable def armplanmake_Limits.p0.step (s : Int × Int × List (Int) × Int × List (Int)) : Option ((Int × Int × List (Int) × Int × List (Int)) ⊕ ((Int × List (Int) × Int × List (Int)))) := armplanmake_Limits.p0.round s.1 s.2.1 s.2.2.1 s.2.2.2.1 s.2.2.2.2
noncomputable def armplanmake_Limits.p0.inS : Shape := ⟨[(4, .lf (.bp 0 0)), (5, .lf (.sc (.int .i64))), (6, .lf (.own 1)), (7, .lf (.sc (.int .i64)))], [.box [.dat (.int .i64), .sc (.int .i64)], .row 2 (.int .i64)]⟩
noncomputable def armplanmake_Limits.p0.w0 : Way := { ex := (.ex 0), S := ⟨[(4, .lf (.bp 0 0)), (5, .lf (.sc (.int .i64))), (6, .lf (.own 1))], [.box [.dat (.int .i64), .sc (.int .i64)], .row 2 (.int .i64)]⟩, R := Int × List (Int) × Int × List (Int), post := fun r => (((), (r.1, ((), ()))), ((r.2.1, (r.2.2.1, ())), (r.2.2.2, ()))), un := fun x => (x.1.2.1, x.2.1.1, x.2.1.2.1, x.2.2.1) }
noncomputable def armplanmake_Limits.p0.outs : List Way := [armplanmake_Limits.p0.w0]
noncomputable def armplanmake_Limits.p0.un (x : Tup armplanmake_Limits.p0.inS) : Int × Int × List (Int) × Int × List (Int) := (x.1.2.1, x.1.2.2.2.1, x.2.1.1, x.2.1.2.1, x.2.2.1)
noncomputable def armplanmake_Limits.p0.lp : LProc := { inS := armplanmake_Limits.p0.inS, outs := armplanmake_Limits.p0.outs, F := fun x => loopF armplanmake_Limits.p0.step (armplanmake_Limits.p0.un x) }
noncomputable def armplanmake_Limits.p1.round (v0 : Int) (v1 : Int) (v2 : List (Int)) (v3 : Int) (v4 : List (Int)) (v5 : List ((Int × (Int × (Int × Int))))) : Option ((Int × Int × List (Int) × Int × List (Int) × List ((Int × (Int × (Int × Int))))) ⊕ ((List (Int) × List ((Int × (Int × (Int × Int))))))) :=
  (bif decide (v1 > (0 : Int)) then ((armplanmake_Source_Next.F (IntKind.wrap .i64 (v0 - (1 : Int))) v2 v3).bind fun r16 => ((armplanmake_Source_Signed.F (3 : Int) r16.2.1 r16.2.2).bind fun r17 => ((armplanmake_Source_Signed.F (3 : Int) r17.2.1 r17.2.2).bind fun r18 => ((armplanmake_Source_Signed.F (20 : Int) r18.2.1 r18.2.2).bind fun r19 => (bif decide (r17.1 > (0 : Int)) then (bif decide (r18.1 > (0 : Int)) then (bif decide (v5.length + ([(r16.1, (r17.1, ((IntKind.wrap .i64 (0 - r18.1)), (IntKind.wrap .i64 (r19.1 + (12 : Int))))))] : List ((Int × (Int × (Int × Int))))).length < 4398046511104) then some (.inl (v0, (IntKind.wrap .i64 (v1 - (1 : Int))), r19.2.1, r19.2.2, v4, (v5 ++ ([(r16.1, (r17.1, ((IntKind.wrap .i64 (0 - r18.1)), (IntKind.wrap .i64 (r19.1 + (12 : Int))))))] : List ((Int × (Int × (Int × Int)))))))) else none) else (bif decide (v5.length + ([(r16.1, (r17.1, (r18.1, (IntKind.wrap .i64 (r19.1 + (12 : Int))))))] : List ((Int × (Int × (Int × Int))))).length < 4398046511104) then some (.inl (v0, (IntKind.wrap .i64 (v1 - (1 : Int))), r19.2.1, r19.2.2, v4, (v5 ++ ([(r16.1, (r17.1, (r18.1, (IntKind.wrap .i64 (r19.1 + (12 : Int))))))] : List ((Int × (Int × (Int × Int)))))))) else none)) else (bif decide (v5.length + ([(r16.1, (r17.1, (r18.1, (IntKind.wrap .i64 (r19.1 + (12 : Int))))))] : List ((Int × (Int × (Int × Int))))).length < 4398046511104) then some (.inl (v0, (IntKind.wrap .i64 (v1 - (1 : Int))), r19.2.1, r19.2.2, v4, (v5 ++ ([(r16.1, (r17.1, (r18.1, (IntKind.wrap .i64 (r19.1 + (12 : Int))))))] : List ((Int × (Int × (Int × Int)))))))) else none)))))) else some (.inr (v4, v5)))
noncomputable def armplanmake_Limits.p1.step (s : Int × Int × List (Int) × Int × List (Int) × List ((Int × (Int × (Int × Int))))) : Option ((Int × Int × List (Int) × Int × List (Int) × List ((Int × (Int × (Int × Int))))) ⊕ ((List (Int) × List ((Int × (Int × (Int × Int))))))) := armplanmake_Limits.p1.round s.1 s.2.1 s.2.2.1 s.2.2.2.1 s.2.2.2.2.1 s.2.2.2.2.2
noncomputable def armplanmake_Limits.p1.inS : Shape := ⟨[(4, .lf (.bp 0 0)), (5, .lf (.sc (.int .i64))), (6, .lf (.own 1)), (8, .lf (.own 2)), (9, .lf (.sc (.int .i64)))], [.box [.dat (.int .i64), .sc (.int .i64)], .row 2 (.int .i64), .row 25 (.pair (.int .i64) (.pair (.int .i64) (.pair (.int .i64) (.int .i64))))]⟩
noncomputable def armplanmake_Limits.p1.w0 : Way := { ex := (.ex 2), S := ⟨[(6, .lf (.own 0)), (8, .lf (.own 1))], [.row 2 (.int .i64), .row 25 (.pair (.int .i64) (.pair (.int .i64) (.pair (.int .i64) (.int .i64))))]⟩, R := List (Int) × List ((Int × (Int × (Int × Int)))), post := fun r => (((), ((), ())), (r.1, (r.2, ()))), un := fun x => (x.2.1, x.2.2.1) }
noncomputable def armplanmake_Limits.p1.outs : List Way := [armplanmake_Limits.p1.w0]
noncomputable def armplanmake_Limits.p1.un (x : Tup armplanmake_Limits.p1.inS) : Int × Int × List (Int) × Int × List (Int) × List ((Int × (Int × (Int × Int)))) := (x.1.2.1, x.1.2.2.2.2.1, x.2.1.1, x.2.1.2.1, x.2.2.1, x.2.2.2.1)
noncomputable def armplanmake_Limits.p1.lp : LProc := { inS := armplanmake_Limits.p1.inS, outs := armplanmake_Limits.p1.outs, F := fun x => loopF armplanmake_Limits.p1.step (armplanmake_Limits.p1.un x) }
noncomputable def armplanmake_Limits.F0 (a0 : List (Int)) : Option (List (Int) × List ((Int × (Int × (Int × Int))))) :=
  ((armplanmake_From.F a0).bind fun r1 => ((armplanmake_Source_Next.F (7 : Int) r1.1 r1.2).bind fun r2 => ((loopF armplanmake_Limits.p0.step ((IntKind.wrap .i64 ((2 : Int) + r2.1)), (0 : Int), r2.2.1, r2.2.2, ([] : List (Int)))).bind fun y6 => ((armplanmake_Source_Next.F (12 : Int) y6.2.1 y6.2.2.1).bind fun r7 => ((loopF armplanmake_Limits.p1.step (y6.1, r7.1, r7.2.1, r7.2.2, y6.2.2.2, ([] : List ((Int × (Int × (Int × Int))))))).bind fun y20 => some (y20.1, y20.2))))))
noncomputable def armplanmake_Limits.F : (List (Int)) → Option (List (Int) × List ((Int × (Int × (Int × Int))))) := lock armplanmake_Limits.F0
theorem armplanmake_Limits.F_eq : armplanmake_Limits.F = armplanmake_Limits.F0 := lock_eq _
noncomputable def armplanmake_Limits.p : Proc := { nargs := 1, inS := ⟨[(0, .lf (.dat (.int .i64)))], []⟩, outS := ⟨[(0, .lf (.own 0)), (1, .lf (.own 1))], [.row 2 (.int .i64), .row 25 (.pair (.int .i64) (.pair (.int .i64) (.pair (.int .i64) (.int .i64))))]⟩, n0 := 0, R := List (Int) × List ((Int × (Int × (Int × Int)))), F := fun x => armplanmake_Limits.F x.1.1, post := fun r => (((), ((), ())), (r.1, (r.2, ()))), un := fun x => (x.2.1, x.2.2.1) }
noncomputable def armplanmake_Limits.E : Env := { P := Try.prog, ty := tyTab [(2, (.int .i64)), (25, (.pair (.int .i64) (.pair (.int .i64) (.pair (.int .i64) (.int .i64)))))], glob := glob0, proc := procTab [(36, armplanmake_From.p), (37, armplanmake_Source_Next.p), (38, armplanmake_Source_Signed.p)], lproc := lprocTab [(0, armplanmake_Limits.p0.lp), (1, armplanmake_Limits.p1.lp)], n0 := 0, ntmps := 62 }
theorem armplanmake_Limits.ok : ProcsOk armplanmake_Limits.E := AllSound.ok (l := [(36, armplanmake_From.p), (37, armplanmake_Source_Next.p), (38, armplanmake_Source_Signed.p)]) (by kernel_rfl) rfl ⟨armplanmake_From.sound, armplanmake_Source_Next.sound, armplanmake_Source_Signed.sound, trivial⟩
noncomputable def armplanmake_Limits.body0 : Code := (match Try.f15.body with | some c => c | none => .skip)
noncomputable def armplanmake_Limits.p1.c : Code := ((codeAt armplanmake_Limits.body0 [.r, .r, .r, .r, .r, .r, .l, .r, .b, .b]).getD .skip)
noncomputable def armplanmake_Limits.p1.ann : Ann := .z
set_option maxRecDepth 100000 in
theorem armplanmake_Limits.p1.eq (x : Tup armplanmake_Limits.p1.inS) : peRound armplanmake_Limits.E armplanmake_Limits.p1.c armplanmake_Limits.p1.ann _ armplanmake_Limits.p1.inS armplanmake_Limits.p1.un armplanmake_Limits.p1.outs x = armplanmake_Limits.p1.step (armplanmake_Limits.p1.un x) := by
  kernel_rfl
set_option maxRecDepth 100000 in
theorem armplanmake_Limits.p1.sound : LProcSound armplanmake_Limits.E (.loop armplanmake_Limits.p1.c) armplanmake_Limits.p1.lp :=
  loop_sound (c := armplanmake_Limits.p1.c) (ann := armplanmake_Limits.p1.ann) armplanmake_Limits.ok ((SubsOk_z _ _) : SubsOk armplanmake_Limits.E armplanmake_Limits.p1.c armplanmake_Limits.p1.ann) (by intro a ha; simp only [armplanmake_Limits.p1.outs, List.mem_cons, List.not_mem_nil, or_false] at ha; rcases ha with rfl <;> exact fun _ => rfl) armplanmake_Limits.p1.eq
noncomputable def armplanmake_Limits.p0.c : Code := ((codeAt armplanmake_Limits.body0 [.r, .r, .r, .r, .l, .r, .b, .b]).getD .skip)
noncomputable def armplanmake_Limits.p0.ann : Ann := .z
set_option maxRecDepth 100000 in
theorem armplanmake_Limits.p0.eq (x : Tup armplanmake_Limits.p0.inS) : peRound armplanmake_Limits.E armplanmake_Limits.p0.c armplanmake_Limits.p0.ann _ armplanmake_Limits.p0.inS armplanmake_Limits.p0.un armplanmake_Limits.p0.outs x = armplanmake_Limits.p0.step (armplanmake_Limits.p0.un x) := by
  kernel_rfl
set_option maxRecDepth 100000 in
theorem armplanmake_Limits.p0.sound : LProcSound armplanmake_Limits.E (.loop armplanmake_Limits.p0.c) armplanmake_Limits.p0.lp :=
  loop_sound (c := armplanmake_Limits.p0.c) (ann := armplanmake_Limits.p0.ann) armplanmake_Limits.ok ((SubsOk_z _ _) : SubsOk armplanmake_Limits.E armplanmake_Limits.p0.c armplanmake_Limits.p0.ann) (by intro a ha; simp only [armplanmake_Limits.p0.outs, List.mem_cons, List.not_mem_nil, or_false] at ha; rcases ha with rfl <;> exact fun _ => rfl) armplanmake_Limits.p0.eq
noncomputable def armplanmake_Limits.ann : Ann := .s (.z) (.s (.z) (.s (.z) (.s (.z) (.s (.s (.z) (.b (.sub 0))) (.s (.z) (.s (.s (.z) (.b (.sub 1))) (.z)))))))
set_option maxRecDepth 100000 in
theorem armplanmake_Limits.eq (x : Tup armplanmake_Limits.p.inS) : peFn armplanmake_Limits.E Try.f15 armplanmake_Limits.ann armplanmake_Limits.p x = armplanmake_Limits.p.F x := by
  have h : peFn armplanmake_Limits.E Try.f15 armplanmake_Limits.ann armplanmake_Limits.p x = armplanmake_Limits.F0 x.1.1 := by kernel_rfl
  exact h.trans (by show _ = armplanmake_Limits.F x.1.1; rw [armplanmake_Limits.F_eq])
set_option maxRecDepth 100000 in
theorem armplanmake_Limits.sound : ProcSound Try.prog glob0 15 armplanmake_Limits.p :=
  fn_sound (E := armplanmake_Limits.E) (c := armplanmake_Limits.body0) (ann := armplanmake_Limits.ann) armplanmake_Limits.ok Try.func15 (of_decide_eq_true (by kernel_rfl)) rfl rfl rfl (by decide +kernel) (⟨(SubsOk_z _ _), ⟨(SubsOk_z _ _), ⟨(SubsOk_z _ _), ⟨(SubsOk_z _ _), ⟨⟨(SubsOk_z _ _), (sub_of rfl armplanmake_Limits.p0.sound)⟩, ⟨(SubsOk_z _ _), ⟨⟨(SubsOk_z _ _), (sub_of rfl armplanmake_Limits.p1.sound)⟩, (SubsOk_z _ _)⟩⟩⟩⟩⟩⟩⟩ : SubsOk armplanmake_Limits.E armplanmake_Limits.body0 armplanmake_Limits.ann) (fun _ => rfl) rfl armplanmake_Limits.eq

/-! ### armplan/armplanlaw41.levels: function 21 -/
noncomputable def armplanlaw41_levels.p0.round (v0 : List (Int)) (v1 : Int) (v2 : List (Int)) (v3 : Int) (v4 : List (Int)) : Option ((List (Int) × Int × List (Int) × Int × List (Int)) ⊕ ((List (Int)))) :=
  (bif decide (v1 < (v0.length : Int)) then (bif decide (0 ≤ v1) then (bif decide (v1 < (v0.length : Int)) then ((armplanmake_Source_Next.F (9 : Int) v2 v3).bind fun r6 => ((armplanmake_Source_Next.F (8 : Int) r6.2.1 r6.2.2).bind fun r7 => (bif decide (v4.length + ([(bif decide ((IntKind.wrap .i64 ((IntKind.wrap .i64 ((v0.getD v1.toNat (0 : Int)) - r6.1)) + (IntKind.wrap .i64 (r7.1.tdiv (7 : Int))))) > (0 : Int)) then (IntKind.wrap .i64 ((IntKind.wrap .i64 ((v0.getD v1.toNat (0 : Int)) - r6.1)) + (IntKind.wrap .i64 (r7.1.tdiv (7 : Int))))) else (0 : Int))] : List (Int)).length < 17592186044416) then some (.inl (v0, (IntKind.wrap .i64 (v1 + (1 : Int))), r7.2.1, r7.2.2, (v4 ++ ([(bif decide ((IntKind.wrap .i64 ((IntKind.wrap .i64 ((v0.getD v1.toNat (0 : Int)) - r6.1)) + (IntKind.wrap .i64 (r7.1.tdiv (7 : Int))))) > (0 : Int)) then (IntKind.wrap .i64 ((IntKind.wrap .i64 ((v0.getD v1.toNat (0 : Int)) - r6.1)) + (IntKind.wrap .i64 (r7.1.tdiv (7 : Int))))) else (0 : Int))] : List (Int))))) else none))) else none) else none) else some (.inr v4))
noncomputable def armplanlaw41_levels.p0.step (s : List (Int) × Int × List (Int) × Int × List (Int)) : Option ((List (Int) × Int × List (Int) × Int × List (Int)) ⊕ ((List (Int)))) := armplanlaw41_levels.p0.round s.1 s.2.1 s.2.2.1 s.2.2.2.1 s.2.2.2.2
noncomputable def armplanlaw41_levels.p0.inS : Shape := ⟨[(0, .lf (.dat (.int .i64))), (5, .lf (.bp 0 0)), (6, .lf (.own 1)), (7, .lf (.sc (.int .i64)))], [.box [.dat (.int .i64), .sc (.int .i64)], .row 2 (.int .i64)]⟩
noncomputable def armplanlaw41_levels.p0.w0 : Way := { ex := (.ex 0), S := ⟨[(6, .lf (.own 0))], [.row 2 (.int .i64)]⟩, R := List (Int), post := fun r => (((), ()), (r, ())), un := fun x => x.2.1 }
noncomputable def armplanlaw41_levels.p0.outs : List Way := [armplanlaw41_levels.p0.w0]
noncomputable def armplanlaw41_levels.p0.un (x : Tup armplanlaw41_levels.p0.inS) : List (Int) × Int × List (Int) × Int × List (Int) := (x.1.1, x.1.2.2.2.1, x.2.1.1, x.2.1.2.1, x.2.2.1)
noncomputable def armplanlaw41_levels.p0.lp : LProc := { inS := armplanlaw41_levels.p0.inS, outs := armplanlaw41_levels.p0.outs, F := fun x => loopF armplanlaw41_levels.p0.step (armplanlaw41_levels.p0.un x) }
noncomputable def armplanlaw41_levels.F0 (a0 : List (Int)) (a1 : List (Int)) : Option (List (Int)) :=
  ((armplanmake_From.F a1).bind fun r1 => ((loopF armplanlaw41_levels.p0.step (a0, (0 : Int), r1.1, r1.2, ([] : List (Int)))).bind fun y8 => some y8))
noncomputable def armplanlaw41_levels.F : (List (Int)) → (List (Int)) → Option (List (Int)) := lock armplanlaw41_levels.F0
theorem armplanlaw41_levels.F_eq : armplanlaw41_levels.F = armplanlaw41_levels.F0 := lock_eq _
noncomputable def armplanlaw41_levels.p : Proc := { nargs := 2, inS := ⟨[(0, .lf (.dat (.int .i64))), (1, .lf (.dat (.int .i64)))], []⟩, outS := ⟨[(0, .lf (.own 0))], [.row 2 (.int .i64)]⟩, n0 := 0, R := List (Int), F := fun x => armplanlaw41_levels.F x.1.1 x.1.2.1, post := fun r => (((), ()), (r, ())), un := fun x => x.2.1 }
noncomputable def armplanlaw41_levels.E : Env := { P := Try.prog, ty := tyTab [(2, (.int .i64))], glob := glob0, proc := procTab [(36, armplanmake_From.p), (37, armplanmake_Source_Next.p)], lproc := lprocTab [(0, armplanlaw41_levels.p0.lp)], n0 := 0, ntmps := 32 }
theorem armplanlaw41_levels.ok : ProcsOk armplanlaw41_levels.E := AllSound.ok (l := [(36, armplanmake_From.p), (37, armplanmake_Source_Next.p)]) (by kernel_rfl) rfl ⟨armplanmake_From.sound, armplanmake_Source_Next.sound, trivial⟩
noncomputable def armplanlaw41_levels.body0 : Code := (match Try.f21.body with | some c => c | none => .skip)
noncomputable def armplanlaw41_levels.p0.c : Code := ((codeAt armplanlaw41_levels.body0 [.r, .r, .r, .l, .r, .b, .b]).getD .skip)
noncomputable def armplanlaw41_levels.p0.ann : Ann := .z
set_option maxRecDepth 100000 in
theorem armplanlaw41_levels.p0.eq (x : Tup armplanlaw41_levels.p0.inS) : peRound armplanlaw41_levels.E armplanlaw41_levels.p0.c armplanlaw41_levels.p0.ann _ armplanlaw41_levels.p0.inS armplanlaw41_levels.p0.un armplanlaw41_levels.p0.outs x = armplanlaw41_levels.p0.step (armplanlaw41_levels.p0.un x) := by
  kernel_rfl
set_option maxRecDepth 100000 in
theorem armplanlaw41_levels.p0.sound : LProcSound armplanlaw41_levels.E (.loop armplanlaw41_levels.p0.c) armplanlaw41_levels.p0.lp :=
  loop_sound (c := armplanlaw41_levels.p0.c) (ann := armplanlaw41_levels.p0.ann) armplanlaw41_levels.ok ((SubsOk_z _ _) : SubsOk armplanlaw41_levels.E armplanlaw41_levels.p0.c armplanlaw41_levels.p0.ann) (by intro a ha; simp only [armplanlaw41_levels.p0.outs, List.mem_cons, List.not_mem_nil, or_false] at ha; rcases ha with rfl <;> exact fun _ => rfl) armplanlaw41_levels.p0.eq
noncomputable def armplanlaw41_levels.ann : Ann := .s (.z) (.s (.z) (.s (.z) (.s (.s (.z) (.b (.sub 0))) (.z))))
set_option maxRecDepth 100000 in
theorem armplanlaw41_levels.eq (x : Tup armplanlaw41_levels.p.inS) : peFn armplanlaw41_levels.E Try.f21 armplanlaw41_levels.ann armplanlaw41_levels.p x = armplanlaw41_levels.p.F x := by
  have h : peFn armplanlaw41_levels.E Try.f21 armplanlaw41_levels.ann armplanlaw41_levels.p x = armplanlaw41_levels.F0 x.1.1 x.1.2.1 := by kernel_rfl
  exact h.trans (by show _ = armplanlaw41_levels.F x.1.1 x.1.2.1; rw [armplanlaw41_levels.F_eq])
set_option maxRecDepth 100000 in
theorem armplanlaw41_levels.sound : ProcSound Try.prog glob0 21 armplanlaw41_levels.p :=
  fn_sound (E := armplanlaw41_levels.E) (c := armplanlaw41_levels.body0) (ann := armplanlaw41_levels.ann) armplanlaw41_levels.ok Try.func21 (of_decide_eq_true (by kernel_rfl)) rfl rfl rfl (by decide +kernel) (⟨(SubsOk_z _ _), ⟨(SubsOk_z _ _), ⟨(SubsOk_z _ _), ⟨⟨(SubsOk_z _ _), (sub_of rfl armplanlaw41_levels.p0.sound)⟩, (SubsOk_z _ _)⟩⟩⟩⟩ : SubsOk armplanlaw41_levels.E armplanlaw41_levels.body0 armplanlaw41_levels.ann) (fun _ => rfl) rfl armplanlaw41_levels.eq

/-! ### armplan/profile.Phases: function 24 -/
noncomputable def profile_Phases.p0.round (v0 : List (Int)) (v1 : Int) (v2 : Int) (v3 : List ((Int × (Int × Int)))) : Option ((List (Int) × Int × Int × List ((Int × (Int × Int)))) ⊕ ((List ((Int × (Int × Int)))))) :=
  (bif decide (v2 < v1) then (bif decide (0 ≤ v2) then (bif decide (v2 < (v0.length : Int)) then (bif decide (0 ≤ (IntKind.wrap .i64 (v2 + (1 : Int)))) then (bif decide ((IntKind.wrap .i64 (v2 + (1 : Int))) < (v0.length : Int)) then ((profile_kind.F (v0.getD v2.toNat (0 : Int)) (v0.getD (IntKind.wrap .i64 (v2 + (1 : Int))).toNat (0 : Int))).bind fun r3 => (bif decide ((v3.length : Int) > (0 : Int)) then (bif decide (0 ≤ (IntKind.wrap .i64 ((v3.length : Int) - (1 : Int)))) then (bif decide ((IntKind.wrap .i64 ((v3.length : Int) - (1 : Int))) < (v3.length : Int)) then (bif ((v3.getD (IntKind.wrap .i64 ((v3.length : Int) - (1 : Int))).toNat ((0 : Int), ((0 : Int), (0 : Int)))).1 == r3) then (bif decide (0 ≤ (IntKind.wrap .i64 ((v3.length : Int) - (1 : Int)))) then (bif decide ((IntKind.wrap .i64 ((v3.length : Int) - (1 : Int))) < (v3.length : Int)) then some (.inl (v0, v1, (IntKind.wrap .i64 (v2 + (1 : Int))), (v3.set (IntKind.wrap .i64 ((v3.length : Int) - (1 : Int))).toNat ((v3.getD (IntKind.wrap .i64 ((v3.length : Int) - (1 : Int))).toNat ((0 : Int), ((0 : Int), (0 : Int)))).1, (((v3.getD (IntKind.wrap .i64 ((v3.length : Int) - (1 : Int))).toNat ((0 : Int), ((0 : Int), (0 : Int)))).2).1, (IntKind.wrap .i64 (v2 + (1 : Int)))))))) else none) else none) else (bif decide (v3.length + ([(r3, (v2, (IntKind.wrap .i64 (v2 + (1 : Int)))))] : List ((Int × (Int × Int)))).length < 5864062014805) then some (.inl (v0, v1, (IntKind.wrap .i64 (v2 + (1 : Int))), (v3 ++ ([(r3, (v2, (IntKind.wrap .i64 (v2 + (1 : Int)))))] : List ((Int × (Int × Int))))))) else none)) else none) else none) else (bif decide (v3.length + ([(r3, (v2, (IntKind.wrap .i64 (v2 + (1 : Int)))))] : List ((Int × (Int × Int)))).length < 5864062014805) then some (.inl (v0, v1, (IntKind.wrap .i64 (v2 + (1 : Int))), (v3 ++ ([(r3, (v2, (IntKind.wrap .i64 (v2 + (1 : Int)))))] : List ((Int × (Int × Int))))))) else none))) else none) else none) else none) else none) else some (.inr v3))
noncomputable def profile_Phases.p0.step (s : List (Int) × Int × Int × List ((Int × (Int × Int)))) : Option ((List (Int) × Int × Int × List ((Int × (Int × Int)))) ⊕ ((List ((Int × (Int × Int)))))) := profile_Phases.p0.round s.1 s.2.1 s.2.2.1 s.2.2.2
noncomputable def profile_Phases.p0.inS : Shape := ⟨[(0, .lf (.dat (.int .i64))), (3, .lf (.own 0)), (10, .lf (.sc (.int .i64))), (11, .lf (.sc (.int .i64)))], [.row 46 (.pair (.int .i64) (.pair (.int .i64) (.int .i64)))]⟩
noncomputable def profile_Phases.p0.w0 : Way := { ex := (.ex 0), S := ⟨[(3, .lf (.own 0))], [.row 46 (.pair (.int .i64) (.pair (.int .i64) (.int .i64)))]⟩, R := List ((Int × (Int × Int))), post := fun r => (((), ()), (r, ())), un := fun x => x.2.1 }
noncomputable def profile_Phases.p0.outs : List Way := [profile_Phases.p0.w0]
noncomputable def profile_Phases.p0.un (x : Tup profile_Phases.p0.inS) : List (Int) × Int × Int × List ((Int × (Int × Int))) := (x.1.1, x.1.2.2.1, x.1.2.2.2.1, x.2.1)
noncomputable def profile_Phases.p0.lp : LProc := { inS := profile_Phases.p0.inS, outs := profile_Phases.p0.outs, F := fun x => loopF profile_Phases.p0.step (profile_Phases.p0.un x) }
noncomputable def profile_Phases.F0 (a0 : List (Int)) : Option (List ((Int × (Int × Int)))) :=
  ((loopF profile_Phases.p0.step (a0, (bif decide ((0 : Int) > (IntKind.wrap .i64 ((a0.length : Int) - (1 : Int)))) then (0 : Int) else (IntKind.wrap .i64 ((a0.length : Int) - (1 : Int)))), (0 : Int), ([] : List ((Int × (Int × Int)))))).bind fun y4 => some y4)
noncomputable def profile_Phases.F : (List (Int)) → Option (List ((Int × (Int × Int)))) := lock profile_Phases.F0
theorem profile_Phases.F_eq : profile_Phases.F = profile_Phases.F0 := lock_eq _
noncomputable def profile_Phases.p : Proc := { nargs := 1, inS := ⟨[(0, .lf (.dat (.int .i64)))], []⟩, outS := ⟨[(0, .lf (.own 0))], [.row 46 (.pair (.int .i64) (.pair (.int .i64) (.int .i64)))]⟩, n0 := 0, R := List ((Int × (Int × Int))), F := fun x => profile_Phases.F x.1.1, post := fun r => (((), ()), (r, ())), un := fun x => x.2.1 }
noncomputable def profile_Phases.E : Env := { P := Try.prog, ty := tyTab [(46, (.pair (.int .i64) (.pair (.int .i64) (.int .i64))))], glob := glob0, proc := procTab [(52, profile_kind.p)], lproc := lprocTab [(0, profile_Phases.p0.lp)], n0 := 0, ntmps := 55 }
theorem profile_Phases.ok : ProcsOk profile_Phases.E := AllSound.ok (l := [(52, profile_kind.p)]) (by kernel_rfl) rfl ⟨profile_kind.sound, trivial⟩
noncomputable def profile_Phases.body0 : Code := (match Try.f24.body with | some c => c | none => .skip)
noncomputable def profile_Phases.p0.c : Code := ((codeAt profile_Phases.body0 [.r, .r, .l, .r, .b, .b]).getD .skip)
noncomputable def profile_Phases.p0.ann : Ann := .z
set_option maxRecDepth 100000 in
theorem profile_Phases.p0.eq (x : Tup profile_Phases.p0.inS) : peRound profile_Phases.E profile_Phases.p0.c profile_Phases.p0.ann _ profile_Phases.p0.inS profile_Phases.p0.un profile_Phases.p0.outs x = profile_Phases.p0.step (profile_Phases.p0.un x) := by
  kernel_rfl
set_option maxRecDepth 100000 in
theorem profile_Phases.p0.sound : LProcSound profile_Phases.E (.loop profile_Phases.p0.c) profile_Phases.p0.lp :=
  loop_sound (c := profile_Phases.p0.c) (ann := profile_Phases.p0.ann) profile_Phases.ok ((SubsOk_z _ _) : SubsOk profile_Phases.E profile_Phases.p0.c profile_Phases.p0.ann) (by intro a ha; simp only [profile_Phases.p0.outs, List.mem_cons, List.not_mem_nil, or_false] at ha; rcases ha with rfl <;> exact fun _ => rfl) profile_Phases.p0.eq
noncomputable def profile_Phases.ann : Ann := .s (.z) (.s (.z) (.s (.s (.z) (.b (.sub 0))) (.z)))
set_option maxRecDepth 100000 in
theorem profile_Phases.eq (x : Tup profile_Phases.p.inS) : peFn profile_Phases.E Try.f24 profile_Phases.ann profile_Phases.p x = profile_Phases.p.F x := by
  have h : peFn profile_Phases.E Try.f24 profile_Phases.ann profile_Phases.p x = profile_Phases.F0 x.1.1 := by kernel_rfl
  exact h.trans (by show _ = profile_Phases.F x.1.1; rw [profile_Phases.F_eq])
set_option maxRecDepth 100000 in
theorem profile_Phases.sound : ProcSound Try.prog glob0 24 profile_Phases.p :=
  fn_sound (E := profile_Phases.E) (c := profile_Phases.body0) (ann := profile_Phases.ann) profile_Phases.ok Try.func24 (of_decide_eq_true (by kernel_rfl)) rfl rfl rfl (by decide +kernel) (⟨(SubsOk_z _ _), ⟨(SubsOk_z _ _), ⟨⟨(SubsOk_z _ _), (sub_of rfl profile_Phases.p0.sound)⟩, (SubsOk_z _ _)⟩⟩⟩ : SubsOk profile_Phases.E profile_Phases.body0 profile_Phases.ann) (fun _ => rfl) rfl profile_Phases.eq

/-! ### slices.Contains[[]bool,bool]: function 46 -/
noncomputable def slices_Contains_bool.F0 (a0 : List (Bool)) (a1 : Bool) : Option (Bool) :=
  ((slices_Index_bool.F a0 a1).bind fun r1 => some (decide (r1 ≥ (0 : Int))))
noncomputable def slices_Contains_bool.F : (List (Bool)) → Bool → Option (Bool) := lock slices_Contains_bool.F0
theorem slices_Contains_bool.F_eq : slices_Contains_bool.F = slices_Contains_bool.F0 := lock_eq _
noncomputable def slices_Contains_bool.p : Proc := { nargs := 2, inS := ⟨[(0, .lf (.dat .bool)), (1, .lf (.sc .bool))], []⟩, outS := ⟨[(0, .lf (.sc .bool))], []⟩, n0 := 0, R := Bool, F := fun x => slices_Contains_bool.F x.1.1 x.1.2.1, post := fun r => ((r, ()), ()), un := fun x => x.1.1 }
noncomputable def slices_Contains_bool.E : Env := { P := Try.prog, ty := tyTab [], glob := glob0, proc := procTab [(68, slices_Index_bool.p)], lproc := lprocTab [], n0 := 0, ntmps := 9 }
theorem slices_Contains_bool.ok : ProcsOk slices_Contains_bool.E := AllSound.ok (l := [(68, slices_Index_bool.p)]) (by kernel_rfl) rfl ⟨slices_Index_bool.sound, trivial⟩
noncomputable def slices_Contains_bool.body0 : Code := (match Try.f46.body with | some c => c | none => .skip)
noncomputable def slices_Contains_bool.ann : Ann := .z
set_option maxRecDepth 100000 in
theorem slices_Contains_bool.eq (x : Tup slices_Contains_bool.p.inS) : peFn slices_Contains_bool.E Try.f46 slices_Contains_bool.ann slices_Contains_bool.p x = slices_Contains_bool.p.F x := by
  have h : peFn slices_Contains_bool.E Try.f46 slices_Contains_bool.ann slices_Contains_bool.p x = slices_Contains_bool.F0 x.1.1 x.1.2.1 := by kernel_rfl
  exact h.trans (by show _ = slices_Contains_bool.F x.1.1 x.1.2.1; rw [slices_Contains_bool.F_eq])
set_option maxRecDepth 100000 in
theorem slices_Contains_bool.sound : ProcSound Try.prog glob0 46 slices_Contains_bool.p :=
  fn_sound (E := slices_Contains_bool.E) (c := slices_Contains_bool.body0) (ann := slices_Contains_bool.ann) slices_Contains_bool.ok Try.func46 (of_decide_eq_true (by kernel_rfl)) rfl rfl rfl (by decide +kernel) ((SubsOk_z _ _) : SubsOk slices_Contains_bool.E slices_Contains_bool.body0 slices_Contains_bool.ann) (fun _ => rfl) rfl slices_Contains_bool.eq

/-! ### armplan/armplanref40.ValidRows: function 50 -/
noncomputable def armplanref40_ValidRows.p0.round (v0 : List (Int)) (v1 : List ((Int × (Int × (Int × Int))))) (v2 : Int) : Option ((List (Int) × List ((Int × (Int × (Int × Int)))) × Int) ⊕ ((Bool) ⊕ (List (Int) × List ((Int × (Int × (Int × Int))))))) :=
  (bif decide (v2 < (v0.length : Int)) then (bif decide (0 ≤ v2) then (bif decide (v2 < (v0.length : Int)) then (bif decide ((v0.getD v2.toNat (0 : Int)) < (0 : Int)) then some (.inr (.inl false)) else (bif decide (0 ≤ v2) then (bif decide (v2 < (v0.length : Int)) then (bif decide ((v0.getD v2.toNat (0 : Int)) > (4096 : Int)) then some (.inr (.inl false)) else some (.inl (v0, v1, (IntKind.wrap .i64 (v2 + (1 : Int)))))) else none) else none)) else none) else none) else some (.inr (.inr (v0, v1))))
noncomputable def armplanref40_ValidRows.p0.step (s : List (Int) × List ((Int × (Int × (Int × Int)))) × Int) : Option ((List (Int) × List ((Int × (Int × (Int × Int)))) × Int) ⊕ ((Bool) ⊕ (List (Int) × List ((Int × (Int × (Int × Int))))))) := armplanref40_ValidRows.p0.round s.1 s.2.1 s.2.2
noncomputable def armplanref40_ValidRows.p0.inS : Shape := ⟨[(0, .lf (.dat (.int .i64))), (1, .lf (.dat (.pair (.int .i64) (.pair (.int .i64) (.pair (.int .i64) (.int .i64)))))), (5, .lf (.sc (.int .i64)))], []⟩
noncomputable def armplanref40_ValidRows.p0.w0 : Way := { ex := .rt, S := ⟨[(4, .lf (.sc .bool))], []⟩, R := Bool, post := fun r => ((r, ()), ()), un := fun x => x.1.1 }
noncomputable def armplanref40_ValidRows.p0.w1 : Way := { ex := (.ex 0), S := ⟨[(0, .lf (.dat (.int .i64))), (1, .lf (.dat (.pair (.int .i64) (.pair (.int .i64) (.pair (.int .i64) (.int .i64))))))], []⟩, R := List (Int) × List ((Int × (Int × (Int × Int)))), post := fun r => ((r.1, (r.2, ())), ()), un := fun x => (x.1.1, x.1.2.1) }
noncomputable def armplanref40_ValidRows.p0.outs : List Way := [armplanref40_ValidRows.p0.w0, armplanref40_ValidRows.p0.w1]
noncomputable def armplanref40_ValidRows.p0.un (x : Tup armplanref40_ValidRows.p0.inS) : List (Int) × List ((Int × (Int × (Int × Int)))) × Int := (x.1.1, x.1.2.1, x.1.2.2.1)
noncomputable def armplanref40_ValidRows.p0.lp : LProc := { inS := armplanref40_ValidRows.p0.inS, outs := armplanref40_ValidRows.p0.outs, F := fun x => loopF armplanref40_ValidRows.p0.step (armplanref40_ValidRows.p0.un x) }
noncomputable def armplanref40_ValidRows.p1.round (v0 : List (Int)) (v1 : List ((Int × (Int × (Int × Int))))) (v2 : Int) : Option ((List (Int) × List ((Int × (Int × (Int × Int)))) × Int) ⊕ ((Bool) ⊕ (Unit))) :=
  (bif decide (v2 < (v1.length : Int)) then (bif decide (0 ≤ v2) then (bif decide (v2 < (v1.length : Int)) then ((armplanref40_formedRow.F (v1.getD v2.toNat ((0 : Int), ((0 : Int), ((0 : Int), (0 : Int))))).1 ((v1.getD v2.toNat ((0 : Int), ((0 : Int), ((0 : Int), (0 : Int))))).2).1 (((v1.getD v2.toNat ((0 : Int), ((0 : Int), ((0 : Int), (0 : Int))))).2).2).1 (((v1.getD v2.toNat ((0 : Int), ((0 : Int), ((0 : Int), (0 : Int))))).2).2).2).bind fun r5 => (bif (!r5) then some (.inr (.inl false)) else (bif decide (0 ≤ v2) then (bif decide (v2 < (v1.length : Int)) then (bif decide ((v1.getD v2.toNat ((0 : Int), ((0 : Int), ((0 : Int), (0 : Int))))).1 < (0 : Int)) then some (.inr (.inl false)) else (bif decide (0 ≤ v2) then (bif decide (v2 < (v1.length : Int)) then (bif decide ((v1.getD v2.toNat ((0 : Int), ((0 : Int), ((0 : Int), (0 : Int))))).1 > (IntKind.wrap .i64 ((v0.length : Int) - (2 : Int)))) then some (.inr (.inl false)) else (bif decide (0 ≤ v2) then (bif decide (v2 < (v1.length : Int)) then (bif decide (((v1.getD v2.toNat ((0 : Int), ((0 : Int), ((0 : Int), (0 : Int))))).2).1 > (0 : Int)) then (bif decide (0 ≤ v2) then (bif decide (v2 < (v1.length : Int)) then (bif decide ((((v1.getD v2.toNat ((0 : Int), ((0 : Int), ((0 : Int), (0 : Int))))).2).2).1 > (0 : Int)) then some (.inr (.inl false)) else some (.inl (v0, v1, (IntKind.wrap .i64 (v2 + (1 : Int)))))) else none) else none) else some (.inl (v0, v1, (IntKind.wrap .i64 (v2 + (1 : Int)))))) else none) else none)) else none) else none)) else none) else none))) else none) else none) else some (.inr (.inr ())))
noncomputable def armplanref40_ValidRows.p1.step (s : List (Int) × List ((Int × (Int × (Int × Int)))) × Int) : Option ((List (Int) × List ((Int × (Int × (Int × Int)))) × Int) ⊕ ((Bool) ⊕ (Unit))) := armplanref40_ValidRows.p1.round s.1 s.2.1 s.2.2
noncomputable def armplanref40_ValidRows.p1.inS : Shape := ⟨[(0, .lf (.dat (.int .i64))), (1, .lf (.dat (.pair (.int .i64) (.pair (.int .i64) (.pair (.int .i64) (.int .i64)))))), (6, .lf (.sc (.int .i64)))], []⟩
noncomputable def armplanref40_ValidRows.p1.w0 : Way := { ex := .rt, S := ⟨[(4, .lf (.sc .bool))], []⟩, R := Bool, post := fun r => ((r, ()), ()), un := fun x => x.1.1 }
noncomputable def armplanref40_ValidRows.p1.w1 : Way := { ex := (.ex 2), S := ⟨[], []⟩, R := Unit, post := fun r => ((), ()), un := fun x => () }
noncomputable def armplanref40_ValidRows.p1.outs : List Way := [armplanref40_ValidRows.p1.w0, armplanref40_ValidRows.p1.w1]
noncomputable def armplanref40_ValidRows.p1.un (x : Tup armplanref40_ValidRows.p1.inS) : List (Int) × List ((Int × (Int × (Int × Int)))) × Int := (x.1.1, x.1.2.1, x.1.2.2.1)
noncomputable def armplanref40_ValidRows.p1.lp : LProc := { inS := armplanref40_ValidRows.p1.inS, outs := armplanref40_ValidRows.p1.outs, F := fun x => loopF armplanref40_ValidRows.p1.step (armplanref40_ValidRows.p1.un x) }
noncomputable def armplanref40_ValidRows.F0 (a0 : List (Int)) (a1 : List ((Int × (Int × (Int × Int))))) : Option (Bool) :=
  (bif decide ((a0.length : Int) < (2 : Int)) then some false else (bif decide ((a0.length : Int) > (65 : Int)) then some false else (bif decide ((a1.length : Int) > (16384 : Int)) then some false else ((loopF armplanref40_ValidRows.p0.step (a0, a1, (0 : Int))).bind fun y1 => (Sum.elim (fun y2 => some y2) (fun z3 => ((loopF armplanref40_ValidRows.p1.step (z3.1, z3.2, (0 : Int))).bind fun y6 => (Sum.elim (fun y7 => some y7) (fun z8 => some true) y6))) y1)))))
noncomputable def armplanref40_ValidRows.F : (List (Int)) → (List ((Int × (Int × (Int × Int))))) → Option (Bool) := lock armplanref40_ValidRows.F0
theorem armplanref40_ValidRows.F_eq : armplanref40_ValidRows.F = armplanref40_ValidRows.F0 := lock_eq _
noncomputable def armplanref40_ValidRows.p : Proc := { nargs := 2, inS := ⟨[(0, .lf (.dat (.int .i64))), (1, .lf (.dat (.pair (.int .i64) (.pair (.int .i64) (.pair (.int .i64) (.int .i64))))))], []⟩, outS := ⟨[(0, .lf (.sc .bool))], []⟩, n0 := 0, R := Bool, F := fun x => armplanref40_ValidRows.F x.1.1 x.1.2.1, post := fun r => ((r, ()), ()), un := fun x => x.1.1 }
noncomputable def armplanref40_ValidRows.E : Env := { P := Try.prog, ty := tyTab [], glob := glob0, proc := procTab [(72, armplanref40_formedRow.p)], lproc := lprocTab [(0, armplanref40_ValidRows.p0.lp), (1, armplanref40_ValidRows.p1.lp)], n0 := 0, ntmps := 85 }
theorem armplanref40_ValidRows.ok : ProcsOk armplanref40_ValidRows.E := AllSound.ok (l := [(72, armplanref40_formedRow.p)]) (by kernel_rfl) rfl ⟨armplanref40_formedRow.sound, trivial⟩
noncomputable def armplanref40_ValidRows.body0 : Code := (match Try.f50.body with | some c => c | none => .skip)
noncomputable def armplanref40_ValidRows.p1.c : Code := ((codeAt armplanref40_ValidRows.body0 [.r, .r, .r, .l, .r, .b, .b]).getD .skip)
noncomputable def armplanref40_ValidRows.p1.ann : Ann := .z
set_option maxRecDepth 100000 in
theorem armplanref40_ValidRows.p1.eq (x : Tup armplanref40_ValidRows.p1.inS) : peRound armplanref40_ValidRows.E armplanref40_ValidRows.p1.c armplanref40_ValidRows.p1.ann _ armplanref40_ValidRows.p1.inS armplanref40_ValidRows.p1.un armplanref40_ValidRows.p1.outs x = armplanref40_ValidRows.p1.step (armplanref40_ValidRows.p1.un x) := by
  kernel_rfl
set_option maxRecDepth 100000 in
theorem armplanref40_ValidRows.p1.sound : LProcSound armplanref40_ValidRows.E (.loop armplanref40_ValidRows.p1.c) armplanref40_ValidRows.p1.lp :=
  loop_sound (c := armplanref40_ValidRows.p1.c) (ann := armplanref40_ValidRows.p1.ann) armplanref40_ValidRows.ok ((SubsOk_z _ _) : SubsOk armplanref40_ValidRows.E armplanref40_ValidRows.p1.c armplanref40_ValidRows.p1.ann) (by intro a ha; simp only [armplanref40_ValidRows.p1.outs, List.mem_cons, List.not_mem_nil, or_false] at ha; rcases ha with rfl | rfl <;> exact fun _ => rfl) armplanref40_ValidRows.p1.eq
noncomputable def armplanref40_ValidRows.p0.c : Code := ((codeAt armplanref40_ValidRows.body0 [.r, .r, .l, .r, .b, .b]).getD .skip)
noncomputable def armplanref40_ValidRows.p0.ann : Ann := .z
set_option maxRecDepth 100000 in
theorem armplanref40_ValidRows.p0.eq (x : Tup armplanref40_ValidRows.p0.inS) : peRound armplanref40_ValidRows.E armplanref40_ValidRows.p0.c armplanref40_ValidRows.p0.ann _ armplanref40_ValidRows.p0.inS armplanref40_ValidRows.p0.un armplanref40_ValidRows.p0.outs x = armplanref40_ValidRows.p0.step (armplanref40_ValidRows.p0.un x) := by
  kernel_rfl
set_option maxRecDepth 100000 in
theorem armplanref40_ValidRows.p0.sound : LProcSound armplanref40_ValidRows.E (.loop armplanref40_ValidRows.p0.c) armplanref40_ValidRows.p0.lp :=
  loop_sound (c := armplanref40_ValidRows.p0.c) (ann := armplanref40_ValidRows.p0.ann) armplanref40_ValidRows.ok ((SubsOk_z _ _) : SubsOk armplanref40_ValidRows.E armplanref40_ValidRows.p0.c armplanref40_ValidRows.p0.ann) (by intro a ha; simp only [armplanref40_ValidRows.p0.outs, List.mem_cons, List.not_mem_nil, or_false] at ha; rcases ha with rfl | rfl <;> exact fun _ => rfl) armplanref40_ValidRows.p0.eq
noncomputable def armplanref40_ValidRows.ann : Ann := .s (.z) (.s (.z) (.s (.s (.z) (.b (.sub 0))) (.s (.s (.z) (.b (.sub 1))) (.z))))
set_option maxRecDepth 100000 in
theorem armplanref40_ValidRows.eq (x : Tup armplanref40_ValidRows.p.inS) : peFn armplanref40_ValidRows.E Try.f50 armplanref40_ValidRows.ann armplanref40_ValidRows.p x = armplanref40_ValidRows.p.F x := by
  have h : peFn armplanref40_ValidRows.E Try.f50 armplanref40_ValidRows.ann armplanref40_ValidRows.p x = armplanref40_ValidRows.F0 x.1.1 x.1.2.1 := by kernel_rfl
  exact h.trans (by show _ = armplanref40_ValidRows.F x.1.1 x.1.2.1; rw [armplanref40_ValidRows.F_eq])
set_option maxRecDepth 100000 in
theorem armplanref40_ValidRows.sound : ProcSound Try.prog glob0 50 armplanref40_ValidRows.p :=
  fn_sound (E := armplanref40_ValidRows.E) (c := armplanref40_ValidRows.body0) (ann := armplanref40_ValidRows.ann) armplanref40_ValidRows.ok Try.func50 (of_decide_eq_true (by kernel_rfl)) rfl rfl rfl (by decide +kernel) (⟨(SubsOk_z _ _), ⟨(SubsOk_z _ _), ⟨⟨(SubsOk_z _ _), (sub_of rfl armplanref40_ValidRows.p0.sound)⟩, ⟨⟨(SubsOk_z _ _), (sub_of rfl armplanref40_ValidRows.p1.sound)⟩, (SubsOk_z _ _)⟩⟩⟩⟩ : SubsOk armplanref40_ValidRows.E armplanref40_ValidRows.body0 armplanref40_ValidRows.ann) (fun _ => rfl) rfl armplanref40_ValidRows.eq

/-! ### armplan/armplanref40.Bound: function 53 -/
noncomputable def armplanref40_Bound.p0.round (v0 : List (Int)) (v1 : Int) (v2 : Int) (v3 : Int) (v4 : Int) (v5 : Int) : Option ((List (Int) × Int × Int × Int × Int × Int) ⊕ ((Int × Int × Bool) ⊕ (List (Int) × Int × Int × Int × Int))) :=
  (bif decide (v1 < (v0.length : Int)) then (bif decide (0 ≤ v1) then (bif decide (v1 < (v0.length : Int)) then (bif decide ((v0.getD v1.toNat (0 : Int)) < (-1073741824 : Int)) then some (.inr (.inl ((0 : Int), (0 : Int), false))) else (bif decide (0 ≤ v1) then (bif decide (v1 < (v0.length : Int)) then (bif decide ((v0.getD v1.toNat (0 : Int)) > (1073741824 : Int)) then some (.inr (.inl ((0 : Int), (0 : Int), false))) else some (.inl (v0, (IntKind.wrap .i64 (v1 + (1 : Int))), v2, v3, v4, v5))) else none) else none)) else none) else none) else some (.inr (.inr (v0, v2, v3, v4, v5))))
noncomputable def armplanref40_Bound.p0.step (s : List (Int) × Int × Int × Int × Int × Int) : Option ((List (Int) × Int × Int × Int × Int × Int) ⊕ ((Int × Int × Bool) ⊕ (List (Int) × Int × Int × Int × Int))) := armplanref40_Bound.p0.round s.1 s.2.1 s.2.2.1 s.2.2.2.1 s.2.2.2.2.1 s.2.2.2.2.2
noncomputable def armplanref40_Bound.p0.inS : Shape := ⟨[(1, .lf (.dat (.int .i64))), (2, .lf (.bp 0 0)), (7, .lf (.sc (.int .i64)))], [.box [.sc (.int .i64), .sc (.int .i64), .sc (.int .i64), .sc (.int .i64)]]⟩
noncomputable def armplanref40_Bound.p0.w0 : Way := { ex := .rt, S := ⟨[(4, .lf (.sc (.int .i64))), (5, .lf (.sc (.int .i64))), (6, .lf (.sc .bool))], []⟩, R := Int × Int × Bool, post := fun r => ((r.1, (r.2.1, (r.2.2, ()))), ()), un := fun x => (x.1.1, x.1.2.1, x.1.2.2.1) }
noncomputable def armplanref40_Bound.p0.w1 : Way := { ex := (.ex 0), S := ⟨[(1, .lf (.dat (.int .i64))), (2, .lf (.bp 0 0))], [.box [.sc (.int .i64), .sc (.int .i64), .sc (.int .i64), .sc (.int .i64)]]⟩, R := List (Int) × Int × Int × Int × Int, post := fun r => ((r.1, ((), ())), ((r.2.1, (r.2.2.1, (r.2.2.2.1, (r.2.2.2.2, ())))), ())), un := fun x => (x.1.1, x.2.1.1, x.2.1.2.1, x.2.1.2.2.1, x.2.1.2.2.2.1) }
noncomputable def armplanref40_Bound.p0.outs : List Way := [armplanref40_Bound.p0.w0, armplanref40_Bound.p0.w1]
noncomputable def armplanref40_Bound.p0.un (x : Tup armplanref40_Bound.p0.inS) : List (Int) × Int × Int × Int × Int × Int := (x.1.1, x.1.2.2.1, x.2.1.1, x.2.1.2.1, x.2.1.2.2.1, x.2.1.2.2.2.1)
noncomputable def armplanref40_Bound.p0.lp : LProc := { inS := armplanref40_Bound.p0.inS, outs := armplanref40_Bound.p0.outs, F := fun x => loopF armplanref40_Bound.p0.step (armplanref40_Bound.p0.un x) }
noncomputable def armplanref40_Bound.F0 (a0 : Int) (a1 : Int) (a2 : Int) (a3 : Int) (a4 : List (Int)) : Option (Int × Int × Bool) :=
  ((armplanref40_formedRow.F a0 a1 a2 a3).bind fun r1 => (bif (!r1) then some ((0 : Int), (0 : Int), false) else (bif (decide (a1 > (0 : Int)) == decide (a2 > (0 : Int))) then some ((0 : Int), (0 : Int), false) else (bif decide (a0 < (0 : Int)) then some ((0 : Int), (0 : Int), false) else (bif decide (a0 > (IntKind.wrap .i64 ((a4.length : Int) - (2 : Int)))) then some ((0 : Int), (0 : Int), false) else ((loopF armplanref40_Bound.p0.step (a4, (0 : Int), a0, a1, a2, a3)).bind fun y2 => (Sum.elim (fun y3 => some (y3.1, y3.2.1, y3.2.2)) (fun z4 => (bif decide (z4.2.2.1 > (0 : Int)) then (bif decide (0 ≤ (IntKind.wrap .i64 (z4.2.1 + (1 : Int)))) then (bif decide ((IntKind.wrap .i64 (z4.2.1 + (1 : Int))) < (z4.1.length : Int)) then ((armplanref1_Floor.F (IntKind.wrap .i64 (z4.2.2.2.2 - (IntKind.wrap .i64 (z4.2.2.2.1 * (z4.1.getD (IntKind.wrap .i64 (z4.2.1 + (1 : Int))).toNat (0 : Int)))))) z4.2.2.1).bind fun r5 => some (z4.2.1, r5, true)) else none) else none) else (bif decide (0 ≤ z4.2.1) then (bif decide (z4.2.1 < (z4.1.length : Int)) then ((armplanref1_Floor.F (IntKind.wrap .i64 (z4.2.2.2.2 - (IntKind.wrap .i64 (z4.2.2.1 * (z4.1.getD z4.2.1.toNat (0 : Int)))))) z4.2.2.2.1).bind fun r6 => some ((IntKind.wrap .i64 (z4.2.1 + (1 : Int))), r6, true)) else none) else none))) y2)))))))
noncomputable def armplanref40_Bound.F : Int → Int → Int → Int → (List (Int)) → Option (Int × Int × Bool) := lock armplanref40_Bound.F0
theorem armplanref40_Bound.F_eq : armplanref40_Bound.F = armplanref40_Bound.F0 := lock_eq _
noncomputable def armplanref40_Bound.p : Proc := { nargs := 2, inS := ⟨[(0, .ag [.sc (.int .i64), .sc (.int .i64), .sc (.int .i64), .sc (.int .i64)]), (1, .lf (.dat (.int .i64)))], []⟩, outS := ⟨[(0, .lf (.sc (.int .i64))), (1, .lf (.sc (.int .i64))), (2, .lf (.sc .bool))], []⟩, n0 := 0, R := Int × Int × Bool, F := fun x => armplanref40_Bound.F x.1.1.1 x.1.1.2.1 x.1.1.2.2.1 x.1.1.2.2.2.1 x.1.2.1, post := fun r => ((r.1, (r.2.1, (r.2.2, ()))), ()), un := fun x => (x.1.1, x.1.2.1, x.1.2.2.1) }
noncomputable def armplanref40_Bound.E : Env := { P := Try.prog, ty := tyTab [], glob := glob0, proc := procTab [(72, armplanref40_formedRow.p), (73, armplanref1_Floor.p)], lproc := lprocTab [(0, armplanref40_Bound.p0.lp)], n0 := 0, ntmps := 88 }
theorem armplanref40_Bound.ok : ProcsOk armplanref40_Bound.E := AllSound.ok (l := [(72, armplanref40_formedRow.p), (73, armplanref1_Floor.p)]) (by kernel_rfl) rfl ⟨armplanref40_formedRow.sound, armplanref1_Floor.sound, trivial⟩
noncomputable def armplanref40_Bound.body0 : Code := (match Try.f53.body with | some c => c | none => .skip)
noncomputable def armplanref40_Bound.p0.c : Code := ((codeAt armplanref40_Bound.body0 [.r, .r, .l, .r, .b, .b]).getD .skip)
noncomputable def armplanref40_Bound.p0.ann : Ann := .z
set_option maxRecDepth 100000 in
theorem armplanref40_Bound.p0.eq (x : Tup armplanref40_Bound.p0.inS) : peRound armplanref40_Bound.E armplanref40_Bound.p0.c armplanref40_Bound.p0.ann _ armplanref40_Bound.p0.inS armplanref40_Bound.p0.un armplanref40_Bound.p0.outs x = armplanref40_Bound.p0.step (armplanref40_Bound.p0.un x) := by
  kernel_rfl
set_option maxRecDepth 100000 in
theorem armplanref40_Bound.p0.sound : LProcSound armplanref40_Bound.E (.loop armplanref40_Bound.p0.c) armplanref40_Bound.p0.lp :=
  loop_sound (c := armplanref40_Bound.p0.c) (ann := armplanref40_Bound.p0.ann) armplanref40_Bound.ok ((SubsOk_z _ _) : SubsOk armplanref40_Bound.E armplanref40_Bound.p0.c armplanref40_Bound.p0.ann) (by intro a ha; simp only [armplanref40_Bound.p0.outs, List.mem_cons, List.not_mem_nil, or_false] at ha; rcases ha with rfl | rfl <;> exact fun _ => rfl) armplanref40_Bound.p0.eq
noncomputable def armplanref40_Bound.ann : Ann := .s (.z) (.s (.z) (.s (.s (.z) (.b (.sub 0))) (.z)))
set_option maxRecDepth 100000 in
theorem armplanref40_Bound.eq (x : Tup armplanref40_Bound.p.inS) : peFn armplanref40_Bound.E Try.f53 armplanref40_Bound.ann armplanref40_Bound.p x = armplanref40_Bound.p.F x := by
  have h : peFn armplanref40_Bound.E Try.f53 armplanref40_Bound.ann armplanref40_Bound.p x = armplanref40_Bound.F0 x.1.1.1 x.1.1.2.1 x.1.1.2.2.1 x.1.1.2.2.2.1 x.1.2.1 := by kernel_rfl
  exact h.trans (by show _ = armplanref40_Bound.F x.1.1.1 x.1.1.2.1 x.1.1.2.2.1 x.1.1.2.2.2.1 x.1.2.1; rw [armplanref40_Bound.F_eq])
set_option maxRecDepth 100000 in
theorem armplanref40_Bound.sound : ProcSound Try.prog glob0 53 armplanref40_Bound.p :=
  fn_sound (E := armplanref40_Bound.E) (c := armplanref40_Bound.body0) (ann := armplanref40_Bound.ann) armplanref40_Bound.ok Try.func53 (of_decide_eq_true (by kernel_rfl)) rfl rfl rfl (by decide +kernel) (⟨(SubsOk_z _ _), ⟨(SubsOk_z _ _), ⟨⟨(SubsOk_z _ _), (sub_of rfl armplanref40_Bound.p0.sound)⟩, (SubsOk_z _ _)⟩⟩⟩ : SubsOk armplanref40_Bound.E armplanref40_Bound.body0 armplanref40_Bound.ann) (fun _ => rfl) rfl armplanref40_Bound.eq

/-! ### armplan/armplanref40.Replay: function 54 -/
noncomputable def armplanref40_Replay.p0.round (v0 : List ((Int × (Int × (Int × Int))))) (v1 : List (Int)) (v2 : Int) (v3 : List (Int)) : Option ((List ((Int × (Int × (Int × Int)))) × List (Int) × Int × List (Int)) ⊕ ((Bool) ⊕ (List (Int)))) :=
  (bif decide (v2 < (v1.length : Int)) then (bif decide (0 ≤ v2) then (bif decide (v2 < (v1.length : Int)) then (bif decide ((v1.getD v2.toNat (0 : Int)) < (0 : Int)) then some (.inr (.inl false)) else (bif decide (0 ≤ v2) then (bif decide (v2 < (v1.length : Int)) then (bif decide ((v1.getD v2.toNat (0 : Int)) ≥ (v0.length : Int)) then some (.inr (.inl false)) else (bif decide (0 ≤ v2) then (bif decide (v2 < (v1.length : Int)) then (bif decide (0 ≤ (v1.getD v2.toNat (0 : Int))) then (bif decide ((v1.getD v2.toNat (0 : Int)) < (v0.length : Int)) then ((armplanref40_Bound.F (v0.getD (v1.getD v2.toNat (0 : Int)).toNat ((0 : Int), ((0 : Int), ((0 : Int), (0 : Int))))).1 ((v0.getD (v1.getD v2.toNat (0 : Int)).toNat ((0 : Int), ((0 : Int), ((0 : Int), (0 : Int))))).2).1 (((v0.getD (v1.getD v2.toNat (0 : Int)).toNat ((0 : Int), ((0 : Int), ((0 : Int), (0 : Int))))).2).2).1 (((v0.getD (v1.getD v2.toNat (0 : Int)).toNat ((0 : Int), ((0 : Int), ((0 : Int), (0 : Int))))).2).2).2 v3).bind fun r3 => (bif (!r3.2.2) then some (.inr (.inl false)) else (bif decide (0 ≤ r3.1) then (bif decide (r3.1 < (v3.length : Int)) then (bif decide (r3.2.1 < (v3.getD r3.1.toNat (0 : Int))) then (bif decide (0 ≤ r3.1) then (bif decide (r3.1 < (v3.length : Int)) then some (.inl (v0, v1, (IntKind.wrap .i64 (v2 + (1 : Int))), (v3.set r3.1.toNat (bif decide ((-1 : Int) > r3.2.1) then (-1 : Int) else r3.2.1)))) else none) else none) else some (.inl (v0, v1, (IntKind.wrap .i64 (v2 + (1 : Int))), v3))) else none) else none))) else none) else none) else none) else none)) else none) else none)) else none) else none) else some (.inr (.inr v3)))
noncomputable def armplanref40_Replay.p0.step (s : List ((Int × (Int × (Int × Int)))) × List (Int) × Int × List (Int)) : Option ((List ((Int × (Int × (Int × Int)))) × List (Int) × Int × List (Int)) ⊕ ((Bool) ⊕ (List (Int)))) := armplanref40_Replay.p0.round s.1 s.2.1 s.2.2.1 s.2.2.2
noncomputable def armplanref40_Replay.p0.inS : Shape := ⟨[(1, .lf (.dat (.pair (.int .i64) (.pair (.int .i64) (.pair (.int .i64) (.int .i64)))))), (2, .lf (.dat (.int .i64))), (8, .lf (.own 0)), (9, .lf (.sc (.int .i64)))], [.row 2 (.int .i64)]⟩
noncomputable def armplanref40_Replay.p0.w0 : Way := { ex := .rt, S := ⟨[(6, .lf (.cst (.slice none 0 0))), (7, .lf (.sc .bool))], []⟩, R := Bool, post := fun r => (((), (r, ())), ()), un := fun x => x.1.2.1 }
noncomputable def armplanref40_Replay.p0.w1 : Way := { ex := (.ex 0), S := ⟨[(8, .lf (.own 0))], [.row 2 (.int .i64)]⟩, R := List (Int), post := fun r => (((), ()), (r, ())), un := fun x => x.2.1 }
noncomputable def armplanref40_Replay.p0.outs : List Way := [armplanref40_Replay.p0.w0, armplanref40_Replay.p0.w1]
noncomputable def armplanref40_Replay.p0.un (x : Tup armplanref40_Replay.p0.inS) : List ((Int × (Int × (Int × Int)))) × List (Int) × Int × List (Int) := (x.1.1, x.1.2.1, x.1.2.2.2.1, x.2.1)
noncomputable def armplanref40_Replay.p0.lp : LProc := { inS := armplanref40_Replay.p0.inS, outs := armplanref40_Replay.p0.outs, F := fun x => loopF armplanref40_Replay.p0.step (armplanref40_Replay.p0.un x) }
noncomputable def armplanref40_Replay.F0 (a0 : List (Int)) (a1 : List ((Int × (Int × (Int × Int))))) (a2 : List (Int)) : Option (Bool × List (Int)) :=
  ((armplanref40_ValidRows.F a0 a1).bind fun r1 => (bif (!r1) then some (false, ([] : List (Int))) else (bif decide ((a2.length : Int) > (16384 : Int)) then some (false, ([] : List (Int))) else (bif decide (a0.length < 17592186044416) then ((loopF armplanref40_Replay.p0.step (a1, a2, (0 : Int), a0)).bind fun y4 => (Sum.elim (fun y5 => some (y5, ([] : List (Int)))) (fun z6 => some (true, z6)) y4)) else none))))
noncomputable def armplanref40_Replay.F : (List (Int)) → (List ((Int × (Int × (Int × Int))))) → (List (Int)) → Option (Bool × List (Int)) := lock armplanref40_Replay.F0
theorem armplanref40_Replay.F_eq : armplanref40_Replay.F = armplanref40_Replay.F0 := lock_eq _
noncomputable def armplanref40_Replay.p : Proc := { nargs := 3, inS := ⟨[(0, .lf (.dat (.int .i64))), (1, .lf (.dat (.pair (.int .i64) (.pair (.int .i64) (.pair (.int .i64) (.int .i64)))))), (2, .lf (.dat (.int .i64)))], []⟩, outS := ⟨[(0, .lf (.own 0)), (1, .lf (.sc .bool))], [.row 2 (.int .i64)]⟩, n0 := 0, R := Bool × List (Int), F := fun x => armplanref40_Replay.F x.1.1 x.1.2.1 x.1.2.2.1, post := fun r => (((), (r.1, ())), (r.2, ())), un := fun x => (x.1.2.1, x.2.1) }
noncomputable def armplanref40_Replay.E : Env := { P := Try.prog, ty := tyTab [], glob := glob0, proc := procTab [(50, armplanref40_ValidRows.p), (53, armplanref40_Bound.p)], lproc := lprocTab [(0, armplanref40_Replay.p0.lp)], n0 := 0, ntmps := 71 }
theorem armplanref40_Replay.ok : ProcsOk armplanref40_Replay.E := AllSound.ok (l := [(50, armplanref40_ValidRows.p), (53, armplanref40_Bound.p)]) (by kernel_rfl) rfl ⟨armplanref40_ValidRows.sound, armplanref40_Bound.sound, trivial⟩
noncomputable def armplanref40_Replay.body0 : Code := (match Try.f54.body with | some c => c | none => .skip)
noncomputable def armplanref40_Replay.p0.c : Code := ((codeAt armplanref40_Replay.body0 [.r, .r, .r, .l, .r, .b, .b]).getD .skip)
noncomputable def armplanref40_Replay.p0.ann : Ann := .z
set_option maxRecDepth 100000 in
theorem armplanref40_Replay.p0.eq (x : Tup armplanref40_Replay.p0.inS) : peRound armplanref40_Replay.E armplanref40_Replay.p0.c armplanref40_Replay.p0.ann _ armplanref40_Replay.p0.inS armplanref40_Replay.p0.un armplanref40_Replay.p0.outs x = armplanref40_Replay.p0.step (armplanref40_Replay.p0.un x) := by
  kernel_rfl
set_option maxRecDepth 100000 in
theorem armplanref40_Replay.p0.sound : LProcSound armplanref40_Replay.E (.loop armplanref40_Replay.p0.c) armplanref40_Replay.p0.lp :=
  loop_sound (c := armplanref40_Replay.p0.c) (ann := armplanref40_Replay.p0.ann) armplanref40_Replay.ok ((SubsOk_z _ _) : SubsOk armplanref40_Replay.E armplanref40_Replay.p0.c armplanref40_Replay.p0.ann) (by intro a ha; simp only [armplanref40_Replay.p0.outs, List.mem_cons, List.not_mem_nil, or_false] at ha; rcases ha with rfl | rfl <;> exact fun _ => rfl) armplanref40_Replay.p0.eq
noncomputable def armplanref40_Replay.ann : Ann := .s (.z) (.s (.z) (.s (.z) (.s (.s (.z) (.b (.sub 0))) (.z))))
set_option maxRecDepth 100000 in
theorem armplanref40_Replay.eq (x : Tup armplanref40_Replay.p.inS) : peFn armplanref40_Replay.E Try.f54 armplanref40_Replay.ann armplanref40_Replay.p x = armplanref40_Replay.p.F x := by
  have h : peFn armplanref40_Replay.E Try.f54 armplanref40_Replay.ann armplanref40_Replay.p x = armplanref40_Replay.F0 x.1.1 x.1.2.1 x.1.2.2.1 := by kernel_rfl
  exact h.trans (by show _ = armplanref40_Replay.F x.1.1 x.1.2.1 x.1.2.2.1; rw [armplanref40_Replay.F_eq])
set_option maxRecDepth 100000 in
theorem armplanref40_Replay.sound : ProcSound Try.prog glob0 54 armplanref40_Replay.p :=
  fn_sound (E := armplanref40_Replay.E) (c := armplanref40_Replay.body0) (ann := armplanref40_Replay.ann) armplanref40_Replay.ok Try.func54 (of_decide_eq_true (by kernel_rfl)) rfl rfl rfl (by decide +kernel) (⟨(SubsOk_z _ _), ⟨(SubsOk_z _ _), ⟨(SubsOk_z _ _), ⟨⟨(SubsOk_z _ _), (sub_of rfl armplanref40_Replay.p0.sound)⟩, (SubsOk_z _ _)⟩⟩⟩⟩ : SubsOk armplanref40_Replay.E armplanref40_Replay.body0 armplanref40_Replay.ann) (fun _ => rfl) rfl armplanref40_Replay.eq

/-! ### armplan/armplanref40.Refutes: function 56 -/
noncomputable def armplanref40_Refutes.p0.round (v0 : List ((Int × (Int × (Int × Int))))) (v1 : Int) (v2 : List (Int)) : Option ((List ((Int × (Int × (Int × Int)))) × Int × List (Int)) ⊕ ((Bool) ⊕ (List ((Int × (Int × (Int × Int)))) × List (Int)))) :=
  (bif decide (v1 < (v2.length : Int)) then (bif decide (0 ≤ v1) then (bif decide (v1 < (v2.length : Int)) then (bif decide ((v2.getD v1.toNat (0 : Int)) < (0 : Int)) then some (.inr (.inl true)) else some (.inl (v0, (IntKind.wrap .i64 (v1 + (1 : Int))), v2))) else none) else none) else some (.inr (.inr (v0, v2))))
noncomputable def armplanref40_Refutes.p0.step (s : List ((Int × (Int × (Int × Int)))) × Int × List (Int)) : Option ((List ((Int × (Int × (Int × Int)))) × Int × List (Int)) ⊕ ((Bool) ⊕ (List ((Int × (Int × (Int × Int)))) × List (Int)))) := armplanref40_Refutes.p0.round s.1 s.2.1 s.2.2
noncomputable def armplanref40_Refutes.p0.inS : Shape := ⟨[(1, .lf (.dat (.pair (.int .i64) (.pair (.int .i64) (.pair (.int .i64) (.int .i64)))))), (7, .lf (.own 0)), (9, .lf (.sc (.int .i64)))], [.row 2 (.int .i64)]⟩
noncomputable def armplanref40_Refutes.p0.w0 : Way := { ex := .rt, S := ⟨[(6, .lf (.sc .bool))], []⟩, R := Bool, post := fun r => ((r, ()), ()), un := fun x => x.1.1 }
noncomputable def armplanref40_Refutes.p0.w1 : Way := { ex := (.ex 0), S := ⟨[(1, .lf (.dat (.pair (.int .i64) (.pair (.int .i64) (.pair (.int .i64) (.int .i64)))))), (7, .lf (.own 0))], [.row 2 (.int .i64)]⟩, R := List ((Int × (Int × (Int × Int)))) × List (Int), post := fun r => ((r.1, ((), ())), (r.2, ())), un := fun x => (x.1.1, x.2.1) }
noncomputable def armplanref40_Refutes.p0.outs : List Way := [armplanref40_Refutes.p0.w0, armplanref40_Refutes.p0.w1]
noncomputable def armplanref40_Refutes.p0.un (x : Tup armplanref40_Refutes.p0.inS) : List ((Int × (Int × (Int × Int)))) × Int × List (Int) := (x.1.1, x.1.2.2.1, x.2.1)
noncomputable def armplanref40_Refutes.p0.lp : LProc := { inS := armplanref40_Refutes.p0.inS, outs := armplanref40_Refutes.p0.outs, F := fun x => loopF armplanref40_Refutes.p0.step (armplanref40_Refutes.p0.un x) }
noncomputable def armplanref40_Refutes.p1.round (v0 : List ((Int × (Int × (Int × Int))))) (v1 : Int) (v2 : List (Int)) : Option ((List ((Int × (Int × (Int × Int)))) × Int × List (Int)) ⊕ ((Bool) ⊕ (Unit))) :=
  (bif decide (v1 < (v0.length : Int)) then (bif decide (0 ≤ v1) then (bif decide (v1 < (v0.length : Int)) then (bif decide (((v0.getD v1.toNat ((0 : Int), ((0 : Int), ((0 : Int), (0 : Int))))).2).1 ≤ (0 : Int)) then (bif decide (0 ≤ v1) then (bif decide (v1 < (v0.length : Int)) then (bif decide ((((v0.getD v1.toNat ((0 : Int), ((0 : Int), ((0 : Int), (0 : Int))))).2).2).1 ≤ (0 : Int)) then (bif decide (0 ≤ v1) then (bif decide (v1 < (v0.length : Int)) then ((armplanref40_holds.F (v0.getD v1.toNat ((0 : Int), ((0 : Int), ((0 : Int), (0 : Int))))).1 ((v0.getD v1.toNat ((0 : Int), ((0 : Int), ((0 : Int), (0 : Int))))).2).1 (((v0.getD v1.toNat ((0 : Int), ((0 : Int), ((0 : Int), (0 : Int))))).2).2).1 (((v0.getD v1.toNat ((0 : Int), ((0 : Int), ((0 : Int), (0 : Int))))).2).2).2 v2).bind fun r6 => (bif (!r6) then some (.inr (.inl true)) else some (.inl (v0, (IntKind.wrap .i64 (v1 + (1 : Int))), v2)))) else none) else none) else some (.inl (v0, (IntKind.wrap .i64 (v1 + (1 : Int))), v2))) else none) else none) else some (.inl (v0, (IntKind.wrap .i64 (v1 + (1 : Int))), v2))) else none) else none) else some (.inr (.inr ())))
noncomputable def armplanref40_Refutes.p1.step (s : List ((Int × (Int × (Int × Int)))) × Int × List (Int)) : Option ((List ((Int × (Int × (Int × Int)))) × Int × List (Int)) ⊕ ((Bool) ⊕ (Unit))) := armplanref40_Refutes.p1.round s.1 s.2.1 s.2.2
noncomputable def armplanref40_Refutes.p1.inS : Shape := ⟨[(1, .lf (.dat (.pair (.int .i64) (.pair (.int .i64) (.pair (.int .i64) (.int .i64)))))), (7, .lf (.own 0)), (10, .lf (.sc (.int .i64)))], [.row 2 (.int .i64)]⟩
noncomputable def armplanref40_Refutes.p1.w0 : Way := { ex := .rt, S := ⟨[(6, .lf (.sc .bool))], []⟩, R := Bool, post := fun r => ((r, ()), ()), un := fun x => x.1.1 }
noncomputable def armplanref40_Refutes.p1.w1 : Way := { ex := (.ex 2), S := ⟨[], []⟩, R := Unit, post := fun r => ((), ()), un := fun x => () }
noncomputable def armplanref40_Refutes.p1.outs : List Way := [armplanref40_Refutes.p1.w0, armplanref40_Refutes.p1.w1]
noncomputable def armplanref40_Refutes.p1.un (x : Tup armplanref40_Refutes.p1.inS) : List ((Int × (Int × (Int × Int)))) × Int × List (Int) := (x.1.1, x.1.2.2.1, x.2.1)
noncomputable def armplanref40_Refutes.p1.lp : LProc := { inS := armplanref40_Refutes.p1.inS, outs := armplanref40_Refutes.p1.outs, F := fun x => loopF armplanref40_Refutes.p1.step (armplanref40_Refutes.p1.un x) }
noncomputable def armplanref40_Refutes.F0 (a0 : List (Int)) (a1 : List ((Int × (Int × (Int × Int))))) (a2 : List (Int)) : Option (Bool) :=
  ((armplanref40_Replay.F a0 a1 a2).bind fun r1 => (bif (!r1.1) then some false else ((loopF armplanref40_Refutes.p0.step (a1, (0 : Int), r1.2)).bind fun y2 => (Sum.elim (fun y3 => some y3) (fun z4 => ((loopF armplanref40_Refutes.p1.step (z4.1, (0 : Int), z4.2)).bind fun y7 => (Sum.elim (fun y8 => some y8) (fun z9 => some false) y7))) y2))))
noncomputable def armplanref40_Refutes.F : (List (Int)) → (List ((Int × (Int × (Int × Int))))) → (List (Int)) → Option (Bool) := lock armplanref40_Refutes.F0
theorem armplanref40_Refutes.F_eq : armplanref40_Refutes.F = armplanref40_Refutes.F0 := lock_eq _
noncomputable def armplanref40_Refutes.p : Proc := { nargs := 3, inS := ⟨[(0, .lf (.dat (.int .i64))), (1, .lf (.dat (.pair (.int .i64) (.pair (.int .i64) (.pair (.int .i64) (.int .i64)))))), (2, .lf (.dat (.int .i64)))], []⟩, outS := ⟨[(0, .lf (.sc .bool))], []⟩, n0 := 0, R := Bool, F := fun x => armplanref40_Refutes.F x.1.1 x.1.2.1 x.1.2.2.1, post := fun r => ((r, ()), ()), un := fun x => x.1.1 }
noncomputable def armplanref40_Refutes.E : Env := { P := Try.prog, ty := tyTab [], glob := glob0, proc := procTab [(54, armplanref40_Replay.p), (51, armplanref40_holds.p)], lproc := lprocTab [(0, armplanref40_Refutes.p0.lp), (1, armplanref40_Refutes.p1.lp)], n0 := 0, ntmps := 60 }
theorem armplanref40_Refutes.ok : ProcsOk armplanref40_Refutes.E := AllSound.ok (l := [(54, armplanref40_Replay.p), (51, armplanref40_holds.p)]) (by kernel_rfl) rfl ⟨armplanref40_Replay.sound, armplanref40_holds.sound, trivial⟩
noncomputable def armplanref40_Refutes.body0 : Code := (match Try.f56.body with | some c => c | none => .skip)
noncomputable def armplanref40_Refutes.p1.c : Code := ((codeAt armplanref40_Refutes.body0 [.r, .r, .r, .r, .l, .r, .b, .b]).getD .skip)
noncomputable def armplanref40_Refutes.p1.ann : Ann := .z
set_option maxRecDepth 100000 in
theorem armplanref40_Refutes.p1.eq (x : Tup armplanref40_Refutes.p1.inS) : peRound armplanref40_Refutes.E armplanref40_Refutes.p1.c armplanref40_Refutes.p1.ann _ armplanref40_Refutes.p1.inS armplanref40_Refutes.p1.un armplanref40_Refutes.p1.outs x = armplanref40_Refutes.p1.step (armplanref40_Refutes.p1.un x) := by
  kernel_rfl
set_option maxRecDepth 100000 in
theorem armplanref40_Refutes.p1.sound : LProcSound armplanref40_Refutes.E (.loop armplanref40_Refutes.p1.c) armplanref40_Refutes.p1.lp :=
  loop_sound (c := armplanref40_Refutes.p1.c) (ann := armplanref40_Refutes.p1.ann) armplanref40_Refutes.ok ((SubsOk_z _ _) : SubsOk armplanref40_Refutes.E armplanref40_Refutes.p1.c armplanref40_Refutes.p1.ann) (by intro a ha; simp only [armplanref40_Refutes.p1.outs, List.mem_cons, List.not_mem_nil, or_false] at ha; rcases ha with rfl | rfl <;> exact fun _ => rfl) armplanref40_Refutes.p1.eq
noncomputable def armplanref40_Refutes.p0.c : Code := ((codeAt armplanref40_Refutes.body0 [.r, .r, .r, .l, .r, .b, .b]).getD .skip)
noncomputable def armplanref40_Refutes.p0.ann : Ann := .z
set_option maxRecDepth 100000 in
theorem armplanref40_Refutes.p0.eq (x : Tup armplanref40_Refutes.p0.inS) : peRound armplanref40_Refutes.E armplanref40_Refutes.p0.c armplanref40_Refutes.p0.ann _ armplanref40_Refutes.p0.inS armplanref40_Refutes.p0.un armplanref40_Refutes.p0.outs x = armplanref40_Refutes.p0.step (armplanref40_Refutes.p0.un x) := by
  kernel_rfl
set_option maxRecDepth 100000 in
theorem armplanref40_Refutes.p0.sound : LProcSound armplanref40_Refutes.E (.loop armplanref40_Refutes.p0.c) armplanref40_Refutes.p0.lp :=
  loop_sound (c := armplanref40_Refutes.p0.c) (ann := armplanref40_Refutes.p0.ann) armplanref40_Refutes.ok ((SubsOk_z _ _) : SubsOk armplanref40_Refutes.E armplanref40_Refutes.p0.c armplanref40_Refutes.p0.ann) (by intro a ha; simp only [armplanref40_Refutes.p0.outs, List.mem_cons, List.not_mem_nil, or_false] at ha; rcases ha with rfl | rfl <;> exact fun _ => rfl) armplanref40_Refutes.p0.eq
noncomputable def armplanref40_Refutes.ann : Ann := .s (.z) (.s (.z) (.s (.z) (.s (.s (.z) (.b (.sub 0))) (.s (.s (.z) (.b (.sub 1))) (.z)))))
set_option maxRecDepth 100000 in
theorem armplanref40_Refutes.eq (x : Tup armplanref40_Refutes.p.inS) : peFn armplanref40_Refutes.E Try.f56 armplanref40_Refutes.ann armplanref40_Refutes.p x = armplanref40_Refutes.p.F x := by
  have h : peFn armplanref40_Refutes.E Try.f56 armplanref40_Refutes.ann armplanref40_Refutes.p x = armplanref40_Refutes.F0 x.1.1 x.1.2.1 x.1.2.2.1 := by kernel_rfl
  exact h.trans (by show _ = armplanref40_Refutes.F x.1.1 x.1.2.1 x.1.2.2.1; rw [armplanref40_Refutes.F_eq])
set_option maxRecDepth 100000 in
theorem armplanref40_Refutes.sound : ProcSound Try.prog glob0 56 armplanref40_Refutes.p :=
  fn_sound (E := armplanref40_Refutes.E) (c := armplanref40_Refutes.body0) (ann := armplanref40_Refutes.ann) armplanref40_Refutes.ok Try.func56 (of_decide_eq_true (by kernel_rfl)) rfl rfl rfl (by decide +kernel) (⟨(SubsOk_z _ _), ⟨(SubsOk_z _ _), ⟨(SubsOk_z _ _), ⟨⟨(SubsOk_z _ _), (sub_of rfl armplanref40_Refutes.p0.sound)⟩, ⟨⟨(SubsOk_z _ _), (sub_of rfl armplanref40_Refutes.p1.sound)⟩, (SubsOk_z _ _)⟩⟩⟩⟩⟩ : SubsOk armplanref40_Refutes.E armplanref40_Refutes.body0 armplanref40_Refutes.ann) (fun _ => rfl) rfl armplanref40_Refutes.eq

/-! ### armplan/armplanref40.SplitRow: function 60 -/
noncomputable def armplanref40_SplitRow.F0 (a0 : Int) (a1 : Int) (a2 : Int) (a3 : Int) : Option (Bool × List ((Int × (Int × (Int × Int))))) :=
  ((armplanref40_formedRow.F a0 a1 a2 a3).bind fun r1 => (bif (!r1) then some (false, ([] : List ((Int × (Int × (Int × Int)))))) else (bif decide ((IntKind.wrap .i64 (a1 + a2)) < (-1073741824 : Int)) then some (false, ([] : List ((Int × (Int × (Int × Int)))))) else (bif decide ((IntKind.wrap .i64 (a1 + a2)) > (1073741824 : Int)) then some (false, ([] : List ((Int × (Int × (Int × Int)))))) else (bif decide (a1 > (0 : Int)) then (bif decide (a2 > (0 : Int)) then some (true, ([(a0, ((IntKind.wrap .i64 (a1 + a2)), ((0 : Int), a3))), (a0, ((0 : Int), ((IntKind.wrap .i64 (a1 + a2)), a3)))] : List ((Int × (Int × (Int × Int)))))) else some (true, ([(a0, (a1, (a2, a3)))] : List ((Int × (Int × (Int × Int))))))) else some (true, ([(a0, (a1, (a2, a3)))] : List ((Int × (Int × (Int × Int)))))))))))
noncomputable def armplanref40_SplitRow.F : Int → Int → Int → Int → Option (Bool × List ((Int × (Int × (Int × Int))))) := lock armplanref40_SplitRow.F0
theorem armplanref40_SplitRow.F_eq : armplanref40_SplitRow.F = armplanref40_SplitRow.F0 := lock_eq _
noncomputable def armplanref40_SplitRow.p : Proc := { nargs := 1, inS := ⟨[(0, .ag [.sc (.int .i64), .sc (.int .i64), .sc (.int .i64), .sc (.int .i64)])], []⟩, outS := ⟨[(0, .lf (.own 0)), (1, .lf (.sc .bool))], [.row 25 (.pair (.int .i64) (.pair (.int .i64) (.pair (.int .i64) (.int .i64))))]⟩, n0 := 0, R := Bool × List ((Int × (Int × (Int × Int)))), F := fun x => armplanref40_SplitRow.F x.1.1.1 x.1.1.2.1 x.1.1.2.2.1 x.1.1.2.2.2.1, post := fun r => (((), (r.1, ())), (r.2, ())), un := fun x => (x.1.2.1, x.2.1) }
noncomputable def armplanref40_SplitRow.E : Env := { P := Try.prog, ty := tyTab [(25, (.pair (.int .i64) (.pair (.int .i64) (.pair (.int .i64) (.int .i64)))))], glob := glob0, proc := procTab [(72, armplanref40_formedRow.p)], lproc := lprocTab [], n0 := 0, ntmps := 52 }
theorem armplanref40_SplitRow.ok : ProcsOk armplanref40_SplitRow.E := AllSound.ok (l := [(72, armplanref40_formedRow.p)]) (by kernel_rfl) rfl ⟨armplanref40_formedRow.sound, trivial⟩
noncomputable def armplanref40_SplitRow.body0 : Code := (match Try.f60.body with | some c => c | none => .skip)
noncomputable def armplanref40_SplitRow.ann : Ann := .z
set_option maxRecDepth 100000 in
theorem armplanref40_SplitRow.eq (x : Tup armplanref40_SplitRow.p.inS) : peFn armplanref40_SplitRow.E Try.f60 armplanref40_SplitRow.ann armplanref40_SplitRow.p x = armplanref40_SplitRow.p.F x := by
  have h : peFn armplanref40_SplitRow.E Try.f60 armplanref40_SplitRow.ann armplanref40_SplitRow.p x = armplanref40_SplitRow.F0 x.1.1.1 x.1.1.2.1 x.1.1.2.2.1 x.1.1.2.2.2.1 := by kernel_rfl
  exact h.trans (by show _ = armplanref40_SplitRow.F x.1.1.1 x.1.1.2.1 x.1.1.2.2.1 x.1.1.2.2.2.1; rw [armplanref40_SplitRow.F_eq])
set_option maxRecDepth 100000 in
theorem armplanref40_SplitRow.sound : ProcSound Try.prog glob0 60 armplanref40_SplitRow.p :=
  fn_sound (E := armplanref40_SplitRow.E) (c := armplanref40_SplitRow.body0) (ann := armplanref40_SplitRow.ann) armplanref40_SplitRow.ok Try.func60 (of_decide_eq_true (by kernel_rfl)) rfl rfl rfl (by decide +kernel) ((SubsOk_z _ _) : SubsOk armplanref40_SplitRow.E armplanref40_SplitRow.body0 armplanref40_SplitRow.ann) (fun _ => rfl) rfl armplanref40_SplitRow.eq

/-! ### armplan/profile.inRange: function 62 -/
noncomputable def profile_inRange.F0 (a0 : Int) (a1 : Int) (a2 : Int) (a3 : Int) : Option (Bool) :=
  ((profile_within.F a1 (1073741824 : Int)).bind fun r1 => (bif r1 then ((profile_within.F a2 (1073741824 : Int)).bind fun r2 => (bif r2 then ((profile_within.F a3 (1152921504606846976 : Int)).bind fun r3 => some r3) else some false)) else some false))
noncomputable def profile_inRange.F : Int → Int → Int → Int → Option (Bool) := lock profile_inRange.F0
theorem profile_inRange.F_eq : profile_inRange.F = profile_inRange.F0 := lock_eq _
noncomputable def profile_inRange.p : Proc := { nargs := 1, inS := ⟨[(0, .ag [.sc (.int .i64), .sc (.int .i64), .sc (.int .i64), .sc (.int .i64)])], []⟩, outS := ⟨[(0, .lf (.sc .bool))], []⟩, n0 := 0, R := Bool, F := fun x => profile_inRange.F x.1.1.1 x.1.1.2.1 x.1.1.2.2.1 x.1.1.2.2.2.1, post := fun r => ((r, ()), ()), un := fun x => x.1.1 }
noncomputable def profile_inRange.E : Env := { P := Try.prog, ty := tyTab [], glob := glob0, proc := procTab [(63, profile_within.p)], lproc := lprocTab [], n0 := 0, ntmps := 16 }
theorem profile_inRange.ok : ProcsOk profile_inRange.E := AllSound.ok (l := [(63, profile_within.p)]) (by kernel_rfl) rfl ⟨profile_within.sound, trivial⟩
noncomputable def profile_inRange.body0 : Code := (match Try.f62.body with | some c => c | none => .skip)
noncomputable def profile_inRange.ann : Ann := .z
set_option maxRecDepth 100000 in
theorem profile_inRange.eq (x : Tup profile_inRange.p.inS) : peFn profile_inRange.E Try.f62 profile_inRange.ann profile_inRange.p x = profile_inRange.p.F x := by
  have h : peFn profile_inRange.E Try.f62 profile_inRange.ann profile_inRange.p x = profile_inRange.F0 x.1.1.1 x.1.1.2.1 x.1.1.2.2.1 x.1.1.2.2.2.1 := by kernel_rfl
  exact h.trans (by show _ = profile_inRange.F x.1.1.1 x.1.1.2.1 x.1.1.2.2.1 x.1.1.2.2.2.1; rw [profile_inRange.F_eq])
set_option maxRecDepth 100000 in
theorem profile_inRange.sound : ProcSound Try.prog glob0 62 profile_inRange.p :=
  fn_sound (E := profile_inRange.E) (c := profile_inRange.body0) (ann := profile_inRange.ann) profile_inRange.ok Try.func62 (of_decide_eq_true (by kernel_rfl)) rfl rfl rfl (by decide +kernel) ((SubsOk_z _ _) : SubsOk profile_inRange.E profile_inRange.body0 profile_inRange.ann) (fun _ => rfl) rfl profile_inRange.eq

/-! ### math/bits.Mul: function 67 -/
noncomputable def bits_Mul.F0 (a0 : Int) (a1 : Int) : Option (Int × Int) :=
  ((bits_Mul64.F a0 a1).bind fun r1 => some (r1.1, r1.2))
noncomputable def bits_Mul.F : Int → Int → Option (Int × Int) := lock bits_Mul.F0
theorem bits_Mul.F_eq : bits_Mul.F = bits_Mul.F0 := lock_eq _
noncomputable def bits_Mul.p : Proc := { nargs := 2, inS := ⟨[(0, .lf (.sc (.int .u64))), (1, .lf (.sc (.int .u64)))], []⟩, outS := ⟨[(0, .lf (.sc (.int .u64))), (1, .lf (.sc (.int .u64)))], []⟩, n0 := 0, R := Int × Int, F := fun x => bits_Mul.F x.1.1 x.1.2.1, post := fun r => ((r.1, (r.2, ())), ()), un := fun x => (x.1.1, x.1.2.1) }
noncomputable def bits_Mul.E : Env := { P := Try.prog, ty := tyTab [], glob := glob0, proc := procTab [(76, bits_Mul64.p)], lproc := lprocTab [], n0 := 0, ntmps := 30 }
theorem bits_Mul.ok : ProcsOk bits_Mul.E := AllSound.ok (l := [(76, bits_Mul64.p)]) (by kernel_rfl) rfl ⟨bits_Mul64.sound, trivial⟩
noncomputable def bits_Mul.body0 : Code := (match Try.f67.body with | some c => c | none => .skip)
noncomputable def bits_Mul.ann : Ann := .z
set_option maxRecDepth 100000 in
theorem bits_Mul.eq (x : Tup bits_Mul.p.inS) : peFn bits_Mul.E Try.f67 bits_Mul.ann bits_Mul.p x = bits_Mul.p.F x := by
  have h : peFn bits_Mul.E Try.f67 bits_Mul.ann bits_Mul.p x = bits_Mul.F0 x.1.1 x.1.2.1 := by kernel_rfl
  exact h.trans (by show _ = bits_Mul.F x.1.1 x.1.2.1; rw [bits_Mul.F_eq])
set_option maxRecDepth 100000 in
theorem bits_Mul.sound : ProcSound Try.prog glob0 67 bits_Mul.p :=
  fn_sound (E := bits_Mul.E) (c := bits_Mul.body0) (ann := bits_Mul.ann) bits_Mul.ok Try.func67 (of_decide_eq_true (by kernel_rfl)) rfl rfl rfl (by decide +kernel) ((SubsOk_z _ _) : SubsOk bits_Mul.E bits_Mul.body0 bits_Mul.ann) (fun _ => rfl) rfl bits_Mul.eq

/-! ### armplan/armplanref40.Feasible: function 20 -/
noncomputable def armplanref40_Feasible.p0.round (v0 : List (Int)) (v1 : List ((Int × (Int × (Int × Int))))) (v2 : List (Int)) (v3 : Int) : Option ((List (Int) × List ((Int × (Int × (Int × Int)))) × List (Int) × Int) ⊕ ((Bool) ⊕ (List ((Int × (Int × (Int × Int)))) × List (Int)))) :=
  (bif decide (v3 < (v2.length : Int)) then (bif decide (0 ≤ v3) then (bif decide (v3 < (v2.length : Int)) then (bif decide ((v2.getD v3.toNat (0 : Int)) < (0 : Int)) then some (.inr (.inl false)) else (bif decide (0 ≤ v3) then (bif decide (v3 < (v2.length : Int)) then (bif decide (0 ≤ v3) then (bif decide (v3 < (v0.length : Int)) then (bif decide ((v2.getD v3.toNat (0 : Int)) > (v0.getD v3.toNat (0 : Int))) then some (.inr (.inl false)) else some (.inl (v0, v1, v2, (IntKind.wrap .i64 (v3 + (1 : Int)))))) else none) else none) else none) else none)) else none) else none) else some (.inr (.inr (v1, v2))))
noncomputable def armplanref40_Feasible.p0.step (s : List (Int) × List ((Int × (Int × (Int × Int)))) × List (Int) × Int) : Option ((List (Int) × List ((Int × (Int × (Int × Int)))) × List (Int) × Int) ⊕ ((Bool) ⊕ (List ((Int × (Int × (Int × Int)))) × List (Int)))) := armplanref40_Feasible.p0.round s.1 s.2.1 s.2.2.1 s.2.2.2
noncomputable def armplanref40_Feasible.p0.inS : Shape := ⟨[(0, .lf (.dat (.int .i64))), (1, .lf (.dat (.pair (.int .i64) (.pair (.int .i64) (.pair (.int .i64) (.int .i64)))))), (2, .lf (.dat (.int .i64))), (7, .lf (.sc (.int .i64)))], []⟩
noncomputable def armplanref40_Feasible.p0.w0 : Way := { ex := .rt, S := ⟨[(6, .lf (.sc .bool))], []⟩, R := Bool, post := fun r => ((r, ()), ()), un := fun x => x.1.1 }
noncomputable def armplanref40_Feasible.p0.w1 : Way := { ex := (.ex 0), S := ⟨[(1, .lf (.dat (.pair (.int .i64) (.pair (.int .i64) (.pair (.int .i64) (.int .i64)))))), (2, .lf (.dat (.int .i64)))], []⟩, R := List ((Int × (Int × (Int × Int)))) × List (Int), post := fun r => ((r.1, (r.2, ())), ()), un := fun x => (x.1.1, x.1.2.1) }
noncomputable def armplanref40_Feasible.p0.outs : List Way := [armplanref40_Feasible.p0.w0, armplanref40_Feasible.p0.w1]
noncomputable def armplanref40_Feasible.p0.un (x : Tup armplanref40_Feasible.p0.inS) : List (Int) × List ((Int × (Int × (Int × Int)))) × List (Int) × Int := (x.1.1, x.1.2.1, x.1.2.2.1, x.1.2.2.2.1)
noncomputable def armplanref40_Feasible.p0.lp : LProc := { inS := armplanref40_Feasible.p0.inS, outs := armplanref40_Feasible.p0.outs, F := fun x => loopF armplanref40_Feasible.p0.step (armplanref40_Feasible.p0.un x) }
noncomputable def armplanref40_Feasible.p1.round (v0 : List ((Int × (Int × (Int × Int))))) (v1 : List (Int)) (v2 : Int) : Option ((List ((Int × (Int × (Int × Int)))) × List (Int) × Int) ⊕ ((Bool) ⊕ (Unit))) :=
  (bif decide (v2 < (v0.length : Int)) then (bif decide (0 ≤ v2) then (bif decide (v2 < (v0.length : Int)) then ((armplanref40_holds.F (v0.getD v2.toNat ((0 : Int), ((0 : Int), ((0 : Int), (0 : Int))))).1 ((v0.getD v2.toNat ((0 : Int), ((0 : Int), ((0 : Int), (0 : Int))))).2).1 (((v0.getD v2.toNat ((0 : Int), ((0 : Int), ((0 : Int), (0 : Int))))).2).2).1 (((v0.getD v2.toNat ((0 : Int), ((0 : Int), ((0 : Int), (0 : Int))))).2).2).2 v1).bind fun r6 => (bif (!r6) then some (.inr (.inl false)) else some (.inl (v0, v1, (IntKind.wrap .i64 (v2 + (1 : Int))))))) else none) else none) else some (.inr (.inr ())))
noncomputable def armplanref40_Feasible.p1.step (s : List ((Int × (Int × (Int × Int)))) × List (Int) × Int) : Option ((List ((Int × (Int × (Int × Int)))) × List (Int) × Int) ⊕ ((Bool) ⊕ (Unit))) := armplanref40_Feasible.p1.round s.1 s.2.1 s.2.2
noncomputable def armplanref40_Feasible.p1.inS : Shape := ⟨[(1, .lf (.dat (.pair (.int .i64) (.pair (.int .i64) (.pair (.int .i64) (.int .i64)))))), (2, .lf (.dat (.int .i64))), (8, .lf (.sc (.int .i64)))], []⟩
noncomputable def armplanref40_Feasible.p1.w0 : Way := { ex := .rt, S := ⟨[(6, .lf (.sc .bool))], []⟩, R := Bool, post := fun r => ((r, ()), ()), un := fun x => x.1.1 }
noncomputable def armplanref40_Feasible.p1.w1 : Way := { ex := (.ex 2), S := ⟨[], []⟩, R := Unit, post := fun r => ((), ()), un := fun x => () }
noncomputable def armplanref40_Feasible.p1.outs : List Way := [armplanref40_Feasible.p1.w0, armplanref40_Feasible.p1.w1]
noncomputable def armplanref40_Feasible.p1.un (x : Tup armplanref40_Feasible.p1.inS) : List ((Int × (Int × (Int × Int)))) × List (Int) × Int := (x.1.1, x.1.2.1, x.1.2.2.1)
noncomputable def armplanref40_Feasible.p1.lp : LProc := { inS := armplanref40_Feasible.p1.inS, outs := armplanref40_Feasible.p1.outs, F := fun x => loopF armplanref40_Feasible.p1.step (armplanref40_Feasible.p1.un x) }
noncomputable def armplanref40_Feasible.F0 (a0 : List (Int)) (a1 : List ((Int × (Int × (Int × Int))))) (a2 : List (Int)) : Option (Bool) :=
  ((armplanref40_ValidRows.F a0 a1).bind fun r1 => (bif (!r1) then some false else (bif ((a2.length : Int) != (a0.length : Int)) then some false else ((loopF armplanref40_Feasible.p0.step (a0, a1, a2, (0 : Int))).bind fun y2 => (Sum.elim (fun y3 => some y3) (fun z4 => ((loopF armplanref40_Feasible.p1.step (z4.1, z4.2, (0 : Int))).bind fun y7 => (Sum.elim (fun y8 => some y8) (fun z9 => some true) y7))) y2)))))
noncomputable def armplanref40_Feasible.F : (List (Int)) → (List ((Int × (Int × (Int × Int))))) → (List (Int)) → Option (Bool) := lock armplanref40_Feasible.F0
theorem armplanref40_Feasible.F_eq : armplanref40_Feasible.F = armplanref40_Feasible.F0 := lock_eq _
noncomputable def armplanref40_Feasible.p : Proc := { nargs := 3, inS := ⟨[(0, .lf (.dat (.int .i64))), (1, .lf (.dat (.pair (.int .i64) (.pair (.int .i64) (.pair (.int .i64) (.int .i64)))))), (2, .lf (.dat (.int .i64)))], []⟩, outS := ⟨[(0, .lf (.sc .bool))], []⟩, n0 := 0, R := Bool, F := fun x => armplanref40_Feasible.F x.1.1 x.1.2.1 x.1.2.2.1, post := fun r => ((r, ()), ()), un := fun x => x.1.1 }
noncomputable def armplanref40_Feasible.E : Env := { P := Try.prog, ty := tyTab [], glob := glob0, proc := procTab [(50, armplanref40_ValidRows.p), (51, armplanref40_holds.p)], lproc := lprocTab [(0, armplanref40_Feasible.p0.lp), (1, armplanref40_Feasible.p1.lp)], n0 := 0, ntmps := 55 }
theorem armplanref40_Feasible.ok : ProcsOk armplanref40_Feasible.E := AllSound.ok (l := [(50, armplanref40_ValidRows.p), (51, armplanref40_holds.p)]) (by kernel_rfl) rfl ⟨armplanref40_ValidRows.sound, armplanref40_holds.sound, trivial⟩
noncomputable def armplanref40_Feasible.body0 : Code := (match Try.f20.body with | some c => c | none => .skip)
noncomputable def armplanref40_Feasible.p1.c : Code := ((codeAt armplanref40_Feasible.body0 [.r, .r, .r, .l, .r, .b, .b]).getD .skip)
noncomputable def armplanref40_Feasible.p1.ann : Ann := .z
set_option maxRecDepth 100000 in
theorem armplanref40_Feasible.p1.eq (x : Tup armplanref40_Feasible.p1.inS) : peRound armplanref40_Feasible.E armplanref40_Feasible.p1.c armplanref40_Feasible.p1.ann _ armplanref40_Feasible.p1.inS armplanref40_Feasible.p1.un armplanref40_Feasible.p1.outs x = armplanref40_Feasible.p1.step (armplanref40_Feasible.p1.un x) := by
  kernel_rfl
set_option maxRecDepth 100000 in
theorem armplanref40_Feasible.p1.sound : LProcSound armplanref40_Feasible.E (.loop armplanref40_Feasible.p1.c) armplanref40_Feasible.p1.lp :=
  loop_sound (c := armplanref40_Feasible.p1.c) (ann := armplanref40_Feasible.p1.ann) armplanref40_Feasible.ok ((SubsOk_z _ _) : SubsOk armplanref40_Feasible.E armplanref40_Feasible.p1.c armplanref40_Feasible.p1.ann) (by intro a ha; simp only [armplanref40_Feasible.p1.outs, List.mem_cons, List.not_mem_nil, or_false] at ha; rcases ha with rfl | rfl <;> exact fun _ => rfl) armplanref40_Feasible.p1.eq
noncomputable def armplanref40_Feasible.p0.c : Code := ((codeAt armplanref40_Feasible.body0 [.r, .r, .l, .r, .b, .b]).getD .skip)
noncomputable def armplanref40_Feasible.p0.ann : Ann := .z
set_option maxRecDepth 100000 in
theorem armplanref40_Feasible.p0.eq (x : Tup armplanref40_Feasible.p0.inS) : peRound armplanref40_Feasible.E armplanref40_Feasible.p0.c armplanref40_Feasible.p0.ann _ armplanref40_Feasible.p0.inS armplanref40_Feasible.p0.un armplanref40_Feasible.p0.outs x = armplanref40_Feasible.p0.step (armplanref40_Feasible.p0.un x) := by
  kernel_rfl
set_option maxRecDepth 100000 in
theorem armplanref40_Feasible.p0.sound : LProcSound armplanref40_Feasible.E (.loop armplanref40_Feasible.p0.c) armplanref40_Feasible.p0.lp :=
  loop_sound (c := armplanref40_Feasible.p0.c) (ann := armplanref40_Feasible.p0.ann) armplanref40_Feasible.ok ((SubsOk_z _ _) : SubsOk armplanref40_Feasible.E armplanref40_Feasible.p0.c armplanref40_Feasible.p0.ann) (by intro a ha; simp only [armplanref40_Feasible.p0.outs, List.mem_cons, List.not_mem_nil, or_false] at ha; rcases ha with rfl | rfl <;> exact fun _ => rfl) armplanref40_Feasible.p0.eq
noncomputable def armplanref40_Feasible.ann : Ann := .s (.z) (.s (.z) (.s (.s (.z) (.b (.sub 0))) (.s (.s (.z) (.b (.sub 1))) (.z))))
set_option maxRecDepth 100000 in
theorem armplanref40_Feasible.eq (x : Tup armplanref40_Feasible.p.inS) : peFn armplanref40_Feasible.E Try.f20 armplanref40_Feasible.ann armplanref40_Feasible.p x = armplanref40_Feasible.p.F x := by
  have h : peFn armplanref40_Feasible.E Try.f20 armplanref40_Feasible.ann armplanref40_Feasible.p x = armplanref40_Feasible.F0 x.1.1 x.1.2.1 x.1.2.2.1 := by kernel_rfl
  exact h.trans (by show _ = armplanref40_Feasible.F x.1.1 x.1.2.1 x.1.2.2.1; rw [armplanref40_Feasible.F_eq])
set_option maxRecDepth 100000 in
theorem armplanref40_Feasible.sound : ProcSound Try.prog glob0 20 armplanref40_Feasible.p :=
  fn_sound (E := armplanref40_Feasible.E) (c := armplanref40_Feasible.body0) (ann := armplanref40_Feasible.ann) armplanref40_Feasible.ok Try.func20 (of_decide_eq_true (by kernel_rfl)) rfl rfl rfl (by decide +kernel) (⟨(SubsOk_z _ _), ⟨(SubsOk_z _ _), ⟨⟨(SubsOk_z _ _), (sub_of rfl armplanref40_Feasible.p0.sound)⟩, ⟨⟨(SubsOk_z _ _), (sub_of rfl armplanref40_Feasible.p1.sound)⟩, (SubsOk_z _ _)⟩⟩⟩⟩ : SubsOk armplanref40_Feasible.E armplanref40_Feasible.body0 armplanref40_Feasible.ann) (fun _ => rfl) rfl armplanref40_Feasible.eq

/-! ### armplan/armplanref40.Greatest: function 25 -/
noncomputable def armplanref40_Greatest.p1.round (v0 : List ((Int × (Int × (Int × Int))))) (v1 : Bool) (v2 : Int) (v3 : List (Int)) (v4 : List (Int)) : Option ((List ((Int × (Int × (Int × Int)))) × Bool × Int × List (Int) × List (Int)) ⊕ ((Bool × List (Int)) ⊕ (List ((Int × (Int × (Int × Int)))) × Bool × List (Int) × List (Int)))) :=
  (bif decide (v2 < (v0.length : Int)) then (bif decide (0 ≤ v2) then (bif decide (v2 < (v0.length : Int)) then ((armplanref40_Bound.F (v0.getD v2.toNat ((0 : Int), ((0 : Int), ((0 : Int), (0 : Int))))).1 ((v0.getD v2.toNat ((0 : Int), ((0 : Int), ((0 : Int), (0 : Int))))).2).1 (((v0.getD v2.toNat ((0 : Int), ((0 : Int), ((0 : Int), (0 : Int))))).2).2).1 (((v0.getD v2.toNat ((0 : Int), ((0 : Int), ((0 : Int), (0 : Int))))).2).2).2 v3).bind fun r14 => (bif (!r14.2.2) then some (.inl (v0, v1, (IntKind.wrap .i64 (v2 + (1 : Int))), v3, v4)) else (bif decide (0 ≤ r14.1) then (bif decide (r14.1 < (v3.length : Int)) then (bif decide (r14.2.1 ≥ (v3.getD r14.1.toNat (0 : Int))) then some (.inl (v0, v1, (IntKind.wrap .i64 (v2 + (1 : Int))), v3, v4)) else (bif ((v4.length : Int) == (16384 : Int)) then some (.inr (.inl (false, ([] : List (Int))))) else (bif decide (0 ≤ r14.1) then (bif decide (r14.1 < (v3.length : Int)) then (bif decide (v4.length + ([v2] : List (Int)).length < 17592186044416) then (bif decide (r14.2.1 < (0 : Int)) then some (.inr (.inl (false, (v4 ++ ([v2] : List (Int)))))) else some (.inl (v0, true, (IntKind.wrap .i64 (v2 + (1 : Int))), (v3.set r14.1.toNat r14.2.1), (v4 ++ ([v2] : List (Int)))))) else none) else none) else none))) else none) else none))) else none) else none) else some (.inr (.inr (v0, v1, v3, v4))))
noncomputable def armplanref40_Greatest.p1.step (s : List ((Int × (Int × (Int × Int)))) × Bool × Int × List (Int) × List (Int)) : Option ((List ((Int × (Int × (Int × Int)))) × Bool × Int × List (Int) × List (Int)) ⊕ ((Bool × List (Int)) ⊕ (List ((Int × (Int × (Int × Int)))) × Bool × List (Int) × List (Int)))) := armplanref40_Greatest.p1.round s.1 s.2.1 s.2.2.1 s.2.2.2.1 s.2.2.2.2
noncomputable def armplanref40_Greatest.p1.inS : Shape := ⟨[(1, .lf (.dat (.pair (.int .i64) (.pair (.int .i64) (.pair (.int .i64) (.int .i64)))))), (7, .lf (.own 0)), (8, .lf (.own 1)), (9, .lf (.sc .bool)), (10, .lf (.sc (.int .i64)))], [.row 2 (.int .i64), .row 3 (.int .i64)]⟩
noncomputable def armplanref40_Greatest.p1.w0 : Way := { ex := .rt, S := ⟨[(4, .lf (.cst (.slice none 0 0))), (5, .lf (.own 0)), (6, .lf (.sc .bool))], [.row 3 (.int .i64)]⟩, R := Bool × List (Int), post := fun r => (((), ((), (r.1, ()))), (r.2, ())), un := fun x => (x.1.2.2.1, x.2.1) }
noncomputable def armplanref40_Greatest.p1.w1 : Way := { ex := (.ex 2), S := ⟨[(1, .lf (.dat (.pair (.int .i64) (.pair (.int .i64) (.pair (.int .i64) (.int .i64)))))), (7, .lf (.own 0)), (8, .lf (.own 1)), (9, .lf (.sc .bool))], [.row 2 (.int .i64), .row 3 (.int .i64)]⟩, R := List ((Int × (Int × (Int × Int)))) × Bool × List (Int) × List (Int), post := fun r => ((r.1, ((), ((), (r.2.1, ())))), (r.2.2.1, (r.2.2.2, ()))), un := fun x => (x.1.1, x.1.2.2.2.1, x.2.1, x.2.2.1) }
noncomputable def armplanref40_Greatest.p1.outs : List Way := [armplanref40_Greatest.p1.w0, armplanref40_Greatest.p1.w1]
noncomputable def armplanref40_Greatest.p1.un (x : Tup armplanref40_Greatest.p1.inS) : List ((Int × (Int × (Int × Int)))) × Bool × Int × List (Int) × List (Int) := (x.1.1, x.1.2.2.2.1, x.1.2.2.2.2.1, x.2.1, x.2.2.1)
noncomputable def armplanref40_Greatest.p1.lp : LProc := { inS := armplanref40_Greatest.p1.inS, outs := armplanref40_Greatest.p1.outs, F := fun x => loopF armplanref40_Greatest.p1.step (armplanref40_Greatest.p1.un x) }
noncomputable def armplanref40_Greatest.p0.round (v0 : List ((Int × (Int × (Int × Int))))) (v1 : Bool) (v2 : List (Int)) (v3 : List (Int)) : Option ((List ((Int × (Int × (Int × Int)))) × Bool × List (Int) × List (Int)) ⊕ ((Bool × List (Int)) ⊕ (List ((Int × (Int × (Int × Int)))) × List (Int) × List (Int)))) :=
  (bif v1 then ((loopF armplanref40_Greatest.p1.step (v0, false, (0 : Int), v2, v3)).bind fun y15 => (Sum.elim (fun y16 => some (.inr (.inl (y16.1, y16.2)))) (fun z17 => some (.inl (z17.1, z17.2.1, z17.2.2.1, z17.2.2.2))) y15)) else some (.inr (.inr (v0, v2, v3))))
noncomputable def armplanref40_Greatest.p0.step (s : List ((Int × (Int × (Int × Int)))) × Bool × List (Int) × List (Int)) : Option ((List ((Int × (Int × (Int × Int)))) × Bool × List (Int) × List (Int)) ⊕ ((Bool × List (Int)) ⊕ (List ((Int × (Int × (Int × Int)))) × List (Int) × List (Int)))) := armplanref40_Greatest.p0.round s.1 s.2.1 s.2.2.1 s.2.2.2
noncomputable def armplanref40_Greatest.p0.inS : Shape := ⟨[(1, .lf (.dat (.pair (.int .i64) (.pair (.int .i64) (.pair (.int .i64) (.int .i64)))))), (7, .lf (.own 0)), (8, .lf (.own 1)), (9, .lf (.sc .bool))], [.row 2 (.int .i64), .row 3 (.int .i64)]⟩
noncomputable def armplanref40_Greatest.p0.w0 : Way := { ex := .rt, S := ⟨[(4, .lf (.cst (.slice none 0 0))), (5, .lf (.own 0)), (6, .lf (.sc .bool))], [.row 3 (.int .i64)]⟩, R := Bool × List (Int), post := fun r => (((), ((), (r.1, ()))), (r.2, ())), un := fun x => (x.1.2.2.1, x.2.1) }
noncomputable def armplanref40_Greatest.p0.w1 : Way := { ex := (.ex 0), S := ⟨[(1, .lf (.dat (.pair (.int .i64) (.pair (.int .i64) (.pair (.int .i64) (.int .i64)))))), (7, .lf (.own 0)), (8, .lf (.own 1))], [.row 2 (.int .i64), .row 3 (.int .i64)]⟩, R := List ((Int × (Int × (Int × Int)))) × List (Int) × List (Int), post := fun r => ((r.1, ((), ((), ()))), (r.2.1, (r.2.2, ()))), un := fun x => (x.1.1, x.2.1, x.2.2.1) }
noncomputable def armplanref40_Greatest.p0.outs : List Way := [armplanref40_Greatest.p0.w0, armplanref40_Greatest.p0.w1]
noncomputable def armplanref40_Greatest.p0.un (x : Tup armplanref40_Greatest.p0.inS) : List ((Int × (Int × (Int × Int)))) × Bool × List (Int) × List (Int) := (x.1.1, x.1.2.2.2.1, x.2.1, x.2.2.1)
noncomputable def armplanref40_Greatest.p0.lp : LProc := { inS := armplanref40_Greatest.p0.inS, outs := armplanref40_Greatest.p0.outs, F := fun x => loopF armplanref40_Greatest.p0.step (armplanref40_Greatest.p0.un x) }
noncomputable def armplanref40_Greatest.p2.round (v0 : List ((Int × (Int × (Int × Int))))) (v1 : Int) (v2 : List (Int)) (v3 : List (Int)) : Option ((List ((Int × (Int × (Int × Int)))) × Int × List (Int) × List (Int)) ⊕ ((Bool × List (Int)) ⊕ (List (Int) × List (Int)))) :=
  (bif decide (v1 < (v0.length : Int)) then (bif decide (0 ≤ v1) then (bif decide (v1 < (v0.length : Int)) then ((armplanref40_holds.F (v0.getD v1.toNat ((0 : Int), ((0 : Int), ((0 : Int), (0 : Int))))).1 ((v0.getD v1.toNat ((0 : Int), ((0 : Int), ((0 : Int), (0 : Int))))).2).1 (((v0.getD v1.toNat ((0 : Int), ((0 : Int), ((0 : Int), (0 : Int))))).2).2).1 (((v0.getD v1.toNat ((0 : Int), ((0 : Int), ((0 : Int), (0 : Int))))).2).2).2 v2).bind fun r22 => (bif (!r22) then some (.inr (.inl (false, v3))) else some (.inl (v0, (IntKind.wrap .i64 (v1 + (1 : Int))), v2, v3)))) else none) else none) else some (.inr (.inr (v2, v3))))
noncomputable def armplanref40_Greatest.p2.step (s : List ((Int × (Int × (Int × Int)))) × Int × List (Int) × List (Int)) : Option ((List ((Int × (Int × (Int × Int)))) × Int × List (Int) × List (Int)) ⊕ ((Bool × List (Int)) ⊕ (List (Int) × List (Int)))) := armplanref40_Greatest.p2.round s.1 s.2.1 s.2.2.1 s.2.2.2
noncomputable def armplanref40_Greatest.p2.inS : Shape := ⟨[(1, .lf (.dat (.pair (.int .i64) (.pair (.int .i64) (.pair (.int .i64) (.int .i64)))))), (7, .lf (.own 0)), (8, .lf (.own 1)), (14, .lf (.sc (.int .i64)))], [.row 2 (.int .i64), .row 3 (.int .i64)]⟩
noncomputable def armplanref40_Greatest.p2.w0 : Way := { ex := .rt, S := ⟨[(4, .lf (.cst (.slice none 0 0))), (5, .lf (.own 0)), (6, .lf (.sc .bool))], [.row 3 (.int .i64)]⟩, R := Bool × List (Int), post := fun r => (((), ((), (r.1, ()))), (r.2, ())), un := fun x => (x.1.2.2.1, x.2.1) }
noncomputable def armplanref40_Greatest.p2.w1 : Way := { ex := (.ex 4), S := ⟨[(7, .lf (.own 0)), (8, .lf (.own 1))], [.row 2 (.int .i64), .row 3 (.int .i64)]⟩, R := List (Int) × List (Int), post := fun r => (((), ((), ())), (r.1, (r.2, ()))), un := fun x => (x.2.1, x.2.2.1) }
noncomputable def armplanref40_Greatest.p2.outs : List Way := [armplanref40_Greatest.p2.w0, armplanref40_Greatest.p2.w1]
noncomputable def armplanref40_Greatest.p2.un (x : Tup armplanref40_Greatest.p2.inS) : List ((Int × (Int × (Int × Int)))) × Int × List (Int) × List (Int) := (x.1.1, x.1.2.2.2.1, x.2.1, x.2.2.1)
noncomputable def armplanref40_Greatest.p2.lp : LProc := { inS := armplanref40_Greatest.p2.inS, outs := armplanref40_Greatest.p2.outs, F := fun x => loopF armplanref40_Greatest.p2.step (armplanref40_Greatest.p2.un x) }
noncomputable def armplanref40_Greatest.F0 (a0 : List (Int)) (a1 : List ((Int × (Int × (Int × Int))))) : Option (Bool × List (Int) × List (Int)) :=
  ((armplanref40_ValidRows.F a0 a1).bind fun r1 => (bif (!r1) then some (false, ([] : List (Int)), ([] : List (Int))) else (bif decide (a0.length < 17592186044416) then ((loopF armplanref40_Greatest.p0.step (a1, true, a0, ([] : List (Int)))).bind fun y18 => (Sum.elim (fun y19 => some (y19.1, ([] : List (Int)), y19.2)) (fun z20 => ((loopF armplanref40_Greatest.p2.step (z20.1, (0 : Int), z20.2.1, z20.2.2)).bind fun y23 => (Sum.elim (fun y24 => some (y24.1, ([] : List (Int)), y24.2)) (fun z25 => some (true, z25.1, z25.2)) y23))) y18)) else none)))
noncomputable def armplanref40_Greatest.F : (List (Int)) → (List ((Int × (Int × (Int × Int))))) → Option (Bool × List (Int) × List (Int)) := lock armplanref40_Greatest.F0
theorem armplanref40_Greatest.F_eq : armplanref40_Greatest.F = armplanref40_Greatest.F0 := lock_eq _
noncomputable def armplanref40_Greatest.p : Proc := { nargs := 2, inS := ⟨[(0, .lf (.dat (.int .i64))), (1, .lf (.dat (.pair (.int .i64) (.pair (.int .i64) (.pair (.int .i64) (.int .i64))))))], []⟩, outS := ⟨[(0, .lf (.own 0)), (1, .lf (.own 1)), (2, .lf (.sc .bool))], [.row 2 (.int .i64), .row 3 (.int .i64)]⟩, n0 := 0, R := Bool × List (Int) × List (Int), F := fun x => armplanref40_Greatest.F x.1.1 x.1.2.1, post := fun r => (((), ((), (r.1, ()))), (r.2.1, (r.2.2, ()))), un := fun x => (x.1.2.2.1, x.2.1, x.2.2.1) }
noncomputable def armplanref40_Greatest.E : Env := { P := Try.prog, ty := tyTab [(3, (.int .i64))], glob := glob0, proc := procTab [(50, armplanref40_ValidRows.p), (53, armplanref40_Bound.p), (51, armplanref40_holds.p)], lproc := lprocTab [(0, armplanref40_Greatest.p0.lp), (1, armplanref40_Greatest.p1.lp), (2, armplanref40_Greatest.p2.lp)], n0 := 0, ntmps := 78 }
theorem armplanref40_Greatest.ok : ProcsOk armplanref40_Greatest.E := AllSound.ok (l := [(50, armplanref40_ValidRows.p), (53, armplanref40_Bound.p), (51, armplanref40_holds.p)]) (by kernel_rfl) rfl ⟨armplanref40_ValidRows.sound, armplanref40_Bound.sound, armplanref40_holds.sound, trivial⟩
noncomputable def armplanref40_Greatest.body0 : Code := (match Try.f25.body with | some c => c | none => .skip)
noncomputable def armplanref40_Greatest.p2.c : Code := ((codeAt armplanref40_Greatest.body0 [.r, .r, .r, .r, .r, .l, .r, .b, .b]).getD .skip)
noncomputable def armplanref40_Greatest.p2.ann : Ann := .z
set_option maxRecDepth 100000 in
theorem armplanref40_Greatest.p2.eq (x : Tup armplanref40_Greatest.p2.inS) : peRound armplanref40_Greatest.E armplanref40_Greatest.p2.c armplanref40_Greatest.p2.ann _ armplanref40_Greatest.p2.inS armplanref40_Greatest.p2.un armplanref40_Greatest.p2.outs x = armplanref40_Greatest.p2.step (armplanref40_Greatest.p2.un x) := by
  kernel_rfl
set_option maxRecDepth 100000 in
theorem armplanref40_Greatest.p2.sound : LProcSound armplanref40_Greatest.E (.loop armplanref40_Greatest.p2.c) armplanref40_Greatest.p2.lp :=
  loop_sound (c := armplanref40_Greatest.p2.c) (ann := armplanref40_Greatest.p2.ann) armplanref40_Greatest.ok ((SubsOk_z _ _) : SubsOk armplanref40_Greatest.E armplanref40_Greatest.p2.c armplanref40_Greatest.p2.ann) (by intro a ha; simp only [armplanref40_Greatest.p2.outs, List.mem_cons, List.not_mem_nil, or_false] at ha; rcases ha with rfl | rfl <;> exact fun _ => rfl) armplanref40_Greatest.p2.eq
noncomputable def armplanref40_Greatest.p1.c : Code := ((codeAt armplanref40_Greatest.body0 [.r, .r, .r, .r, .l, .r, .b, .b, .r, .b, .r, .r, .b, .b]).getD .skip)
noncomputable def armplanref40_Greatest.p1.ann : Ann := .z
set_option maxRecDepth 100000 in
theorem armplanref40_Greatest.p1.eq (x : Tup armplanref40_Greatest.p1.inS) : peRound armplanref40_Greatest.E armplanref40_Greatest.p1.c armplanref40_Greatest.p1.ann _ armplanref40_Greatest.p1.inS armplanref40_Greatest.p1.un armplanref40_Greatest.p1.outs x = armplanref40_Greatest.p1.step (armplanref40_Greatest.p1.un x) := by
  kernel_rfl
set_option maxRecDepth 100000 in
theorem armplanref40_Greatest.p1.sound : LProcSound armplanref40_Greatest.E (.loop armplanref40_Greatest.p1.c) armplanref40_Greatest.p1.lp :=
  loop_sound (c := armplanref40_Greatest.p1.c) (ann := armplanref40_Greatest.p1.ann) armplanref40_Greatest.ok ((SubsOk_z _ _) : SubsOk armplanref40_Greatest.E armplanref40_Greatest.p1.c armplanref40_Greatest.p1.ann) (by intro a ha; simp only [armplanref40_Greatest.p1.outs, List.mem_cons, List.not_mem_nil, or_false] at ha; rcases ha with rfl | rfl <;> exact fun _ => rfl) armplanref40_Greatest.p1.eq
noncomputable def armplanref40_Greatest.p0.c : Code := ((codeAt armplanref40_Greatest.body0 [.r, .r, .r, .r, .l, .r, .b, .b]).getD .skip)
noncomputable def armplanref40_Greatest.p0.ann : Ann := .s (.z) (.b (.s (.z) (.s (.z) (.b (.sub 1)))))
set_option maxRecDepth 100000 in
theorem armplanref40_Greatest.p0.eq (x : Tup armplanref40_Greatest.p0.inS) : peRound armplanref40_Greatest.E armplanref40_Greatest.p0.c armplanref40_Greatest.p0.ann _ armplanref40_Greatest.p0.inS armplanref40_Greatest.p0.un armplanref40_Greatest.p0.outs x = armplanref40_Greatest.p0.step (armplanref40_Greatest.p0.un x) := by
  kernel_rfl
set_option maxRecDepth 100000 in
theorem armplanref40_Greatest.p0.sound : LProcSound armplanref40_Greatest.E (.loop armplanref40_Greatest.p0.c) armplanref40_Greatest.p0.lp :=
  loop_sound (c := armplanref40_Greatest.p0.c) (ann := armplanref40_Greatest.p0.ann) armplanref40_Greatest.ok (⟨(SubsOk_z _ _), ⟨(SubsOk_z _ _), ⟨(SubsOk_z _ _), (sub_of rfl armplanref40_Greatest.p1.sound)⟩⟩⟩ : SubsOk armplanref40_Greatest.E armplanref40_Greatest.p0.c armplanref40_Greatest.p0.ann) (by intro a ha; simp only [armplanref40_Greatest.p0.outs, List.mem_cons, List.not_mem_nil, or_false] at ha; rcases ha with rfl | rfl <;> exact fun _ => rfl) armplanref40_Greatest.p0.eq
noncomputable def armplanref40_Greatest.ann : Ann := .s (.z) (.s (.z) (.s (.z) (.s (.z) (.s (.s (.z) (.b (.sub 0))) (.s (.s (.z) (.b (.sub 2))) (.z))))))
set_option maxRecDepth 100000 in
theorem armplanref40_Greatest.eq (x : Tup armplanref40_Greatest.p.inS) : peFn armplanref40_Greatest.E Try.f25 armplanref40_Greatest.ann armplanref40_Greatest.p x = armplanref40_Greatest.p.F x := by
  have h : peFn armplanref40_Greatest.E Try.f25 armplanref40_Greatest.ann armplanref40_Greatest.p x = armplanref40_Greatest.F0 x.1.1 x.1.2.1 := by kernel_rfl
  exact h.trans (by show _ = armplanref40_Greatest.F x.1.1 x.1.2.1; rw [armplanref40_Greatest.F_eq])
set_option maxRecDepth 100000 in
theorem armplanref40_Greatest.sound : ProcSound Try.prog glob0 25 armplanref40_Greatest.p :=
  fn_sound (E := armplanref40_Greatest.E) (c := armplanref40_Greatest.body0) (ann := armplanref40_Greatest.ann) armplanref40_Greatest.ok Try.func25 (of_decide_eq_true (by kernel_rfl)) rfl rfl rfl (by decide +kernel) (⟨(SubsOk_z _ _), ⟨(SubsOk_z _ _), ⟨(SubsOk_z _ _), ⟨(SubsOk_z _ _), ⟨⟨(SubsOk_z _ _), (sub_of rfl armplanref40_Greatest.p0.sound)⟩, ⟨⟨(SubsOk_z _ _), (sub_of rfl armplanref40_Greatest.p2.sound)⟩, (SubsOk_z _ _)⟩⟩⟩⟩⟩⟩ : SubsOk armplanref40_Greatest.E armplanref40_Greatest.body0 armplanref40_Greatest.ann) (fun _ => rfl) rfl armplanref40_Greatest.eq

/-! ### armplan/profile.Split: function 35 -/
noncomputable def profile_Split.F0 (a0 : Int) (a1 : Int) (a2 : Int) (a3 : Int) : Option (Bool × List ((Int × (Int × (Int × Int))))) :=
  ((profile_inRange.F a0 a1 a2 a3).bind fun r1 => (bif (!r1) then some (false, ([] : List ((Int × (Int × (Int × Int)))))) else ((profile_within.F (IntKind.wrap .i64 (a1 + a2)) (1073741824 : Int)).bind fun r2 => (bif (!r2) then some (false, ([] : List ((Int × (Int × (Int × Int)))))) else (bif decide (a1 ≤ (0 : Int)) then some (true, ([(a0, (a1, (a2, a3)))] : List ((Int × (Int × (Int × Int)))))) else (bif decide (a2 ≤ (0 : Int)) then some (true, ([(a0, (a1, (a2, a3)))] : List ((Int × (Int × (Int × Int)))))) else some (true, ([(a0, ((IntKind.wrap .i64 (a1 + a2)), ((0 : Int), a3))), (a0, ((0 : Int), ((IntKind.wrap .i64 (a1 + a2)), a3)))] : List ((Int × (Int × (Int × Int))))))))))))
noncomputable def profile_Split.F : Int → Int → Int → Int → Option (Bool × List ((Int × (Int × (Int × Int))))) := lock profile_Split.F0
theorem profile_Split.F_eq : profile_Split.F = profile_Split.F0 := lock_eq _
noncomputable def profile_Split.p : Proc := { nargs := 1, inS := ⟨[(0, .ag [.sc (.int .i64), .sc (.int .i64), .sc (.int .i64), .sc (.int .i64)])], []⟩, outS := ⟨[(0, .lf (.own 0)), (1, .lf (.sc .bool))], [.row 25 (.pair (.int .i64) (.pair (.int .i64) (.pair (.int .i64) (.int .i64))))]⟩, n0 := 0, R := Bool × List ((Int × (Int × (Int × Int)))), F := fun x => profile_Split.F x.1.1.1 x.1.1.2.1 x.1.1.2.2.1 x.1.1.2.2.2.1, post := fun r => (((), (r.1, ())), (r.2, ())), un := fun x => (x.1.2.1, x.2.1) }
noncomputable def profile_Split.E : Env := { P := Try.prog, ty := tyTab [(25, (.pair (.int .i64) (.pair (.int .i64) (.pair (.int .i64) (.int .i64)))))], glob := glob0, proc := procTab [(62, profile_inRange.p), (63, profile_within.p)], lproc := lprocTab [], n0 := 0, ntmps := 45 }
theorem profile_Split.ok : ProcsOk profile_Split.E := AllSound.ok (l := [(62, profile_inRange.p), (63, profile_within.p)]) (by kernel_rfl) rfl ⟨profile_inRange.sound, profile_within.sound, trivial⟩
noncomputable def profile_Split.body0 : Code := (match Try.f35.body with | some c => c | none => .skip)
noncomputable def profile_Split.ann : Ann := .z
set_option maxRecDepth 100000 in
theorem profile_Split.eq (x : Tup profile_Split.p.inS) : peFn profile_Split.E Try.f35 profile_Split.ann profile_Split.p x = profile_Split.p.F x := by
  have h : peFn profile_Split.E Try.f35 profile_Split.ann profile_Split.p x = profile_Split.F0 x.1.1.1 x.1.1.2.1 x.1.1.2.2.1 x.1.1.2.2.2.1 := by kernel_rfl
  exact h.trans (by show _ = profile_Split.F x.1.1.1 x.1.1.2.1 x.1.1.2.2.1 x.1.1.2.2.2.1; rw [profile_Split.F_eq])
set_option maxRecDepth 100000 in
theorem profile_Split.sound : ProcSound Try.prog glob0 35 profile_Split.p :=
  fn_sound (E := profile_Split.E) (c := profile_Split.body0) (ann := profile_Split.ann) profile_Split.ok Try.func35 (of_decide_eq_true (by kernel_rfl)) rfl rfl rfl (by decide +kernel) ((SubsOk_z _ _) : SubsOk profile_Split.E profile_Split.body0 profile_Split.ann) (fun _ => rfl) rfl profile_Split.eq

/-! ### armplan/profile.Valid$1: function 65 -/
noncomputable def profile_Valid_1.F0 (a0 : Int) (a1 : Int) (a2 : Int) (a3 : Int) (a4 : List (Int)) : Option (Bool × List (Int)) :=
  (bif decide (a0 < (0 : Int)) then some (true, a4) else (bif decide (a0 > (IntKind.wrap .i64 ((a4.length : Int) - (2 : Int)))) then some (true, a4) else ((profile_inRange.F a0 a1 a2 a3).bind fun r1 => (bif (!r1) then some (true, a4) else (bif decide (a1 > (0 : Int)) then some (decide (a2 > (0 : Int)), a4) else some (false, a4))))))
noncomputable def profile_Valid_1.F : Int → Int → Int → Int → (List (Int)) → Option (Bool × List (Int)) := lock profile_Valid_1.F0
theorem profile_Valid_1.F_eq : profile_Valid_1.F = profile_Valid_1.F0 := lock_eq _
noncomputable def profile_Valid_1.p : Proc := { nargs := 2, inS := ⟨[(0, .ag [.sc (.int .i64), .sc (.int .i64), .sc (.int .i64), .sc (.int .i64)]), (1, .lf (.bp 0 0))], [.box [.dat (.int .i64)]]⟩, outS := ⟨[(0, .lf (.sc .bool))], [.box [.dat (.int .i64)]]⟩, n0 := 1, R := Bool × List (Int), F := fun x => profile_Valid_1.F x.1.1.1 x.1.1.2.1 x.1.1.2.2.1 x.1.1.2.2.2.1 x.2.1.1, post := fun r => ((r.1, ()), ((r.2, ()), ())), un := fun x => (x.1.1, x.2.1.1) }
noncomputable def profile_Valid_1.E : Env := { P := Try.prog, ty := tyTab [], glob := glob0, proc := procTab [(62, profile_inRange.p)], lproc := lprocTab [], n0 := 1, ntmps := 30 }
theorem profile_Valid_1.ok : ProcsOk profile_Valid_1.E := AllSound.ok (l := [(62, profile_inRange.p)]) (by kernel_rfl) rfl ⟨profile_inRange.sound, trivial⟩
noncomputable def profile_Valid_1.body0 : Code := (match Try.f65.body with | some c => c | none => .skip)
noncomputable def profile_Valid_1.ann : Ann := .z
set_option maxRecDepth 100000 in
theorem profile_Valid_1.eq (x : Tup profile_Valid_1.p.inS) : peFn profile_Valid_1.E Try.f65 profile_Valid_1.ann profile_Valid_1.p x = profile_Valid_1.p.F x := by
  have h : peFn profile_Valid_1.E Try.f65 profile_Valid_1.ann profile_Valid_1.p x = profile_Valid_1.F0 x.1.1.1 x.1.1.2.1 x.1.1.2.2.1 x.1.1.2.2.2.1 x.2.1.1 := by kernel_rfl
  exact h.trans (by show _ = profile_Valid_1.F x.1.1.1 x.1.1.2.1 x.1.1.2.2.1 x.1.1.2.2.2.1 x.2.1.1; rw [profile_Valid_1.F_eq])
set_option maxRecDepth 100000 in
theorem profile_Valid_1.sound : ProcSound Try.prog glob0 65 profile_Valid_1.p :=
  fn_sound (E := profile_Valid_1.E) (c := profile_Valid_1.body0) (ann := profile_Valid_1.ann) profile_Valid_1.ok Try.func65 (of_decide_eq_true (by kernel_rfl)) rfl rfl rfl (by decide +kernel) ((SubsOk_z _ _) : SubsOk profile_Valid_1.E profile_Valid_1.body0 profile_Valid_1.ann) (fun _ => rfl) rfl profile_Valid_1.eq

/-! ### slices.IndexFunc[[]armplan/api.Row,armplan/api.Row]: function 66 -/
noncomputable def slices_IndexFunc_Row__profile_Valid_1.p0.round (v0 : List ((Int × (Int × (Int × Int))))) (v1 : Int) (v2 : Int) (v3 : List (Int)) : Option ((List ((Int × (Int × (Int × Int)))) × Int × Int × List (Int)) ⊕ ((Int × List (Int)) ⊕ (List (Int)))) :=
  (bif decide (v2 < v1) then (bif decide (0 ≤ v2) then (bif decide (v2 < (v0.length : Int)) then ((profile_Valid_1.F (v0.getD v2.toNat ((0 : Int), ((0 : Int), ((0 : Int), (0 : Int))))).1 ((v0.getD v2.toNat ((0 : Int), ((0 : Int), ((0 : Int), (0 : Int))))).2).1 (((v0.getD v2.toNat ((0 : Int), ((0 : Int), ((0 : Int), (0 : Int))))).2).2).1 (((v0.getD v2.toNat ((0 : Int), ((0 : Int), ((0 : Int), (0 : Int))))).2).2).2 v3).bind fun r2 => (bif r2.1 then some (.inr (.inl (v2, r2.2))) else some (.inl (v0, v1, (IntKind.wrap .i64 (v2 + (1 : Int))), r2.2)))) else none) else none) else some (.inr (.inr v3)))
noncomputable def slices_IndexFunc_Row__profile_Valid_1.p0.step (s : List ((Int × (Int × (Int × Int)))) × Int × Int × List (Int)) : Option ((List ((Int × (Int × (Int × Int)))) × Int × Int × List (Int)) ⊕ ((Int × List (Int)) ⊕ (List (Int)))) := slices_IndexFunc_Row__profile_Valid_1.p0.round s.1 s.2.1 s.2.2.1 s.2.2.2
noncomputable def slices_IndexFunc_Row__profile_Valid_1.p0.inS : Shape := ⟨[(0, .lf (.dat (.pair (.int .i64) (.pair (.int .i64) (.pair (.int .i64) (.int .i64)))))), (1, .lf (.fn 65 [0])), (7, .lf (.sc (.int .i64))), (8, .lf (.sc (.int .i64)))], [.box [.dat (.int .i64)]]⟩
noncomputable def slices_IndexFunc_Row__profile_Valid_1.p0.w0 : Way := { ex := .rt, S := ⟨[(4, .lf (.sc (.int .i64)))], [.box [.dat (.int .i64)]]⟩, R := Int × List (Int), post := fun r => ((r.1, ()), ((r.2, ()), ())), un := fun x => (x.1.1, x.2.1.1) }
noncomputable def slices_IndexFunc_Row__profile_Valid_1.p0.w1 : Way := { ex := (.ex 0), S := ⟨[], [.box [.dat (.int .i64)]]⟩, R := List (Int), post := fun r => ((), ((r, ()), ())), un := fun x => x.2.1.1 }
noncomputable def slices_IndexFunc_Row__profile_Valid_1.p0.outs : List Way := [slices_IndexFunc_Row__profile_Valid_1.p0.w0, slices_IndexFunc_Row__profile_Valid_1.p0.w1]
noncomputable def slices_IndexFunc_Row__profile_Valid_1.p0.un (x : Tup slices_IndexFunc_Row__profile_Valid_1.p0.inS) : List ((Int × (Int × (Int × Int)))) × Int × Int × List (Int) := (x.1.1, x.1.2.2.1, x.1.2.2.2.1, x.2.1.1)
noncomputable def slices_IndexFunc_Row__profile_Valid_1.p0.lp : LProc := { inS := slices_IndexFunc_Row__profile_Valid_1.p0.inS, outs := slices_IndexFunc_Row__profile_Valid_1.p0.outs, F := fun x => loopF slices_IndexFunc_Row__profile_Valid_1.p0.step (slices_IndexFunc_Row__profile_Valid_1.p0.un x) }
noncomputable def slices_IndexFunc_Row__profile_Valid_1.F0 (a0 : List ((Int × (Int × (Int × Int))))) (a1 : List (Int)) : Option (Int × List (Int)) :=
  ((loopF slices_IndexFunc_Row__profile_Valid_1.p0.step (a0, (a0.length : Int), (0 : Int), a1)).bind fun y3 => (Sum.elim (fun y4 => some (y4.1, y4.2)) (fun z5 => some ((-1 : Int), z5)) y3))
noncomputable def slices_IndexFunc_Row__profile_Valid_1.F : (List ((Int × (Int × (Int × Int))))) → (List (Int)) → Option (Int × List (Int)) := lock slices_IndexFunc_Row__profile_Valid_1.F0
theorem slices_IndexFunc_Row__profile_Valid_1.F_eq : slices_IndexFunc_Row__profile_Valid_1.F = slices_IndexFunc_Row__profile_Valid_1.F0 := lock_eq _
noncomputable def slices_IndexFunc_Row__profile_Valid_1.p : Proc := { nargs := 2, inS := ⟨[(0, .lf (.dat (.pair (.int .i64) (.pair (.int .i64) (.pair (.int .i64) (.int .i64)))))), (1, .lf (.fn 65 [0]))], [.box [.dat (.int .i64)]]⟩, outS := ⟨[(0, .lf (.sc (.int .i64)))], [.box [.dat (.int .i64)]]⟩, n0 := 1, R := Int × List (Int), F := fun x => slices_IndexFunc_Row__profile_Valid_1.F x.1.1 x.2.1.1, post := fun r => ((r.1, ()), ((r.2, ()), ())), un := fun x => (x.1.1, x.2.1.1) }
noncomputable def slices_IndexFunc_Row__profile_Valid_1.E : Env := { P := Try.prog, ty := tyTab [], glob := glob0, proc := procTab [(65, profile_Valid_1.p)], lproc := lprocTab [(0, slices_IndexFunc_Row__profile_Valid_1.p0.lp)], n0 := 1, ntmps := 19 }
theorem slices_IndexFunc_Row__profile_Valid_1.ok : ProcsOk slices_IndexFunc_Row__profile_Valid_1.E := AllSound.ok (l := [(65, profile_Valid_1.p)]) (by kernel_rfl) rfl ⟨profile_Valid_1.sound, trivial⟩
noncomputable def slices_IndexFunc_Row__profile_Valid_1.body0 : Code := (match Try.f66.body with | some c => c | none => .skip)
noncomputable def slices_IndexFunc_Row__profile_Valid_1.p0.c : Code := ((codeAt slices_IndexFunc_Row__profile_Valid_1.body0 [.r, .l, .r, .b, .b]).getD .skip)
noncomputable def slices_IndexFunc_Row__profile_Valid_1.p0.ann : Ann := .z
set_option maxRecDepth 100000 in
theorem slices_IndexFunc_Row__profile_Valid_1.p0.eq (x : Tup slices_IndexFunc_Row__profile_Valid_1.p0.inS) : peRound slices_IndexFunc_Row__profile_Valid_1.E slices_IndexFunc_Row__profile_Valid_1.p0.c slices_IndexFunc_Row__profile_Valid_1.p0.ann _ slices_IndexFunc_Row__profile_Valid_1.p0.inS slices_IndexFunc_Row__profile_Valid_1.p0.un slices_IndexFunc_Row__profile_Valid_1.p0.outs x = slices_IndexFunc_Row__profile_Valid_1.p0.step (slices_IndexFunc_Row__profile_Valid_1.p0.un x) := by
  kernel_rfl
set_option maxRecDepth 100000 in
theorem slices_IndexFunc_Row__profile_Valid_1.p0.sound : LProcSound slices_IndexFunc_Row__profile_Valid_1.E (.loop slices_IndexFunc_Row__profile_Valid_1.p0.c) slices_IndexFunc_Row__profile_Valid_1.p0.lp :=
  loop_sound (c := slices_IndexFunc_Row__profile_Valid_1.p0.c) (ann := slices_IndexFunc_Row__profile_Valid_1.p0.ann) slices_IndexFunc_Row__profile_Valid_1.ok ((SubsOk_z _ _) : SubsOk slices_IndexFunc_Row__profile_Valid_1.E slices_IndexFunc_Row__profile_Valid_1.p0.c slices_IndexFunc_Row__profile_Valid_1.p0.ann) (by intro a ha; simp only [slices_IndexFunc_Row__profile_Valid_1.p0.outs, List.mem_cons, List.not_mem_nil, or_false] at ha; rcases ha with rfl | rfl <;> exact fun _ => rfl) slices_IndexFunc_Row__profile_Valid_1.p0.eq
noncomputable def slices_IndexFunc_Row__profile_Valid_1.ann : Ann := .s (.z) (.s (.s (.z) (.b (.sub 0))) (.z))
set_option maxRecDepth 100000 in
theorem slices_IndexFunc_Row__profile_Valid_1.eq (x : Tup slices_IndexFunc_Row__profile_Valid_1.p.inS) : peFn slices_IndexFunc_Row__profile_Valid_1.E Try.f66 slices_IndexFunc_Row__profile_Valid_1.ann slices_IndexFunc_Row__profile_Valid_1.p x = slices_IndexFunc_Row__profile_Valid_1.p.F x := by
  have h : peFn slices_IndexFunc_Row__profile_Valid_1.E Try.f66 slices_IndexFunc_Row__profile_Valid_1.ann slices_IndexFunc_Row__profile_Valid_1.p x = slices_IndexFunc_Row__profile_Valid_1.F0 x.1.1 x.2.1.1 := by kernel_rfl
  exact h.trans (by show _ = slices_IndexFunc_Row__profile_Valid_1.F x.1.1 x.2.1.1; rw [slices_IndexFunc_Row__profile_Valid_1.F_eq])
set_option maxRecDepth 100000 in
theorem slices_IndexFunc_Row__profile_Valid_1.sound : ProcSound Try.prog glob0 66 slices_IndexFunc_Row__profile_Valid_1.p :=
  fn_sound (E := slices_IndexFunc_Row__profile_Valid_1.E) (c := slices_IndexFunc_Row__profile_Valid_1.body0) (ann := slices_IndexFunc_Row__profile_Valid_1.ann) slices_IndexFunc_Row__profile_Valid_1.ok Try.func66 (of_decide_eq_true (by kernel_rfl)) rfl rfl rfl (by decide +kernel) (⟨(SubsOk_z _ _), ⟨⟨(SubsOk_z _ _), (sub_of rfl slices_IndexFunc_Row__profile_Valid_1.p0.sound)⟩, (SubsOk_z _ _)⟩⟩ : SubsOk slices_IndexFunc_Row__profile_Valid_1.E slices_IndexFunc_Row__profile_Valid_1.body0 slices_IndexFunc_Row__profile_Valid_1.ann) (fun _ => rfl) rfl slices_IndexFunc_Row__profile_Valid_1.eq

/-! ### slices.ContainsFunc[[]armplan/api.Row,armplan/api.Row]: function 41 -/
noncomputable def slices_ContainsFunc_Row__profile_Valid_1.F0 (a0 : List ((Int × (Int × (Int × Int))))) (a1 : List (Int)) : Option (Bool × List (Int)) :=
  ((slices_IndexFunc_Row__profile_Valid_1.F a0 a1).bind fun r1 => some (decide (r1.1 ≥ (0 : Int)), r1.2))
noncomputable def slices_ContainsFunc_Row__profile_Valid_1.F : (List ((Int × (Int × (Int × Int))))) → (List (Int)) → Option (Bool × List (Int)) := lock slices_ContainsFunc_Row__profile_Valid_1.F0
theorem slices_ContainsFunc_Row__profile_Valid_1.F_eq : slices_ContainsFunc_Row__profile_Valid_1.F = slices_ContainsFunc_Row__profile_Valid_1.F0 := lock_eq _
noncomputable def slices_ContainsFunc_Row__profile_Valid_1.p : Proc := { nargs := 2, inS := ⟨[(0, .lf (.dat (.pair (.int .i64) (.pair (.int .i64) (.pair (.int .i64) (.int .i64)))))), (1, .lf (.fn 65 [0]))], [.box [.dat (.int .i64)]]⟩, outS := ⟨[(0, .lf (.sc .bool))], [.box [.dat (.int .i64)]]⟩, n0 := 1, R := Bool × List (Int), F := fun x => slices_ContainsFunc_Row__profile_Valid_1.F x.1.1 x.2.1.1, post := fun r => ((r.1, ()), ((r.2, ()), ())), un := fun x => (x.1.1, x.2.1.1) }
noncomputable def slices_ContainsFunc_Row__profile_Valid_1.E : Env := { P := Try.prog, ty := tyTab [(25, (.pair (.int .i64) (.pair (.int .i64) (.pair (.int .i64) (.int .i64)))))], glob := glob0, proc := procTab [(66, slices_IndexFunc_Row__profile_Valid_1.p)], lproc := lprocTab [], n0 := 1, ntmps := 9 }
theorem slices_ContainsFunc_Row__profile_Valid_1.ok : ProcsOk slices_ContainsFunc_Row__profile_Valid_1.E := AllSound.ok (l := [(66, slices_IndexFunc_Row__profile_Valid_1.p)]) (by kernel_rfl) rfl ⟨slices_IndexFunc_Row__profile_Valid_1.sound, trivial⟩
noncomputable def slices_ContainsFunc_Row__profile_Valid_1.body0 : Code := (match Try.f41.body with | some c => c | none => .skip)
noncomputable def slices_ContainsFunc_Row__profile_Valid_1.ann : Ann := .z
set_option maxRecDepth 100000 in
theorem slices_ContainsFunc_Row__profile_Valid_1.eq (x : Tup slices_ContainsFunc_Row__profile_Valid_1.p.inS) : peFn slices_ContainsFunc_Row__profile_Valid_1.E Try.f41 slices_ContainsFunc_Row__profile_Valid_1.ann slices_ContainsFunc_Row__profile_Valid_1.p x = slices_ContainsFunc_Row__profile_Valid_1.p.F x := by
  have h : peFn slices_ContainsFunc_Row__profile_Valid_1.E Try.f41 slices_ContainsFunc_Row__profile_Valid_1.ann slices_ContainsFunc_Row__profile_Valid_1.p x = slices_ContainsFunc_Row__profile_Valid_1.F0 x.1.1 x.2.1.1 := by kernel_rfl
  exact h.trans (by show _ = slices_ContainsFunc_Row__profile_Valid_1.F x.1.1 x.2.1.1; rw [slices_ContainsFunc_Row__profile_Valid_1.F_eq])
set_option maxRecDepth 100000 in
theorem slices_ContainsFunc_Row__profile_Valid_1.sound : ProcSound Try.prog glob0 41 slices_ContainsFunc_Row__profile_Valid_1.p :=
  fn_sound (E := slices_ContainsFunc_Row__profile_Valid_1.E) (c := slices_ContainsFunc_Row__profile_Valid_1.body0) (ann := slices_ContainsFunc_Row__profile_Valid_1.ann) slices_ContainsFunc_Row__profile_Valid_1.ok Try.func41 (of_decide_eq_true (by kernel_rfl)) rfl rfl rfl (by decide +kernel) ((SubsOk_z _ _) : SubsOk slices_ContainsFunc_Row__profile_Valid_1.E slices_ContainsFunc_Row__profile_Valid_1.body0 slices_ContainsFunc_Row__profile_Valid_1.ann) (fun _ => rfl) rfl slices_ContainsFunc_Row__profile_Valid_1.eq

/-! ### armplan/profile.Valid: function 40 -/
noncomputable def profile_Valid.F0 (a0 : List (Int)) (a1 : List ((Int × (Int × (Int × Int))))) : Option (Bool) :=
  (bif decide ((a0.length : Int) < (2 : Int)) then some false else (bif decide ((a0.length : Int) > (65 : Int)) then some false else (bif decide ((a1.length : Int) > (16384 : Int)) then some false else ((slices_Min_int64.F a0).bind fun r1 => (bif decide (r1 < (0 : Int)) then some false else ((slices_Max_int64.F a0).bind fun r2 => (bif decide (r2 > (4096 : Int)) then some false else ((slices_ContainsFunc_Row__profile_Valid_1.F a1 a0).bind fun r3 => some (!r3.1)))))))))
noncomputable def profile_Valid.F : (List (Int)) → (List ((Int × (Int × (Int × Int))))) → Option (Bool) := lock profile_Valid.F0
theorem profile_Valid.F_eq : profile_Valid.F = profile_Valid.F0 := lock_eq _
noncomputable def profile_Valid.p : Proc := { nargs := 2, inS := ⟨[(0, .lf (.dat (.int .i64))), (1, .lf (.dat (.pair (.int .i64) (.pair (.int .i64) (.pair (.int .i64) (.int .i64))))))], []⟩, outS := ⟨[(0, .lf (.sc .bool))], []⟩, n0 := 0, R := Bool, F := fun x => profile_Valid.F x.1.1 x.1.2.1, post := fun r => ((r, ()), ()), un := fun x => x.1.1 }
noncomputable def profile_Valid.E : Env := { P := Try.prog, ty := tyTab [(25, (.pair (.int .i64) (.pair (.int .i64) (.pair (.int .i64) (.int .i64)))))], glob := glob0, proc := procTab [(57, slices_Min_int64.p), (64, slices_Max_int64.p), (41, slices_ContainsFunc_Row__profile_Valid_1.p)], lproc := lprocTab [], n0 := 0, ntmps := 30 }
theorem profile_Valid.ok : ProcsOk profile_Valid.E := AllSound.ok (l := [(57, slices_Min_int64.p), (64, slices_Max_int64.p), (41, slices_ContainsFunc_Row__profile_Valid_1.p)]) (by kernel_rfl) rfl ⟨slices_Min_int64.sound, slices_Max_int64.sound, slices_ContainsFunc_Row__profile_Valid_1.sound, trivial⟩
noncomputable def profile_Valid.body0 : Code := (match Try.f40.body with | some c => c | none => .skip)
noncomputable def profile_Valid.ann : Ann := .z
set_option maxRecDepth 100000 in
theorem profile_Valid.eq (x : Tup profile_Valid.p.inS) : peFn profile_Valid.E Try.f40 profile_Valid.ann profile_Valid.p x = profile_Valid.p.F x := by
  have h : peFn profile_Valid.E Try.f40 profile_Valid.ann profile_Valid.p x = profile_Valid.F0 x.1.1 x.1.2.1 := by kernel_rfl
  exact h.trans (by show _ = profile_Valid.F x.1.1 x.1.2.1; rw [profile_Valid.F_eq])
set_option maxRecDepth 100000 in
theorem profile_Valid.sound : ProcSound Try.prog glob0 40 profile_Valid.p :=
  fn_sound (E := profile_Valid.E) (c := profile_Valid.body0) (ann := profile_Valid.ann) profile_Valid.ok Try.func40 (of_decide_eq_true (by kernel_rfl)) rfl rfl rfl (by decide +kernel) ((SubsOk_z _ _) : SubsOk profile_Valid.E profile_Valid.body0 profile_Valid.ann) (fun _ => rfl) rfl profile_Valid.eq

/-! ### slices.Repeat[[]bool,bool]: function 45 -/
noncomputable def slices_Repeat_bool.p0.round (v0 : Int) (v1 : List (Bool)) : Option ((Int × List (Bool)) ⊕ ((List (Bool)))) :=
  (bif decide (v0 < (v1.length : Int)) then (bif decide (0 ≤ v0) then (bif decide (v0 ≤ (v1.length : Int)) then (bif decide (0 ≤ v0) then (bif decide (v0 ≤ (v1.length : Int)) then some (.inl ((IntKind.wrap .i64 (v0 + ((Nat.min ((v1.drop 0).take (v0.toNat - 0)).length (v1.length - v0.toNat) : Nat) : Int))), (v1.take v0.toNat ++ (((v1.drop 0).take (v0.toNat - 0)).take (v1.length - v0.toNat) ++ v1.drop (v0.toNat + Nat.min ((v1.drop 0).take (v0.toNat - 0)).length (v1.length - v0.toNat)))))) else none) else none) else none) else none) else some (.inr v1))
noncomputable def slices_Repeat_bool.p0.step (s : Int × List (Bool)) : Option ((Int × List (Bool)) ⊕ ((List (Bool)))) := slices_Repeat_bool.p0.round s.1 s.2
noncomputable def slices_Repeat_bool.p0.inS : Shape := ⟨[(7, .lf (.own 0)), (8, .lf (.sc (.int .i64)))], [.row 4 .bool]⟩
noncomputable def slices_Repeat_bool.p0.w0 : Way := { ex := (.ex 0), S := ⟨[(7, .lf (.own 0))], [.row 4 .bool]⟩, R := List (Bool), post := fun r => (((), ()), (r, ())), un := fun x => x.2.1 }
noncomputable def slices_Repeat_bool.p0.outs : List Way := [slices_Repeat_bool.p0.w0]
noncomputable def slices_Repeat_bool.p0.un (x : Tup slices_Repeat_bool.p0.inS) : Int × List (Bool) := (x.1.2.1, x.2.1)
noncomputable def slices_Repeat_bool.p0.lp : LProc := { inS := slices_Repeat_bool.p0.inS, outs := slices_Repeat_bool.p0.outs, F := fun x => loopF slices_Repeat_bool.p0.step (slices_Repeat_bool.p0.un x) }
noncomputable def slices_Repeat_bool.F0 (a0 : List (Bool)) (a1 : Int) : Option (List (Bool)) :=
  (bif decide (a1 < (0 : Int)) then none else ((bits_Mul.F (IntKind.wrap .u64 (a0.length : Int)) (IntKind.wrap .u64 a1)).bind fun r1 => (bif decide (r1.1 > (0 : Int)) then none else (bif decide (r1.2 > (9223372036854775807 : Int)) then none else (bif decide (0 ≤ (IntKind.wrap .i64 r1.2)) then (bif decide ((IntKind.wrap .i64 r1.2).toNat ≤ 140737488355328 / 1) then ((loopF slices_Repeat_bool.p0.step (((Nat.min a0.length ((List.replicate (IntKind.wrap .i64 r1.2).toNat false).length) : Nat) : Int), ((List.replicate (IntKind.wrap .i64 r1.2).toNat false).take 0 ++ (a0.take ((List.replicate (IntKind.wrap .i64 r1.2).toNat false).length) ++ (List.replicate (IntKind.wrap .i64 r1.2).toNat false).drop (0 + Nat.min a0.length ((List.replicate (IntKind.wrap .i64 r1.2).toNat false).length)))))).bind fun y2 => some y2) else none) else none)))))
noncomputable def slices_Repeat_bool.F : (List (Bool)) → Int → Option (List (Bool)) := lock slices_Repeat_bool.F0
theorem slices_Repeat_bool.F_eq : slices_Repeat_bool.F = slices_Repeat_bool.F0 := lock_eq _
noncomputable def slices_Repeat_bool.p : Proc := { nargs := 2, inS := ⟨[(0, .lf (.dat .bool)), (1, .lf (.sc (.int .i64)))], []⟩, outS := ⟨[(0, .lf (.own 0))], [.row 4 .bool]⟩, n0 := 0, R := List (Bool), F := fun x => slices_Repeat_bool.F x.1.1 x.1.2.1, post := fun r => (((), ()), (r, ())), un := fun x => x.2.1 }
noncomputable def slices_Repeat_bool.E : Env := { P := Try.prog, ty := tyTab [(4, .bool)], glob := glob0, proc := procTab [(67, bits_Mul.p)], lproc := lprocTab [(0, slices_Repeat_bool.p0.lp)], n0 := 0, ntmps := 48, view := viewTab [(41, 1), (44, 1)] }
theorem slices_Repeat_bool.ok : ProcsOk slices_Repeat_bool.E := AllSound.ok (l := [(67, bits_Mul.p)]) (by kernel_rfl) rfl ⟨bits_Mul.sound, trivial⟩
noncomputable def slices_Repeat_bool.body0 : Code := (match Try.f45.body with | some c => c | none => .skip)
noncomputable def slices_Repeat_bool.p0.c : Code := ((codeAt slices_Repeat_bool.body0 [.r, .r, .r, .r, .r, .r, .l, .b, .b]).getD .skip)
noncomputable def slices_Repeat_bool.p0.ann : Ann := .z
set_option maxRecDepth 100000 in
theorem slices_Repeat_bool.p0.eq (x : Tup slices_Repeat_bool.p0.inS) : peRound slices_Repeat_bool.E slices_Repeat_bool.p0.c slices_Repeat_bool.p0.ann _ slices_Repeat_bool.p0.inS slices_Repeat_bool.p0.un slices_Repeat_bool.p0.outs x = slices_Repeat_bool.p0.step (slices_Repeat_bool.p0.un x) := by
  kernel_rfl
set_option maxRecDepth 100000 in
theorem slices_Repeat_bool.p0.sound : LProcSound slices_Repeat_bool.E (.loop slices_Repeat_bool.p0.c) slices_Repeat_bool.p0.lp :=
  loop_sound (c := slices_Repeat_bool.p0.c) (ann := slices_Repeat_bool.p0.ann) slices_Repeat_bool.ok ((SubsOk_z _ _) : SubsOk slices_Repeat_bool.E slices_Repeat_bool.p0.c slices_Repeat_bool.p0.ann) (by intro a ha; simp only [slices_Repeat_bool.p0.outs, List.mem_cons, List.not_mem_nil, or_false] at ha; rcases ha with rfl <;> exact fun _ => rfl) slices_Repeat_bool.p0.eq
noncomputable def slices_Repeat_bool.ann : Ann := .s (.z) (.s (.z) (.s (.z) (.s (.z) (.s (.z) (.s (.z) (.s (.b (.sub 0)) (.z)))))))
set_option maxRecDepth 100000 in
theorem slices_Repeat_bool.eq (x : Tup slices_Repeat_bool.p.inS) : peFn slices_Repeat_bool.E Try.f45 slices_Repeat_bool.ann slices_Repeat_bool.p x = slices_Repeat_bool.p.F x := by
  have h : peFn slices_Repeat_bool.E Try.f45 slices_Repeat_bool.ann slices_Repeat_bool.p x = slices_Repeat_bool.F0 x.1.1 x.1.2.1 := by kernel_rfl
  exact h.trans (by show _ = slices_Repeat_bool.F x.1.1 x.1.2.1; rw [slices_Repeat_bool.F_eq])
set_option maxRecDepth 100000 in
theorem slices_Repeat_bool.sound : ProcSound Try.prog glob0 45 slices_Repeat_bool.p :=
  fn_sound (E := slices_Repeat_bool.E) (c := slices_Repeat_bool.body0) (ann := slices_Repeat_bool.ann) slices_Repeat_bool.ok Try.func45 (of_decide_eq_true (by kernel_rfl)) rfl rfl rfl (by decide +kernel) (⟨(SubsOk_z _ _), ⟨(SubsOk_z _ _), ⟨(SubsOk_z _ _), ⟨(SubsOk_z _ _), ⟨(SubsOk_z _ _), ⟨(SubsOk_z _ _), ⟨(sub_of rfl slices_Repeat_bool.p0.sound), (SubsOk_z _ _)⟩⟩⟩⟩⟩⟩⟩ : SubsOk slices_Repeat_bool.E slices_Repeat_bool.body0 slices_Repeat_bool.ann) (fun _ => rfl) rfl slices_Repeat_bool.eq

/-! ### slices.IndexFunc[[]int64,int64]: function 77 -/
noncomputable def slices_IndexFunc_int64__profile_Bound_1.p0.round (v0 : List (Int)) (v1 : Int) (v2 : Int) : Option ((List (Int) × Int × Int) ⊕ ((Int) ⊕ (Unit))) :=
  (bif decide (v2 < v1) then (bif decide (0 ≤ v2) then (bif decide (v2 < (v0.length : Int)) then ((profile_Bound_1.F (v0.getD v2.toNat (0 : Int))).bind fun r2 => (bif r2 then some (.inr (.inl v2)) else some (.inl (v0, v1, (IntKind.wrap .i64 (v2 + (1 : Int))))))) else none) else none) else some (.inr (.inr ())))
noncomputable def slices_IndexFunc_int64__profile_Bound_1.p0.step (s : List (Int) × Int × Int) : Option ((List (Int) × Int × Int) ⊕ ((Int) ⊕ (Unit))) := slices_IndexFunc_int64__profile_Bound_1.p0.round s.1 s.2.1 s.2.2
noncomputable def slices_IndexFunc_int64__profile_Bound_1.p0.inS : Shape := ⟨[(0, .lf (.dat (.int .i64))), (1, .lf (.fn 70 [])), (7, .lf (.sc (.int .i64))), (8, .lf (.sc (.int .i64)))], []⟩
noncomputable def slices_IndexFunc_int64__profile_Bound_1.p0.w0 : Way := { ex := .rt, S := ⟨[(4, .lf (.sc (.int .i64)))], []⟩, R := Int, post := fun r => ((r, ()), ()), un := fun x => x.1.1 }
noncomputable def slices_IndexFunc_int64__profile_Bound_1.p0.w1 : Way := { ex := (.ex 0), S := ⟨[], []⟩, R := Unit, post := fun r => ((), ()), un := fun x => () }
noncomputable def slices_IndexFunc_int64__profile_Bound_1.p0.outs : List Way := [slices_IndexFunc_int64__profile_Bound_1.p0.w0, slices_IndexFunc_int64__profile_Bound_1.p0.w1]
noncomputable def slices_IndexFunc_int64__profile_Bound_1.p0.un (x : Tup slices_IndexFunc_int64__profile_Bound_1.p0.inS) : List (Int) × Int × Int := (x.1.1, x.1.2.2.1, x.1.2.2.2.1)
noncomputable def slices_IndexFunc_int64__profile_Bound_1.p0.lp : LProc := { inS := slices_IndexFunc_int64__profile_Bound_1.p0.inS, outs := slices_IndexFunc_int64__profile_Bound_1.p0.outs, F := fun x => loopF slices_IndexFunc_int64__profile_Bound_1.p0.step (slices_IndexFunc_int64__profile_Bound_1.p0.un x) }
noncomputable def slices_IndexFunc_int64__profile_Bound_1.F0 (a0 : List (Int)) : Option (Int) :=
  ((loopF slices_IndexFunc_int64__profile_Bound_1.p0.step (a0, (a0.length : Int), (0 : Int))).bind fun y3 => (Sum.elim (fun y4 => some y4) (fun z5 => some (-1 : Int)) y3))
noncomputable def slices_IndexFunc_int64__profile_Bound_1.F : (List (Int)) → Option (Int) := lock slices_IndexFunc_int64__profile_Bound_1.F0
theorem slices_IndexFunc_int64__profile_Bound_1.F_eq : slices_IndexFunc_int64__profile_Bound_1.F = slices_IndexFunc_int64__profile_Bound_1.F0 := lock_eq _
noncomputable def slices_IndexFunc_int64__profile_Bound_1.p : Proc := { nargs := 2, inS := ⟨[(0, .lf (.dat (.int .i64))), (1, .lf (.fn 70 []))], []⟩, outS := ⟨[(0, .lf (.sc (.int .i64)))], []⟩, n0 := 0, R := Int, F := fun x => slices_IndexFunc_int64__profile_Bound_1.F x.1.1, post := fun r => ((r, ()), ()), un := fun x => x.1.1 }
noncomputable def slices_IndexFunc_int64__profile_Bound_1.E : Env := { P := Try.prog, ty := tyTab [], glob := glob0, proc := procTab [(70, profile_Bound_1.p)], lproc := lprocTab [(0, slices_IndexFunc_int64__profile_Bound_1.p0.lp)], n0 := 0, ntmps := 19 }
theorem slices_IndexFunc_int64__profile_Bound_1.ok : ProcsOk slices_IndexFunc_int64__profile_Bound_1.E := AllSound.ok (l := [(70, profile_Bound_1.p)]) (by kernel_rfl) rfl ⟨profile_Bound_1.sound, trivial⟩
noncomputable def slices_IndexFunc_int64__profile_Bound_1.body0 : Code := (match Try.f77.body with | some c => c | none => .skip)
noncomputable def slices_IndexFunc_int64__profile_Bound_1.p0.c : Code := ((codeAt slices_IndexFunc_int64__profile_Bound_1.body0 [.r, .l, .r, .b, .b]).getD .skip)
noncomputable def slices_IndexFunc_int64__profile_Bound_1.p0.ann : Ann := .z
set_option maxRecDepth 100000 in
theorem slices_IndexFunc_int64__profile_Bound_1.p0.eq (x : Tup slices_IndexFunc_int64__profile_Bound_1.p0.inS) : peRound slices_IndexFunc_int64__profile_Bound_1.E slices_IndexFunc_int64__profile_Bound_1.p0.c slices_IndexFunc_int64__profile_Bound_1.p0.ann _ slices_IndexFunc_int64__profile_Bound_1.p0.inS slices_IndexFunc_int64__profile_Bound_1.p0.un slices_IndexFunc_int64__profile_Bound_1.p0.outs x = slices_IndexFunc_int64__profile_Bound_1.p0.step (slices_IndexFunc_int64__profile_Bound_1.p0.un x) := by
  kernel_rfl
set_option maxRecDepth 100000 in
theorem slices_IndexFunc_int64__profile_Bound_1.p0.sound : LProcSound slices_IndexFunc_int64__profile_Bound_1.E (.loop slices_IndexFunc_int64__profile_Bound_1.p0.c) slices_IndexFunc_int64__profile_Bound_1.p0.lp :=
  loop_sound (c := slices_IndexFunc_int64__profile_Bound_1.p0.c) (ann := slices_IndexFunc_int64__profile_Bound_1.p0.ann) slices_IndexFunc_int64__profile_Bound_1.ok ((SubsOk_z _ _) : SubsOk slices_IndexFunc_int64__profile_Bound_1.E slices_IndexFunc_int64__profile_Bound_1.p0.c slices_IndexFunc_int64__profile_Bound_1.p0.ann) (by intro a ha; simp only [slices_IndexFunc_int64__profile_Bound_1.p0.outs, List.mem_cons, List.not_mem_nil, or_false] at ha; rcases ha with rfl | rfl <;> exact fun _ => rfl) slices_IndexFunc_int64__profile_Bound_1.p0.eq
noncomputable def slices_IndexFunc_int64__profile_Bound_1.ann : Ann := .s (.z) (.s (.s (.z) (.b (.sub 0))) (.z))
set_option maxRecDepth 100000 in
theorem slices_IndexFunc_int64__profile_Bound_1.eq (x : Tup slices_IndexFunc_int64__profile_Bound_1.p.inS) : peFn slices_IndexFunc_int64__profile_Bound_1.E Try.f77 slices_IndexFunc_int64__profile_Bound_1.ann slices_IndexFunc_int64__profile_Bound_1.p x = slices_IndexFunc_int64__profile_Bound_1.p.F x := by
  have h : peFn slices_IndexFunc_int64__profile_Bound_1.E Try.f77 slices_IndexFunc_int64__profile_Bound_1.ann slices_IndexFunc_int64__profile_Bound_1.p x = slices_IndexFunc_int64__profile_Bound_1.F0 x.1.1 := by kernel_rfl
  exact h.trans (by show _ = slices_IndexFunc_int64__profile_Bound_1.F x.1.1; rw [slices_IndexFunc_int64__profile_Bound_1.F_eq])
set_option maxRecDepth 100000 in
theorem slices_IndexFunc_int64__profile_Bound_1.sound : ProcSound Try.prog glob0 77 slices_IndexFunc_int64__profile_Bound_1.p :=
  fn_sound (E := slices_IndexFunc_int64__profile_Bound_1.E) (c := slices_IndexFunc_int64__profile_Bound_1.body0) (ann := slices_IndexFunc_int64__profile_Bound_1.ann) slices_IndexFunc_int64__profile_Bound_1.ok Try.func77 (of_decide_eq_true (by kernel_rfl)) rfl rfl rfl (by decide +kernel) (⟨(SubsOk_z _ _), ⟨⟨(SubsOk_z _ _), (sub_of rfl slices_IndexFunc_int64__profile_Bound_1.p0.sound)⟩, (SubsOk_z _ _)⟩⟩ : SubsOk slices_IndexFunc_int64__profile_Bound_1.E slices_IndexFunc_int64__profile_Bound_1.body0 slices_IndexFunc_int64__profile_Bound_1.ann) (fun _ => rfl) rfl slices_IndexFunc_int64__profile_Bound_1.eq

/-! ### slices.ContainsFunc[[]int64,int64]: function 69 -/
noncomputable def slices_ContainsFunc_int64__profile_Bound_1.F0 (a0 : List (Int)) : Option (Bool) :=
  ((slices_IndexFunc_int64__profile_Bound_1.F a0).bind fun r1 => some (decide (r1 ≥ (0 : Int))))
noncomputable def slices_ContainsFunc_int64__profile_Bound_1.F : (List (Int)) → Option (Bool) := lock slices_ContainsFunc_int64__profile_Bound_1.F0
theorem slices_ContainsFunc_int64__profile_Bound_1.F_eq : slices_ContainsFunc_int64__profile_Bound_1.F = slices_ContainsFunc_int64__profile_Bound_1.F0 := lock_eq _
noncomputable def slices_ContainsFunc_int64__profile_Bound_1.p : Proc := { nargs := 2, inS := ⟨[(0, .lf (.dat (.int .i64))), (1, .lf (.fn 70 []))], []⟩, outS := ⟨[(0, .lf (.sc .bool))], []⟩, n0 := 0, R := Bool, F := fun x => slices_ContainsFunc_int64__profile_Bound_1.F x.1.1, post := fun r => ((r, ()), ()), un := fun x => x.1.1 }
noncomputable def slices_ContainsFunc_int64__profile_Bound_1.E : Env := { P := Try.prog, ty := tyTab [(2, (.int .i64))], glob := glob0, proc := procTab [(77, slices_IndexFunc_int64__profile_Bound_1.p)], lproc := lprocTab [], n0 := 0, ntmps := 9 }
theorem slices_ContainsFunc_int64__profile_Bound_1.ok : ProcsOk slices_ContainsFunc_int64__profile_Bound_1.E := AllSound.ok (l := [(77, slices_IndexFunc_int64__profile_Bound_1.p)]) (by kernel_rfl) rfl ⟨slices_IndexFunc_int64__profile_Bound_1.sound, trivial⟩
noncomputable def slices_ContainsFunc_int64__profile_Bound_1.body0 : Code := (match Try.f69.body with | some c => c | none => .skip)
noncomputable def slices_ContainsFunc_int64__profile_Bound_1.ann : Ann := .z
set_option maxRecDepth 100000 in
theorem slices_ContainsFunc_int64__profile_Bound_1.eq (x : Tup slices_ContainsFunc_int64__profile_Bound_1.p.inS) : peFn slices_ContainsFunc_int64__profile_Bound_1.E Try.f69 slices_ContainsFunc_int64__profile_Bound_1.ann slices_ContainsFunc_int64__profile_Bound_1.p x = slices_ContainsFunc_int64__profile_Bound_1.p.F x := by
  have h : peFn slices_ContainsFunc_int64__profile_Bound_1.E Try.f69 slices_ContainsFunc_int64__profile_Bound_1.ann slices_ContainsFunc_int64__profile_Bound_1.p x = slices_ContainsFunc_int64__profile_Bound_1.F0 x.1.1 := by kernel_rfl
  exact h.trans (by show _ = slices_ContainsFunc_int64__profile_Bound_1.F x.1.1; rw [slices_ContainsFunc_int64__profile_Bound_1.F_eq])
set_option maxRecDepth 100000 in
theorem slices_ContainsFunc_int64__profile_Bound_1.sound : ProcSound Try.prog glob0 69 slices_ContainsFunc_int64__profile_Bound_1.p :=
  fn_sound (E := slices_ContainsFunc_int64__profile_Bound_1.E) (c := slices_ContainsFunc_int64__profile_Bound_1.body0) (ann := slices_ContainsFunc_int64__profile_Bound_1.ann) slices_ContainsFunc_int64__profile_Bound_1.ok Try.func69 (of_decide_eq_true (by kernel_rfl)) rfl rfl rfl (by decide +kernel) ((SubsOk_z _ _) : SubsOk slices_ContainsFunc_int64__profile_Bound_1.E slices_ContainsFunc_int64__profile_Bound_1.body0 slices_ContainsFunc_int64__profile_Bound_1.ann) (fun _ => rfl) rfl slices_ContainsFunc_int64__profile_Bound_1.eq

/-! ### armplan/profile.Bound: function 47 -/
noncomputable def profile_Bound.F0 (a0 : Int) (a1 : Int) (a2 : Int) (a3 : Int) (a4 : List (Int)) : Option (Int × Int × Bool) :=
  (bif (decide (a1 > (0 : Int)) == decide (a2 > (0 : Int))) then some ((0 : Int), (0 : Int), false) else ((profile_inRange.F a0 a1 a2 a3).bind fun r1 => (bif (!r1) then some ((0 : Int), (0 : Int), false) else (bif decide (a0 < (0 : Int)) then some ((0 : Int), (0 : Int), false) else (bif decide (a0 ≥ (IntKind.wrap .i64 ((a4.length : Int) - (1 : Int)))) then some ((0 : Int), (0 : Int), false) else ((slices_ContainsFunc_int64__profile_Bound_1.F a4).bind fun r2 => (bif r2 then some ((0 : Int), (0 : Int), false) else (bif decide (a1 > (0 : Int)) then (bif decide (0 ≤ (IntKind.wrap .i64 (a0 + (1 : Int)))) then (bif decide ((IntKind.wrap .i64 (a0 + (1 : Int))) < (a4.length : Int)) then ((profile_quotient.F (IntKind.wrap .i64 (a3 - (IntKind.wrap .i64 (a2 * (a4.getD (IntKind.wrap .i64 (a0 + (1 : Int))).toNat (0 : Int)))))) a1).bind fun r3 => some (a0, r3, true)) else none) else none) else (bif decide (0 ≤ a0) then (bif decide (a0 < (a4.length : Int)) then ((profile_quotient.F (IntKind.wrap .i64 (a3 - (IntKind.wrap .i64 (a1 * (a4.getD a0.toNat (0 : Int)))))) a2).bind fun r4 => some ((IntKind.wrap .i64 (a0 + (1 : Int))), r4, true)) else none) else none)))))))))
noncomputable def profile_Bound.F : Int → Int → Int → Int → (List (Int)) → Option (Int × Int × Bool) := lock profile_Bound.F0
theorem profile_Bound.F_eq : profile_Bound.F = profile_Bound.F0 := lock_eq _
noncomputable def profile_Bound.p : Proc := { nargs := 2, inS := ⟨[(0, .ag [.sc (.int .i64), .sc (.int .i64), .sc (.int .i64), .sc (.int .i64)]), (1, .lf (.dat (.int .i64)))], []⟩, outS := ⟨[(0, .lf (.sc (.int .i64))), (1, .lf (.sc (.int .i64))), (2, .lf (.sc .bool))], []⟩, n0 := 0, R := Int × Int × Bool, F := fun x => profile_Bound.F x.1.1.1 x.1.1.2.1 x.1.1.2.2.1 x.1.1.2.2.2.1 x.1.2.1, post := fun r => ((r.1, (r.2.1, (r.2.2, ()))), ()), un := fun x => (x.1.1, x.1.2.1, x.1.2.2.1) }
noncomputable def profile_Bound.E : Env := { P := Try.prog, ty := tyTab [(2, (.int .i64))], glob := glob0, proc := procTab [(62, profile_inRange.p), (69, slices_ContainsFunc_int64__profile_Bound_1.p), (71, profile_quotient.p)], lproc := lprocTab [], n0 := 0, ntmps := 71 }
theorem profile_Bound.ok : ProcsOk profile_Bound.E := AllSound.ok (l := [(62, profile_inRange.p), (69, slices_ContainsFunc_int64__profile_Bound_1.p), (71, profile_quotient.p)]) (by kernel_rfl) rfl ⟨profile_inRange.sound, slices_ContainsFunc_int64__profile_Bound_1.sound, profile_quotient.sound, trivial⟩
noncomputable def profile_Bound.body0 : Code := (match Try.f47.body with | some c => c | none => .skip)
noncomputable def profile_Bound.ann : Ann := .z
set_option maxRecDepth 100000 in
theorem profile_Bound.eq (x : Tup profile_Bound.p.inS) : peFn profile_Bound.E Try.f47 profile_Bound.ann profile_Bound.p x = profile_Bound.p.F x := by
  have h : peFn profile_Bound.E Try.f47 profile_Bound.ann profile_Bound.p x = profile_Bound.F0 x.1.1.1 x.1.1.2.1 x.1.1.2.2.1 x.1.1.2.2.2.1 x.1.2.1 := by kernel_rfl
  exact h.trans (by show _ = profile_Bound.F x.1.1.1 x.1.1.2.1 x.1.1.2.2.1 x.1.1.2.2.2.1 x.1.2.1; rw [profile_Bound.F_eq])
set_option maxRecDepth 100000 in
theorem profile_Bound.sound : ProcSound Try.prog glob0 47 profile_Bound.p :=
  fn_sound (E := profile_Bound.E) (c := profile_Bound.body0) (ann := profile_Bound.ann) profile_Bound.ok Try.func47 (of_decide_eq_true (by kernel_rfl)) rfl rfl rfl (by decide +kernel) ((SubsOk_z _ _) : SubsOk profile_Bound.E profile_Bound.body0 profile_Bound.ann) (fun _ => rfl) rfl profile_Bound.eq

end Go.Abs
