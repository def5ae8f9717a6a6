/- A part of the proof that the text with the row names: printed readings of functions, or plain lemmas about them. -/
import Derived.Test.YtcljanaleeapnaaDoorAbsD
import Derived.Test.YtcljanaleeapnaaDoorProg
import Derived.KernelRfl
set_option linter.unusedVariables false
set_option linter.unusedSimpArgs false
namespace Go.Abs
open Go Go.Proofs
noncomputable def glob0 : Nat → Option (List DLeaf) := globTab [(0, [.v (.int .u64 2), .v (.int .u64 3), .v (.int .u64 5), .v (.int .u64 7), .v (.int .u64 11), .v (.int .u64 13), .v (.int .u64 17), .v (.int .u64 19), .v (.int .u64 23), .v (.int .u64 29)])]

/-! ### armplan/sampler.Radical: function 13 -/
noncomputable def sampler_Radical.p0.round (v0 : Int) (v1 : Int) (v2 : Int) (v3 : Int) : Option ((Int × Int × Int × Int) ⊕ ((Int × Int))) :=
  (bif decide (v1 > (0 : Int)) then (bif (v0 != 0) then (bif (v0 != 0) then some (.inl (v0, (IntKind.wrap .u64 (v1.tdiv v0)), (IntKind.wrap .u64 ((IntKind.wrap .u64 (v2 * v0)) + (v1.tmod v0))), (IntKind.wrap .u64 (v3 * v0)))) else none) else none) else some (.inr (v2, v3)))
noncomputable def sampler_Radical.p0.step (s : Int × Int × Int × Int) : Option ((Int × Int × Int × Int) ⊕ ((Int × Int))) := sampler_Radical.p0.round s.1 s.2.1 s.2.2.1 s.2.2.2
noncomputable def sampler_Radical.p0.inS : Shape := ⟨[(0, .lf (.sc (.int .u64))), (1, .lf (.sc (.int .u64))), (4, .lf (.sc (.int .u64))), (5, .lf (.sc (.int .u64)))], []⟩
noncomputable def sampler_Radical.p0.w0 : Way := { ex := (.ex 0), S := ⟨[(4, .lf (.sc (.int .u64))), (5, .lf (.sc (.int .u64)))], []⟩, R := Int × Int, post := fun r => ((r.1, (r.2, ())), ()), un := fun x => (x.1.1, x.1.2.1) }
noncomputable def sampler_Radical.p0.outs : List Way := [sampler_Radical.p0.w0]
noncomputable def sampler_Radical.p0.un (x : Tup sampler_Radical.p0.inS) : Int × Int × Int × Int := (x.1.1, x.1.2.1, x.1.2.2.1, x.1.2.2.2.1)
noncomputable def sampler_Radical.p0.lp : LProc := { inS := sampler_Radical.p0.inS, outs := sampler_Radical.p0.outs, F := fun x => loopF sampler_Radical.p0.step (sampler_Radical.p0.un x) }
noncomputable def sampler_Radical.F0 (a0 : Int) (a1 : Int) : Option (Int × Int) :=
  (bif decide (a0 < (2 : Int)) then some ((0 : Int), (1 : Int)) else ((loopF sampler_Radical.p0.step (a0, (a1.tmod (4294967296 : Int)), (0 : Int), (1 : Int))).bind fun y1 => some (y1.1, y1.2)))
noncomputable def sampler_Radical.F : Int → Int → Option (Int × Int) := lock sampler_Radical.F0
theorem sampler_Radical.F_eq : sampler_Radical.F = sampler_Radical.F0 := lock_eq _
noncomputable def sampler_Radical.p : Proc := { nargs := 2, inS := ⟨[(0, .lf (.sc (.int .u64))), (1, .lf (.sc (.int .u64)))], []⟩, outS := ⟨[(0, .lf (.sc (.int .u64))), (1, .lf (.sc (.int .u64)))], []⟩, n0 := 0, R := Int × Int, F := fun x => sampler_Radical.F x.1.1 x.1.2.1, post := fun r => ((r.1, (r.2, ())), ()), un := fun x => (x.1.1, x.1.2.1) }
noncomputable def sampler_Radical.E : Env := { P := Tryd.prog, ty := tyTab [], glob := glob0, proc := procTab [], lproc := lprocTab [(0, sampler_Radical.p0.lp)], n0 := 0, ntmps := 27 }
theorem sampler_Radical.ok : ProcsOk sampler_Radical.E := AllSound.ok (l := []) (by kernel_rfl) rfl trivial
noncomputable def sampler_Radical.body0 : Code := (match Tryd.f13.body with | some c => c | none => .skip)
noncomputable def sampler_Radical.p0.c : Code := ((codeAt sampler_Radical.body0 [.r, .r, .r, .l, .r, .b, .b]).getD .skip)
noncomputable def sampler_Radical.p0.ann : Ann := .z
set_option maxRecDepth 100000 in
theorem sampler_Radical.p0.eq (x : Tup sampler_Radical.p0.inS) : peRound sampler_Radical.E sampler_Radical.p0.c sampler_Radical.p0.ann _ sampler_Radical.p0.inS sampler_Radical.p0.un sampler_Radical.p0.outs x = sampler_Radical.p0.step (sampler_Radical.p0.un x) := by
  kernel_rfl
set_option maxRecDepth 100000 in
theorem sampler_Radical.p0.sound : LProcSound sampler_Radical.E (.loop sampler_Radical.p0.c) sampler_Radical.p0.lp :=
  loop_sound (ann := sampler_Radical.p0.ann) sampler_Radical.ok ((SubsOk_z _ _) : SubsOk sampler_Radical.E sampler_Radical.p0.c sampler_Radical.p0.ann) (by intro a ha; simp only [sampler_Radical.p0.outs, List.mem_cons, List.not_mem_nil, or_false] at ha; rcases ha with rfl <;> exact fun _ => rfl) sampler_Radical.p0.eq
noncomputable def sampler_Radical.ann : Ann := .s (.z) (.s (.z) (.s (.z) (.s (.s (.z) (.b (.sub 0))) (.z))))
set_option maxRecDepth 100000 in
theorem sampler_Radical.eq (x : Tup sampler_Radical.p.inS) : peFn sampler_Radical.E Tryd.f13 sampler_Radical.ann sampler_Radical.p x = sampler_Radical.p.F x := by
  have h : peFn sampler_Radical.E Tryd.f13 sampler_Radical.ann sampler_Radical.p x = sampler_Radical.F0 x.1.1 x.1.2.1 := by kernel_rfl
  exact h.trans (by show _ = sampler_Radical.F x.1.1 x.1.2.1; rw [sampler_Radical.F_eq])
set_option maxRecDepth 100000 in
theorem sampler_Radical.sound : ProcSound Tryd.prog glob0 13 sampler_Radical.p :=
  fn_sound (E := sampler_Radical.E) (c := sampler_Radical.body0) (ann := sampler_Radical.ann) sampler_Radical.ok Tryd.func13 (of_decide_eq_true (by kernel_rfl)) rfl rfl rfl (by decide +kernel) (⟨(SubsOk_z _ _), ⟨(SubsOk_z _ _), ⟨(SubsOk_z _ _), ⟨⟨(SubsOk_z _ _), (sub_of rfl sampler_Radical.p0.sound)⟩, (SubsOk_z _ _)⟩⟩⟩⟩ : SubsOk sampler_Radical.E sampler_Radical.body0 sampler_Radical.ann) (fun _ => rfl) rfl sampler_Radical.eq

/-! ### armplan/armplanref23.Radical: function 14 -/
noncomputable def armplanref23_Radical.p0.round (v0 : Int) (v1 : Int) (v2 : Int) (v3 : Int) : Option ((Int × Int × Int × Int) ⊕ ((Int × Int))) :=
  (bif decide (v1 > (0 : Int)) then (bif (v0 != 0) then (bif (v0 != 0) then some (.inl (v0, (IntKind.wrap .u64 (v1.tdiv v0)), (IntKind.wrap .u64 ((IntKind.wrap .u64 (v2 * v0)) + (v1.tmod v0))), (IntKind.wrap .u64 (v3 * v0)))) else none) else none) else some (.inr (v2, v3)))
noncomputable def armplanref23_Radical.p0.step (s : Int × Int × Int × Int) : Option ((Int × Int × Int × Int) ⊕ ((Int × Int))) := armplanref23_Radical.p0.round s.1 s.2.1 s.2.2.1 s.2.2.2
noncomputable def armplanref23_Radical.p0.inS : Shape := ⟨[(0, .lf (.sc (.int .u64))), (1, .lf (.sc (.int .u64))), (6, .lf (.sc (.int .u64))), (7, .lf (.sc (.int .u64)))], []⟩
noncomputable def armplanref23_Radical.p0.w0 : Way := { ex := (.ex 0), S := ⟨[(6, .lf (.sc (.int .u64))), (7, .lf (.sc (.int .u64)))], []⟩, R := Int × Int, post := fun r => ((r.1, (r.2, ())), ()), un := fun x => (x.1.1, x.1.2.1) }
noncomputable def armplanref23_Radical.p0.outs : List Way := [armplanref23_Radical.p0.w0]
noncomputable def armplanref23_Radical.p0.un (x : Tup armplanref23_Radical.p0.inS) : Int × Int × Int × Int := (x.1.1, x.1.2.1, x.1.2.2.1, x.1.2.2.2.1)
noncomputable def armplanref23_Radical.p0.lp : LProc := { inS := armplanref23_Radical.p0.inS, outs := armplanref23_Radical.p0.outs, F := fun x => loopF armplanref23_Radical.p0.step (armplanref23_Radical.p0.un x) }
noncomputable def armplanref23_Radical.F0 (a0 : Int) (a1 : Int) : Option (Int × Int) :=
  (bif decide (a0 < (2 : Int)) then some ((0 : Int), (1 : Int)) else ((loopF armplanref23_Radical.p0.step (a0, (a1.tmod (4294967296 : Int)), (0 : Int), (1 : Int))).bind fun y1 => some (y1.1, y1.2)))
noncomputable def armplanref23_Radical.F : Int → Int → Option (Int × Int) := lock armplanref23_Radical.F0
theorem armplanref23_Radical.F_eq : armplanref23_Radical.F = armplanref23_Radical.F0 := lock_eq _
noncomputable def armplanref23_Radical.p : Proc := { nargs := 2, inS := ⟨[(0, .lf (.sc (.int .u64))), (1, .lf (.sc (.int .u64)))], []⟩, outS := ⟨[(0, .lf (.sc (.int .u64))), (1, .lf (.sc (.int .u64)))], []⟩, n0 := 0, R := Int × Int, F := fun x => armplanref23_Radical.F x.1.1 x.1.2.1, post := fun r => ((r.1, (r.2, ())), ()), un := fun x => (x.1.1, x.1.2.1) }
noncomputable def armplanref23_Radical.E : Env := { P := Tryd.prog, ty := tyTab [], glob := glob0, proc := procTab [], lproc := lprocTab [(0, armplanref23_Radical.p0.lp)], n0 := 0, ntmps := 31 }
theorem armplanref23_Radical.ok : ProcsOk armplanref23_Radical.E := AllSound.ok (l := []) (by kernel_rfl) rfl trivial
noncomputable def armplanref23_Radical.body0 : Code := (match Tryd.f14.body with | some c => c | none => .skip)
noncomputable def armplanref23_Radical.p0.c : Code := ((codeAt armplanref23_Radical.body0 [.r, .r, .r, .l, .r, .b, .b]).getD .skip)
noncomputable def armplanref23_Radical.p0.ann : Ann := .z
set_option maxRecDepth 100000 in
theorem armplanref23_Radical.p0.eq (x : Tup armplanref23_Radical.p0.inS) : peRound armplanref23_Radical.E armplanref23_Radical.p0.c armplanref23_Radical.p0.ann _ armplanref23_Radical.p0.inS armplanref23_Radical.p0.un armplanref23_Radical.p0.outs x = armplanref23_Radical.p0.step (armplanref23_Radical.p0.un x) := by
  kernel_rfl
set_option maxRecDepth 100000 in
theorem armplanref23_Radical.p0.sound : LProcSound armplanref23_Radical.E (.loop armplanref23_Radical.p0.c) armplanref23_Radical.p0.lp :=
  loop_sound (ann := armplanref23_Radical.p0.ann) armplanref23_Radical.ok ((SubsOk_z _ _) : SubsOk armplanref23_Radical.E armplanref23_Radical.p0.c armplanref23_Radical.p0.ann) (by intro a ha; simp only [armplanref23_Radical.p0.outs, List.mem_cons, List.not_mem_nil, or_false] at ha; rcases ha with rfl <;> exact fun _ => rfl) armplanref23_Radical.p0.eq
noncomputable def armplanref23_Radical.ann : Ann := .s (.z) (.s (.z) (.s (.z) (.s (.s (.z) (.b (.sub 0))) (.z))))
set_option maxRecDepth 100000 in
theorem armplanref23_Radical.eq (x : Tup armplanref23_Radical.p.inS) : peFn armplanref23_Radical.E Tryd.f14 armplanref23_Radical.ann armplanref23_Radical.p x = armplanref23_Radical.p.F x := by
  have h : peFn armplanref23_Radical.E Tryd.f14 armplanref23_Radical.ann armplanref23_Radical.p x = armplanref23_Radical.F0 x.1.1 x.1.2.1 := by kernel_rfl
  exact h.trans (by show _ = armplanref23_Radical.F x.1.1 x.1.2.1; rw [armplanref23_Radical.F_eq])
set_option maxRecDepth 100000 in
theorem armplanref23_Radical.sound : ProcSound Tryd.prog glob0 14 armplanref23_Radical.p :=
  fn_sound (E := armplanref23_Radical.E) (c := armplanref23_Radical.body0) (ann := armplanref23_Radical.ann) armplanref23_Radical.ok Tryd.func14 (of_decide_eq_true (by kernel_rfl)) rfl rfl rfl (by decide +kernel) (⟨(SubsOk_z _ _), ⟨(SubsOk_z _ _), ⟨(SubsOk_z _ _), ⟨⟨(SubsOk_z _ _), (sub_of rfl armplanref23_Radical.p0.sound)⟩, (SubsOk_z _ _)⟩⟩⟩⟩ : SubsOk armplanref23_Radical.E armplanref23_Radical.body0 armplanref23_Radical.ann) (fun _ => rfl) rfl armplanref23_Radical.eq

/-! ### armplan/sampler.Prime: function 16 -/
noncomputable def sampler_Prime.F0 (a0 : Int) : Option (Int) :=
  (bif decide (a0 < (0 : Int)) then some (0 : Int) else (bif decide (a0 ≥ (10 : Int)) then some (0 : Int) else (bif decide (0 ≤ a0) then (bif decide (a0 < (10 : Int)) then some (([(2 : Int), (3 : Int), (5 : Int), (7 : Int), (11 : Int), (13 : Int), (17 : Int), (19 : Int), (23 : Int), (29 : Int)] : List Int).getD a0.toNat 0) else none) else none)))
noncomputable def sampler_Prime.F : Int → Option (Int) := lock sampler_Prime.F0
theorem sampler_Prime.F_eq : sampler_Prime.F = sampler_Prime.F0 := lock_eq _
noncomputable def sampler_Prime.p : Proc := { nargs := 1, inS := ⟨[(0, .lf (.sc (.int .i64)))], []⟩, outS := ⟨[(0, .lf (.sc (.int .u64)))], []⟩, n0 := 0, R := Int, F := fun x => sampler_Prime.F x.1.1, post := fun r => ((r, ()), ()), un := fun x => x.1.1 }
noncomputable def sampler_Prime.E : Env := { P := Tryd.prog, ty := tyTab [], glob := glob0, proc := procTab [], lproc := lprocTab [], n0 := 0, ntmps := 12 }
theorem sampler_Prime.ok : ProcsOk sampler_Prime.E := AllSound.ok (l := []) (by kernel_rfl) rfl trivial
noncomputable def sampler_Prime.body0 : Code := (match Tryd.f16.body with | some c => c | none => .skip)
noncomputable def sampler_Prime.ann : Ann := .z
set_option maxRecDepth 100000 in
theorem sampler_Prime.eq (x : Tup sampler_Prime.p.inS) : peFn sampler_Prime.E Tryd.f16 sampler_Prime.ann sampler_Prime.p x = sampler_Prime.p.F x := by
  have h : peFn sampler_Prime.E Tryd.f16 sampler_Prime.ann sampler_Prime.p x = sampler_Prime.F0 x.1.1 := by kernel_rfl
  exact h.trans (by show _ = sampler_Prime.F x.1.1; rw [sampler_Prime.F_eq])
set_option maxRecDepth 100000 in
theorem sampler_Prime.sound : ProcSound Tryd.prog glob0 16 sampler_Prime.p :=
  fn_sound (E := sampler_Prime.E) (c := sampler_Prime.body0) (ann := sampler_Prime.ann) sampler_Prime.ok Tryd.func16 (of_decide_eq_true (by kernel_rfl)) rfl rfl rfl (by decide +kernel) ((SubsOk_z _ _) : SubsOk sampler_Prime.E sampler_Prime.body0 sampler_Prime.ann) (fun _ => rfl) rfl sampler_Prime.eq

/-! ### armplan/armplanref23.Prime: function 17 -/
noncomputable def armplanref23_Prime.F0 (a0 : Int) : Option (Int) :=
  (bif decide (a0 < (0 : Int)) then some (0 : Int) else (bif decide (a0 ≥ (10 : Int)) then some (0 : Int) else (bif decide (0 ≤ a0) then (bif decide (a0 < (10 : Int)) then some (([(2 : Int), (3 : Int), (5 : Int), (7 : Int), (11 : Int), (13 : Int), (17 : Int), (19 : Int), (23 : Int), (29 : Int)] : List Int).getD a0.toNat 0) else none) else none)))
noncomputable def armplanref23_Prime.F : Int → Option (Int) := lock armplanref23_Prime.F0
theorem armplanref23_Prime.F_eq : armplanref23_Prime.F = armplanref23_Prime.F0 := lock_eq _
noncomputable def armplanref23_Prime.p : Proc := { nargs := 1, inS := ⟨[(0, .lf (.sc (.int .i64)))], []⟩, outS := ⟨[(0, .lf (.sc (.int .u64)))], []⟩, n0 := 0, R := Int, F := fun x => armplanref23_Prime.F x.1.1, post := fun r => ((r, ()), ()), un := fun x => x.1.1 }
noncomputable def armplanref23_Prime.E : Env := { P := Tryd.prog, ty := tyTab [], glob := glob0, proc := procTab [], lproc := lprocTab [], n0 := 0, ntmps := 12 }
theorem armplanref23_Prime.ok : ProcsOk armplanref23_Prime.E := AllSound.ok (l := []) (by kernel_rfl) rfl trivial
noncomputable def armplanref23_Prime.body0 : Code := (match Tryd.f17.body with | some c => c | none => .skip)
noncomputable def armplanref23_Prime.ann : Ann := .z
set_option maxRecDepth 100000 in
theorem armplanref23_Prime.eq (x : Tup armplanref23_Prime.p.inS) : peFn armplanref23_Prime.E Tryd.f17 armplanref23_Prime.ann armplanref23_Prime.p x = armplanref23_Prime.p.F x := by
  have h : peFn armplanref23_Prime.E Tryd.f17 armplanref23_Prime.ann armplanref23_Prime.p x = armplanref23_Prime.F0 x.1.1 := by kernel_rfl
  exact h.trans (by show _ = armplanref23_Prime.F x.1.1; rw [armplanref23_Prime.F_eq])
set_option maxRecDepth 100000 in
theorem armplanref23_Prime.sound : ProcSound Tryd.prog glob0 17 armplanref23_Prime.p :=
  fn_sound (E := armplanref23_Prime.E) (c := armplanref23_Prime.body0) (ann := armplanref23_Prime.ann) armplanref23_Prime.ok Tryd.func17 (of_decide_eq_true (by kernel_rfl)) rfl rfl rfl (by decide +kernel) ((SubsOk_z _ _) : SubsOk armplanref23_Prime.E armplanref23_Prime.body0 armplanref23_Prime.ann) (fun _ => rfl) rfl armplanref23_Prime.eq

/-! ### armplan/armplanmake.Round: function 18 -/
noncomputable def armplanmake_Round.F0 (a0 : Int) (a1 : Int) : Option (Int) :=
  (bif (a1 != 0) then (bif decide ((a0.tmod a1) < (0 : Int)) then some (IntKind.wrap .i64 ((a0.tmod a1) + a1)) else some (a0.tmod a1)) else none)
noncomputable def armplanmake_Round.F : Int → Int → Option (Int) := lock armplanmake_Round.F0
theorem armplanmake_Round.F_eq : armplanmake_Round.F = armplanmake_Round.F0 := lock_eq _
noncomputable def armplanmake_Round.p : Proc := { nargs := 2, inS := ⟨[(0, .lf (.sc (.int .i64))), (1, .lf (.sc (.int .i64)))], []⟩, outS := ⟨[(0, .lf (.sc (.int .i64)))], []⟩, n0 := 0, R := Int, F := fun x => armplanmake_Round.F x.1.1 x.1.2.1, post := fun r => ((r, ()), ()), un := fun x => x.1.1 }
noncomputable def armplanmake_Round.E : Env := { P := Tryd.prog, ty := tyTab [], glob := glob0, proc := procTab [], lproc := lprocTab [], n0 := 0, ntmps := 15 }
theorem armplanmake_Round.ok : ProcsOk armplanmake_Round.E := AllSound.ok (l := []) (by kernel_rfl) rfl trivial
noncomputable def armplanmake_Round.body0 : Code := (match Tryd.f18.body with | some c => c | none => .skip)
noncomputable def armplanmake_Round.ann : Ann := .z
set_option maxRecDepth 100000 in
theorem armplanmake_Round.eq (x : Tup armplanmake_Round.p.inS) : peFn armplanmake_Round.E Tryd.f18 armplanmake_Round.ann armplanmake_Round.p x = armplanmake_Round.p.F x := by
  have h : peFn armplanmake_Round.E Tryd.f18 armplanmake_Round.ann armplanmake_Round.p x = armplanmake_Round.F0 x.1.1 x.1.2.1 := by kernel_rfl
  exact h.trans (by show _ = armplanmake_Round.F x.1.1 x.1.2.1; rw [armplanmake_Round.F_eq])
set_option maxRecDepth 100000 in
theorem armplanmake_Round.sound : ProcSound Tryd.prog glob0 18 armplanmake_Round.p :=
  fn_sound (E := armplanmake_Round.E) (c := armplanmake_Round.body0) (ann := armplanmake_Round.ann) armplanmake_Round.ok Tryd.func18 (of_decide_eq_true (by kernel_rfl)) rfl rfl rfl (by decide +kernel) ((SubsOk_z _ _) : SubsOk armplanmake_Round.E armplanmake_Round.body0 armplanmake_Round.ann) (fun _ => rfl) rfl armplanmake_Round.eq

/-! ### armplan/armplanlaw23.power: function 19 -/
noncomputable def armplanlaw23_power.p0.round (v0 : Int) (v1 : Int) (v2 : Int) : Option ((Int × Int × Int) ⊕ ((Int))) :=
  (bif decide (v1 > (0 : Int)) then some (.inl (v0, (IntKind.wrap .i64 (v1 - (1 : Int))), (IntKind.wrap .u64 (v2 * v0)))) else some (.inr v2))
noncomputable def armplanlaw23_power.p0.step (s : Int × Int × Int) : Option ((Int × Int × Int) ⊕ ((Int))) := armplanlaw23_power.p0.round s.1 s.2.1 s.2.2
noncomputable def armplanlaw23_power.p0.inS : Shape := ⟨[(0, .lf (.sc (.int .u64))), (1, .lf (.sc (.int .i64))), (5, .lf (.sc (.int .u64)))], []⟩
noncomputable def armplanlaw23_power.p0.w0 : Way := { ex := (.ex 0), S := ⟨[(5, .lf (.sc (.int .u64)))], []⟩, R := Int, post := fun r => ((r, ()), ()), un := fun x => x.1.1 }
noncomputable def armplanlaw23_power.p0.outs : List Way := [armplanlaw23_power.p0.w0]
noncomputable def armplanlaw23_power.p0.un (x : Tup armplanlaw23_power.p0.inS) : Int × Int × Int := (x.1.1, x.1.2.1, x.1.2.2.1)
noncomputable def armplanlaw23_power.p0.lp : LProc := { inS := armplanlaw23_power.p0.inS, outs := armplanlaw23_power.p0.outs, F := fun x => loopF armplanlaw23_power.p0.step (armplanlaw23_power.p0.un x) }
noncomputable def armplanlaw23_power.F0 (a0 : Int) (a1 : Int) : Option (Int) :=
  ((loopF armplanlaw23_power.p0.step (a0, a1, (1 : Int))).bind fun y1 => some y1)
noncomputable def armplanlaw23_power.F : Int → Int → Option (Int) := lock armplanlaw23_power.F0
theorem armplanlaw23_power.F_eq : armplanlaw23_power.F = armplanlaw23_power.F0 := lock_eq _
noncomputable def armplanlaw23_power.p : Proc := { nargs := 2, inS := ⟨[(0, .lf (.sc (.int .u64))), (1, .lf (.sc (.int .i64)))], []⟩, outS := ⟨[(0, .lf (.sc (.int .u64)))], []⟩, n0 := 0, R := Int, F := fun x => armplanlaw23_power.F x.1.1 x.1.2.1, post := fun r => ((r, ()), ()), un := fun x => x.1.1 }
noncomputable def armplanlaw23_power.E : Env := { P := Tryd.prog, ty := tyTab [], glob := glob0, proc := procTab [], lproc := lprocTab [(0, armplanlaw23_power.p0.lp)], n0 := 0, ntmps := 14 }
theorem armplanlaw23_power.ok : ProcsOk armplanlaw23_power.E := AllSound.ok (l := []) (by kernel_rfl) rfl trivial
noncomputable def armplanlaw23_power.body0 : Code := (match Tryd.f19.body with | some c => c | none => .skip)
noncomputable def armplanlaw23_power.p0.c : Code := ((codeAt armplanlaw23_power.body0 [.r, .r, .l, .b, .b]).getD .skip)
noncomputable def armplanlaw23_power.p0.ann : Ann := .z
set_option maxRecDepth 100000 in
theorem armplanlaw23_power.p0.eq (x : Tup armplanlaw23_power.p0.inS) : peRound armplanlaw23_power.E armplanlaw23_power.p0.c armplanlaw23_power.p0.ann _ armplanlaw23_power.p0.inS armplanlaw23_power.p0.un armplanlaw23_power.p0.outs x = armplanlaw23_power.p0.step (armplanlaw23_power.p0.un x) := by
  kernel_rfl
set_option maxRecDepth 100000 in
theorem armplanlaw23_power.p0.sound : LProcSound armplanlaw23_power.E (.loop armplanlaw23_power.p0.c) armplanlaw23_power.p0.lp :=
  loop_sound (ann := armplanlaw23_power.p0.ann) armplanlaw23_power.ok ((SubsOk_z _ _) : SubsOk armplanlaw23_power.E armplanlaw23_power.p0.c armplanlaw23_power.p0.ann) (by intro a ha; simp only [armplanlaw23_power.p0.outs, List.mem_cons, List.not_mem_nil, or_false] at ha; rcases ha with rfl <;> exact fun _ => rfl) armplanlaw23_power.p0.eq
noncomputable def armplanlaw23_power.ann : Ann := .s (.z) (.s (.z) (.s (.b (.sub 0)) (.z)))
set_option maxRecDepth 100000 in
theorem armplanlaw23_power.eq (x : Tup armplanlaw23_power.p.inS) : peFn armplanlaw23_power.E Tryd.f19 armplanlaw23_power.ann armplanlaw23_power.p x = armplanlaw23_power.p.F x := by
  have h : peFn armplanlaw23_power.E Tryd.f19 armplanlaw23_power.ann armplanlaw23_power.p x = armplanlaw23_power.F0 x.1.1 x.1.2.1 := by kernel_rfl
  exact h.trans (by show _ = armplanlaw23_power.F x.1.1 x.1.2.1; rw [armplanlaw23_power.F_eq])
set_option maxRecDepth 100000 in
theorem armplanlaw23_power.sound : ProcSound Tryd.prog glob0 19 armplanlaw23_power.p :=
  fn_sound (E := armplanlaw23_power.E) (c := armplanlaw23_power.body0) (ann := armplanlaw23_power.ann) armplanlaw23_power.ok Tryd.func19 (of_decide_eq_true (by kernel_rfl)) rfl rfl rfl (by decide +kernel) (⟨(SubsOk_z _ _), ⟨(SubsOk_z _ _), ⟨(sub_of rfl armplanlaw23_power.p0.sound), (SubsOk_z _ _)⟩⟩⟩ : SubsOk armplanlaw23_power.E armplanlaw23_power.body0 armplanlaw23_power.ann) (fun _ => rfl) rfl armplanlaw23_power.eq

/-! ### armplan/sampler.Word: function 27 -/
noncomputable def sampler_Word.F0 (a0 : Int) (a1 : Int) : Option (Int) :=
  some (ibits .xor .u64 (IntKind.wrap .u64 ((ibits .xor .u64 (IntKind.wrap .u64 ((ibits .xor .u64 (IntKind.wrap .u64 (a0 + (IntKind.wrap .u64 ((IntKind.wrap .u64 (a1 + (1 : Int))) * (11400714819323198485 : Int))))) (shrI .u64 (IntKind.wrap .u64 (a0 + (IntKind.wrap .u64 ((IntKind.wrap .u64 (a1 + (1 : Int))) * (11400714819323198485 : Int))))) (30 : Int))) * (13787848793156543929 : Int))) (shrI .u64 (IntKind.wrap .u64 ((ibits .xor .u64 (IntKind.wrap .u64 (a0 + (IntKind.wrap .u64 ((IntKind.wrap .u64 (a1 + (1 : Int))) * (11400714819323198485 : Int))))) (shrI .u64 (IntKind.wrap .u64 (a0 + (IntKind.wrap .u64 ((IntKind.wrap .u64 (a1 + (1 : Int))) * (11400714819323198485 : Int))))) (30 : Int))) * (13787848793156543929 : Int))) (27 : Int))) * (10723151780598845931 : Int))) (shrI .u64 (IntKind.wrap .u64 ((ibits .xor .u64 (IntKind.wrap .u64 ((ibits .xor .u64 (IntKind.wrap .u64 (a0 + (IntKind.wrap .u64 ((IntKind.wrap .u64 (a1 + (1 : Int))) * (11400714819323198485 : Int))))) (shrI .u64 (IntKind.wrap .u64 (a0 + (IntKind.wrap .u64 ((IntKind.wrap .u64 (a1 + (1 : Int))) * (11400714819323198485 : Int))))) (30 : Int))) * (13787848793156543929 : Int))) (shrI .u64 (IntKind.wrap .u64 ((ibits .xor .u64 (IntKind.wrap .u64 (a0 + (IntKind.wrap .u64 ((IntKind.wrap .u64 (a1 + (1 : Int))) * (11400714819323198485 : Int))))) (shrI .u64 (IntKind.wrap .u64 (a0 + (IntKind.wrap .u64 ((IntKind.wrap .u64 (a1 + (1 : Int))) * (11400714819323198485 : Int))))) (30 : Int))) * (13787848793156543929 : Int))) (27 : Int))) * (10723151780598845931 : Int))) (31 : Int)))
noncomputable def sampler_Word.F : Int → Int → Option (Int) := lock sampler_Word.F0
theorem sampler_Word.F_eq : sampler_Word.F = sampler_Word.F0 := lock_eq _
noncomputable def sampler_Word.p : Proc := { nargs := 2, inS := ⟨[(0, .lf (.sc (.int .u64))), (1, .lf (.sc (.int .u64)))], []⟩, outS := ⟨[(0, .lf (.sc (.int .u64)))], []⟩, n0 := 0, R := Int, F := fun x => sampler_Word.F x.1.1 x.1.2.1, post := fun r => ((r, ()), ()), un := fun x => x.1.1 }
noncomputable def sampler_Word.E : Env := { P := Tryd.prog, ty := tyTab [], glob := glob0, proc := procTab [], lproc := lprocTab [], n0 := 0, ntmps := 25 }
theorem sampler_Word.ok : ProcsOk sampler_Word.E := AllSound.ok (l := []) (by kernel_rfl) rfl trivial
noncomputable def sampler_Word.body0 : Code := (match Tryd.f27.body with | some c => c | none => .skip)
noncomputable def sampler_Word.ann : Ann := .z
set_option maxRecDepth 100000 in
theorem sampler_Word.eq (x : Tup sampler_Word.p.inS) : peFn sampler_Word.E Tryd.f27 sampler_Word.ann sampler_Word.p x = sampler_Word.p.F x := by
  have h : peFn sampler_Word.E Tryd.f27 sampler_Word.ann sampler_Word.p x = sampler_Word.F0 x.1.1 x.1.2.1 := by kernel_rfl
  exact h.trans (by show _ = sampler_Word.F x.1.1 x.1.2.1; rw [sampler_Word.F_eq])
set_option maxRecDepth 100000 in
theorem sampler_Word.sound : ProcSound Tryd.prog glob0 27 sampler_Word.p :=
  fn_sound (E := sampler_Word.E) (c := sampler_Word.body0) (ann := sampler_Word.ann) sampler_Word.ok Tryd.func27 (of_decide_eq_true (by kernel_rfl)) rfl rfl rfl (by decide +kernel) ((SubsOk_z _ _) : SubsOk sampler_Word.E sampler_Word.body0 sampler_Word.ann) (fun _ => rfl) rfl sampler_Word.eq

/-! ### armplan/armplanref23.Word: function 28 -/
noncomputable def armplanref23_Word.F0 (a0 : Int) (a1 : Int) : Option (Int) :=
  some (ibits .xor .u64 (IntKind.wrap .u64 ((ibits .xor .u64 (IntKind.wrap .u64 ((ibits .xor .u64 (IntKind.wrap .u64 (a0 + (IntKind.wrap .u64 ((IntKind.wrap .u64 (a1 + (1 : Int))) * (11400714819323198485 : Int))))) (shrI .u64 (IntKind.wrap .u64 (a0 + (IntKind.wrap .u64 ((IntKind.wrap .u64 (a1 + (1 : Int))) * (11400714819323198485 : Int))))) (30 : Int))) * (13787848793156543929 : Int))) (shrI .u64 (IntKind.wrap .u64 ((ibits .xor .u64 (IntKind.wrap .u64 (a0 + (IntKind.wrap .u64 ((IntKind.wrap .u64 (a1 + (1 : Int))) * (11400714819323198485 : Int))))) (shrI .u64 (IntKind.wrap .u64 (a0 + (IntKind.wrap .u64 ((IntKind.wrap .u64 (a1 + (1 : Int))) * (11400714819323198485 : Int))))) (30 : Int))) * (13787848793156543929 : Int))) (27 : Int))) * (10723151780598845931 : Int))) (shrI .u64 (IntKind.wrap .u64 ((ibits .xor .u64 (IntKind.wrap .u64 ((ibits .xor .u64 (IntKind.wrap .u64 (a0 + (IntKind.wrap .u64 ((IntKind.wrap .u64 (a1 + (1 : Int))) * (11400714819323198485 : Int))))) (shrI .u64 (IntKind.wrap .u64 (a0 + (IntKind.wrap .u64 ((IntKind.wrap .u64 (a1 + (1 : Int))) * (11400714819323198485 : Int))))) (30 : Int))) * (13787848793156543929 : Int))) (shrI .u64 (IntKind.wrap .u64 ((ibits .xor .u64 (IntKind.wrap .u64 (a0 + (IntKind.wrap .u64 ((IntKind.wrap .u64 (a1 + (1 : Int))) * (11400714819323198485 : Int))))) (shrI .u64 (IntKind.wrap .u64 (a0 + (IntKind.wrap .u64 ((IntKind.wrap .u64 (a1 + (1 : Int))) * (11400714819323198485 : Int))))) (30 : Int))) * (13787848793156543929 : Int))) (27 : Int))) * (10723151780598845931 : Int))) (31 : Int)))
noncomputable def armplanref23_Word.F : Int → Int → Option (Int) := lock armplanref23_Word.F0
theorem armplanref23_Word.F_eq : armplanref23_Word.F = armplanref23_Word.F0 := lock_eq _
noncomputable def armplanref23_Word.p : Proc := { nargs := 2, inS := ⟨[(0, .lf (.sc (.int .u64))), (1, .lf (.sc (.int .u64)))], []⟩, outS := ⟨[(0, .lf (.sc (.int .u64)))], []⟩, n0 := 0, R := Int, F := fun x => armplanref23_Word.F x.1.1 x.1.2.1, post := fun r => ((r, ()), ()), un := fun x => x.1.1 }
noncomputable def armplanref23_Word.E : Env := { P := Tryd.prog, ty := tyTab [], glob := glob0, proc := procTab [], lproc := lprocTab [], n0 := 0, ntmps := 25 }
theorem armplanref23_Word.ok : ProcsOk armplanref23_Word.E := AllSound.ok (l := []) (by kernel_rfl) rfl trivial
noncomputable def armplanref23_Word.body0 : Code := (match Tryd.f28.body with | some c => c | none => .skip)
noncomputable def armplanref23_Word.ann : Ann := .z
set_option maxRecDepth 100000 in
theorem armplanref23_Word.eq (x : Tup armplanref23_Word.p.inS) : peFn armplanref23_Word.E Tryd.f28 armplanref23_Word.ann armplanref23_Word.p x = armplanref23_Word.p.F x := by
  have h : peFn armplanref23_Word.E Tryd.f28 armplanref23_Word.ann armplanref23_Word.p x = armplanref23_Word.F0 x.1.1 x.1.2.1 := by kernel_rfl
  exact h.trans (by show _ = armplanref23_Word.F x.1.1 x.1.2.1; rw [armplanref23_Word.F_eq])
set_option maxRecDepth 100000 in
theorem armplanref23_Word.sound : ProcSound Tryd.prog glob0 28 armplanref23_Word.p :=
  fn_sound (E := armplanref23_Word.E) (c := armplanref23_Word.body0) (ann := armplanref23_Word.ann) armplanref23_Word.ok Tryd.func28 (of_decide_eq_true (by kernel_rfl)) rfl rfl rfl (by decide +kernel) ((SubsOk_z _ _) : SubsOk armplanref23_Word.E armplanref23_Word.body0 armplanref23_Word.ann) (fun _ => rfl) rfl armplanref23_Word.eq

/-! ### armplan/armplanmake.From: function 33 -/
noncomputable def armplanmake_From.F0 (a0 : List (Int)) : Option (List (Int) × Int) :=
  some (a0, (0 : Int))
noncomputable def armplanmake_From.F : (List (Int)) → Option (List (Int) × Int) := lock armplanmake_From.F0
theorem armplanmake_From.F_eq : armplanmake_From.F = armplanmake_From.F0 := lock_eq _
noncomputable def armplanmake_From.p : Proc := { nargs := 1, inS := ⟨[(0, .lf (.dat (.int .i64)))], []⟩, outS := ⟨[(0, .lf (.bp 0 0))], [.box [.dat (.int .i64), .sc (.int .i64)]]⟩, n0 := 0, R := List (Int) × Int, F := fun x => armplanmake_From.F x.1.1, post := fun r => (((), ()), ((r.1, (r.2, ())), ())), un := fun x => (x.2.1.1, x.2.1.2.1) }
noncomputable def armplanmake_From.E : Env := { P := Tryd.prog, ty := tyTab [], glob := glob0, proc := procTab [], lproc := lprocTab [], n0 := 0, ntmps := 6 }
theorem armplanmake_From.ok : ProcsOk armplanmake_From.E := AllSound.ok (l := []) (by kernel_rfl) rfl trivial
noncomputable def armplanmake_From.body0 : Code := (match Tryd.f33.body with | some c => c | none => .skip)
noncomputable def armplanmake_From.ann : Ann := .z
set_option maxRecDepth 100000 in
theorem armplanmake_From.eq (x : Tup armplanmake_From.p.inS) : peFn armplanmake_From.E Tryd.f33 armplanmake_From.ann armplanmake_From.p x = armplanmake_From.p.F x := by
  have h : peFn armplanmake_From.E Tryd.f33 armplanmake_From.ann armplanmake_From.p x = armplanmake_From.F0 x.1.1 := by kernel_rfl
  exact h.trans (by show _ = armplanmake_From.F x.1.1; rw [armplanmake_From.F_eq])
set_option maxRecDepth 100000 in
theorem armplanmake_From.sound : ProcSound Tryd.prog glob0 33 armplanmake_From.p :=
  fn_sound (E := armplanmake_From.E) (c := armplanmake_From.body0) (ann := armplanmake_From.ann) armplanmake_From.ok Tryd.func33 (of_decide_eq_true (by kernel_rfl)) rfl rfl rfl (by decide +kernel) ((SubsOk_z _ _) : SubsOk armplanmake_From.E armplanmake_From.body0 armplanmake_From.ann) (fun _ => rfl) rfl armplanmake_From.eq

/-! ### armplan/armplanref1.Clamp: function 35 -/
noncomputable def armplanref1_Clamp.F0 (a0 : Int) : Option (Int) :=
  some (bif decide ((bif decide ((2147483648 : Int) < a0) then (2147483648 : Int) else a0) > (-2147483648 : Int)) then (bif decide ((2147483648 : Int) < a0) then (2147483648 : Int) else a0) else (-2147483648 : Int))
noncomputable def armplanref1_Clamp.F : Int → Option (Int) := lock armplanref1_Clamp.F0
theorem armplanref1_Clamp.F_eq : armplanref1_Clamp.F = armplanref1_Clamp.F0 := lock_eq _
noncomputable def armplanref1_Clamp.p : Proc := { nargs := 1, inS := ⟨[(0, .lf (.sc (.int .i64)))], []⟩, outS := ⟨[(0, .lf (.sc (.int .i64)))], []⟩, n0 := 0, R := Int, F := fun x => armplanref1_Clamp.F x.1.1, post := fun r => ((r, ()), ()), un := fun x => x.1.1 }
noncomputable def armplanref1_Clamp.E : Env := { P := Tryd.prog, ty := tyTab [], glob := glob0, proc := procTab [], lproc := lprocTab [], n0 := 0, ntmps := 6 }
theorem armplanref1_Clamp.ok : ProcsOk armplanref1_Clamp.E := AllSound.ok (l := []) (by kernel_rfl) rfl trivial
noncomputable def armplanref1_Clamp.body0 : Code := (match Tryd.f35.body with | some c => c | none => .skip)
noncomputable def armplanref1_Clamp.ann : Ann := .z
set_option maxRecDepth 100000 in
theorem armplanref1_Clamp.eq (x : Tup armplanref1_Clamp.p.inS) : peFn armplanref1_Clamp.E Tryd.f35 armplanref1_Clamp.ann armplanref1_Clamp.p x = armplanref1_Clamp.p.F x := by
  have h : peFn armplanref1_Clamp.E Tryd.f35 armplanref1_Clamp.ann armplanref1_Clamp.p x = armplanref1_Clamp.F0 x.1.1 := by kernel_rfl
  exact h.trans (by show _ = armplanref1_Clamp.F x.1.1; rw [armplanref1_Clamp.F_eq])
set_option maxRecDepth 100000 in
theorem armplanref1_Clamp.sound : ProcSound Tryd.prog glob0 35 armplanref1_Clamp.p :=
  fn_sound (E := armplanref1_Clamp.E) (c := armplanref1_Clamp.body0) (ann := armplanref1_Clamp.ann) armplanref1_Clamp.ok Tryd.func35 (of_decide_eq_true (by kernel_rfl)) rfl rfl rfl (by decide +kernel) ((SubsOk_z _ _) : SubsOk armplanref1_Clamp.E armplanref1_Clamp.body0 armplanref1_Clamp.ann) (fun _ => rfl) rfl armplanref1_Clamp.eq

/-! ### math/bits.Mul64: function 36 -/
noncomputable def bits_Mul64.F0 (a0 : Int) (a1 : Int) : Option (Int × Int) :=
  some ((IntKind.wrap .u64 ((IntKind.wrap .u64 ((IntKind.wrap .u64 ((shrI .u64 a0 (32 : Int)) * (shrI .u64 a1 (32 : Int)))) + (shrI .u64 (IntKind.wrap .u64 ((IntKind.wrap .u64 ((shrI .u64 a0 (32 : Int)) * (ibits .and .u64 a1 (4294967295 : Int)))) + (shrI .u64 (IntKind.wrap .u64 ((ibits .and .u64 a0 (4294967295 : Int)) * (ibits .and .u64 a1 (4294967295 : Int)))) (32 : Int)))) (32 : Int)))) + (shrI .u64 (IntKind.wrap .u64 ((ibits .and .u64 (IntKind.wrap .u64 ((IntKind.wrap .u64 ((shrI .u64 a0 (32 : Int)) * (ibits .and .u64 a1 (4294967295 : Int)))) + (shrI .u64 (IntKind.wrap .u64 ((ibits .and .u64 a0 (4294967295 : Int)) * (ibits .and .u64 a1 (4294967295 : Int)))) (32 : Int)))) (4294967295 : Int)) + (IntKind.wrap .u64 ((ibits .and .u64 a0 (4294967295 : Int)) * (shrI .u64 a1 (32 : Int)))))) (32 : Int)))), (IntKind.wrap .u64 (a0 * a1)))
noncomputable def bits_Mul64.F : Int → Int → Option (Int × Int) := lock bits_Mul64.F0
theorem bits_Mul64.F_eq : bits_Mul64.F = bits_Mul64.F0 := lock_eq _
noncomputable def bits_Mul64.p : Proc := { nargs := 2, inS := ⟨[(0, .lf (.sc (.int .u64))), (1, .lf (.sc (.int .u64)))], []⟩, outS := ⟨[(0, .lf (.sc (.int .u64))), (1, .lf (.sc (.int .u64)))], []⟩, n0 := 0, R := Int × Int, F := fun x => bits_Mul64.F x.1.1 x.1.2.1, post := fun r => ((r.1, (r.2, ())), ()), un := fun x => (x.1.1, x.1.2.1) }
noncomputable def bits_Mul64.E : Env := { P := Tryd.prog, ty := tyTab [], glob := glob0, proc := procTab [], lproc := lprocTab [], n0 := 0, ntmps := 51 }
theorem bits_Mul64.ok : ProcsOk bits_Mul64.E := AllSound.ok (l := []) (by kernel_rfl) rfl trivial
noncomputable def bits_Mul64.body0 : Code := (match Tryd.f36.body with | some c => c | none => .skip)
noncomputable def bits_Mul64.ann : Ann := .z
set_option maxRecDepth 100000 in
theorem bits_Mul64.eq (x : Tup bits_Mul64.p.inS) : peFn bits_Mul64.E Tryd.f36 bits_Mul64.ann bits_Mul64.p x = bits_Mul64.p.F x := by
  have h : peFn bits_Mul64.E Tryd.f36 bits_Mul64.ann bits_Mul64.p x = bits_Mul64.F0 x.1.1 x.1.2.1 := by kernel_rfl
  exact h.trans (by show _ = bits_Mul64.F x.1.1 x.1.2.1; rw [bits_Mul64.F_eq])
set_option maxRecDepth 100000 in
theorem bits_Mul64.sound : ProcSound Tryd.prog glob0 36 bits_Mul64.p :=
  fn_sound (E := bits_Mul64.E) (c := bits_Mul64.body0) (ann := bits_Mul64.ann) bits_Mul64.ok Tryd.func36 (of_decide_eq_true (by kernel_rfl)) rfl rfl rfl (by decide +kernel) ((SubsOk_z _ _) : SubsOk bits_Mul64.E bits_Mul64.body0 bits_Mul64.ann) (fun _ => rfl) rfl bits_Mul64.eq

/-! ### armplan/sampler.count: function 37 -/
noncomputable def sampler_count.F0 (a0 : Int) (a1 : Int) : Option (Int) :=
  (bif decide (a0 < (-2147483648 : Int)) then some (0 : Int) else (bif decide (a1 > (2147483648 : Int)) then some (0 : Int) else (bif decide (a1 < a0) then some (0 : Int) else some (IntKind.wrap .u64 ((IntKind.wrap .u64 (IntKind.wrap .i64 (a1 - a0))) + (1 : Int))))))
noncomputable def sampler_count.F : Int → Int → Option (Int) := lock sampler_count.F0
theorem sampler_count.F_eq : sampler_count.F = sampler_count.F0 := lock_eq _
noncomputable def sampler_count.p : Proc := { nargs := 2, inS := ⟨[(0, .lf (.sc (.int .i64))), (1, .lf (.sc (.int .i64)))], []⟩, outS := ⟨[(0, .lf (.sc (.int .u64)))], []⟩, n0 := 0, R := Int, F := fun x => sampler_count.F x.1.1 x.1.2.1, post := fun r => ((r, ()), ()), un := fun x => x.1.1 }
noncomputable def sampler_count.E : Env := { P := Tryd.prog, ty := tyTab [], glob := glob0, proc := procTab [], lproc := lprocTab [], n0 := 0, ntmps := 21 }
theorem sampler_count.ok : ProcsOk sampler_count.E := AllSound.ok (l := []) (by kernel_rfl) rfl trivial
noncomputable def sampler_count.body0 : Code := (match Tryd.f37.body with | some c => c | none => .skip)
noncomputable def sampler_count.ann : Ann := .z
set_option maxRecDepth 100000 in
theorem sampler_count.eq (x : Tup sampler_count.p.inS) : peFn sampler_count.E Tryd.f37 sampler_count.ann sampler_count.p x = sampler_count.p.F x := by
  have h : peFn sampler_count.E Tryd.f37 sampler_count.ann sampler_count.p x = sampler_count.F0 x.1.1 x.1.2.1 := by kernel_rfl
  exact h.trans (by show _ = sampler_count.F x.1.1 x.1.2.1; rw [sampler_count.F_eq])
set_option maxRecDepth 100000 in
theorem sampler_count.sound : ProcSound Tryd.prog glob0 37 sampler_count.p :=
  fn_sound (E := sampler_count.E) (c := sampler_count.body0) (ann := sampler_count.ann) sampler_count.ok Tryd.func37 (of_decide_eq_true (by kernel_rfl)) rfl rfl rfl (by decide +kernel) ((SubsOk_z _ _) : SubsOk sampler_count.E sampler_count.body0 sampler_count.ann) (fun _ => rfl) rfl sampler_count.eq

/-! ### armplan/armplanmake.Same[int64]: function 40 -/
noncomputable def armplanmake_Same.p0.round (v0 : List (Int)) (v1 : List (Int)) (v2 : Int) : Option ((List (Int) × List (Int) × Int) ⊕ ((Bool) ⊕ (Unit))) :=
  (bif decide (v2 < (v0.length : Int)) then (bif decide (0 ≤ v2) then (bif decide (v2 < (v0.length : Int)) then (bif decide (0 ≤ v2) then (bif decide (v2 < (v1.length : Int)) then (bif ((v0.getD v2.toNat (0 : Int)) != (v1.getD v2.toNat (0 : Int))) then some (.inr (.inl false)) else some (.inl (v0, v1, (IntKind.wrap .i64 (v2 + (1 : Int)))))) else none) else none) else none) else none) else some (.inr (.inr ())))
noncomputable def armplanmake_Same.p0.step (s : List (Int) × List (Int) × Int) : Option ((List (Int) × List (Int) × Int) ⊕ ((Bool) ⊕ (Unit))) := armplanmake_Same.p0.round s.1 s.2.1 s.2.2
noncomputable def armplanmake_Same.p0.inS : Shape := ⟨[(0, .lf (.dat (.int .i64))), (1, .lf (.dat (.int .i64))), (5, .lf (.sc (.int .i64)))], []⟩
noncomputable def armplanmake_Same.p0.w0 : Way := { ex := .rt, S := ⟨[(4, .lf (.sc .bool))], []⟩, R := Bool, post := fun r => ((r, ()), ()), un := fun x => x.1.1 }
noncomputable def armplanmake_Same.p0.w1 : Way := { ex := (.ex 0), S := ⟨[], []⟩, R := Unit, post := fun r => ((), ()), un := fun x => () }
noncomputable def armplanmake_Same.p0.outs : List Way := [armplanmake_Same.p0.w0, armplanmake_Same.p0.w1]
noncomputable def armplanmake_Same.p0.un (x : Tup armplanmake_Same.p0.inS) : List (Int) × List (Int) × Int := (x.1.1, x.1.2.1, x.1.2.2.1)
noncomputable def armplanmake_Same.p0.lp : LProc := { inS := armplanmake_Same.p0.inS, outs := armplanmake_Same.p0.outs, F := fun x => loopF armplanmake_Same.p0.step (armplanmake_Same.p0.un x) }
noncomputable def armplanmake_Same.F0 (a0 : List (Int)) (a1 : List (Int)) : Option (Bool) :=
  (bif ((a0.length : Int) != (a1.length : Int)) then some false else ((loopF armplanmake_Same.p0.step (a0, a1, (0 : Int))).bind fun y1 => (Sum.elim (fun y2 => some y2) (fun z3 => some true) y1)))
noncomputable def armplanmake_Same.F : (List (Int)) → (List (Int)) → Option (Bool) := lock armplanmake_Same.F0
theorem armplanmake_Same.F_eq : armplanmake_Same.F = armplanmake_Same.F0 := lock_eq _
noncomputable def armplanmake_Same.p : Proc := { nargs := 2, inS := ⟨[(0, .lf (.dat (.int .i64))), (1, .lf (.dat (.int .i64)))], []⟩, outS := ⟨[(0, .lf (.sc .bool))], []⟩, n0 := 0, R := Bool, F := fun x => armplanmake_Same.F x.1.1 x.1.2.1, post := fun r => ((r, ()), ()), un := fun x => x.1.1 }
noncomputable def armplanmake_Same.E : Env := { P := Tryd.prog, ty := tyTab [], glob := glob0, proc := procTab [], lproc := lprocTab [(0, armplanmake_Same.p0.lp)], n0 := 0, ntmps := 26 }
theorem armplanmake_Same.ok : ProcsOk armplanmake_Same.E := AllSound.ok (l := []) (by kernel_rfl) rfl trivial
noncomputable def armplanmake_Same.body0 : Code := (match Tryd.f40.body with | some c => c | none => .skip)
noncomputable def armplanmake_Same.p0.c : Code := ((codeAt armplanmake_Same.body0 [.r, .r, .l, .r, .b, .b]).getD .skip)
noncomputable def armplanmake_Same.p0.ann : Ann := .z
set_option maxRecDepth 100000 in
theorem armplanmake_Same.p0.eq (x : Tup armplanmake_Same.p0.inS) : peRound armplanmake_Same.E armplanmake_Same.p0.c armplanmake_Same.p0.ann _ armplanmake_Same.p0.inS armplanmake_Same.p0.un armplanmake_Same.p0.outs x = armplanmake_Same.p0.step (armplanmake_Same.p0.un x) := by
  kernel_rfl
set_option maxRecDepth 100000 in
theorem armplanmake_Same.p0.sound : LProcSound armplanmake_Same.E (.loop armplanmake_Same.p0.c) armplanmake_Same.p0.lp :=
  loop_sound (ann := armplanmake_Same.p0.ann) armplanmake_Same.ok ((SubsOk_z _ _) : SubsOk armplanmake_Same.E armplanmake_Same.p0.c armplanmake_Same.p0.ann) (by intro a ha; simp only [armplanmake_Same.p0.outs, List.mem_cons, List.not_mem_nil, or_false] at ha; rcases ha with rfl | rfl <;> exact fun _ => rfl) armplanmake_Same.p0.eq
noncomputable def armplanmake_Same.ann : Ann := .s (.z) (.s (.z) (.s (.s (.z) (.b (.sub 0))) (.z)))
set_option maxRecDepth 100000 in
theorem armplanmake_Same.eq (x : Tup armplanmake_Same.p.inS) : peFn armplanmake_Same.E Tryd.f40 armplanmake_Same.ann armplanmake_Same.p x = armplanmake_Same.p.F x := by
  have h : peFn armplanmake_Same.E Tryd.f40 armplanmake_Same.ann armplanmake_Same.p x = armplanmake_Same.F0 x.1.1 x.1.2.1 := by kernel_rfl
  exact h.trans (by show _ = armplanmake_Same.F x.1.1 x.1.2.1; rw [armplanmake_Same.F_eq])
set_option maxRecDepth 100000 in
theorem armplanmake_Same.sound : ProcSound Tryd.prog glob0 40 armplanmake_Same.p :=
  fn_sound (E := armplanmake_Same.E) (c := armplanmake_Same.body0) (ann := armplanmake_Same.ann) armplanmake_Same.ok Tryd.func40 (of_decide_eq_true (by kernel_rfl)) rfl rfl rfl (by decide +kernel) (⟨(SubsOk_z _ _), ⟨(SubsOk_z _ _), ⟨⟨(SubsOk_z _ _), (sub_of rfl armplanmake_Same.p0.sound)⟩, (SubsOk_z _ _)⟩⟩⟩ : SubsOk armplanmake_Same.E armplanmake_Same.body0 armplanmake_Same.ann) (fun _ => rfl) rfl armplanmake_Same.eq

/-! ### (*armplan/armplanmake.Source).Next: function 45 -/
noncomputable def armplanmake_Source_Next.F0 (a0 : Int) (a1 : List (Int)) (a2 : Int) : Option (Int × List (Int) × Int) :=
  (bif decide (a2 ≥ (a1.length : Int)) then some ((0 : Int), a1, a2) else (bif decide (0 ≤ (IntKind.wrap .i64 ((IntKind.wrap .i64 (a2 + (1 : Int))) - (1 : Int)))) then (bif decide ((IntKind.wrap .i64 ((IntKind.wrap .i64 (a2 + (1 : Int))) - (1 : Int))) < (a1.length : Int)) then ((armplanmake_Round.F (a1.getD (IntKind.wrap .i64 ((IntKind.wrap .i64 (a2 + (1 : Int))) - (1 : Int))).toNat (0 : Int)) a0).bind fun r1 => some (r1, a1, (IntKind.wrap .i64 (a2 + (1 : Int))))) else none) else none))
noncomputable def armplanmake_Source_Next.F : Int → (List (Int)) → Int → Option (Int × List (Int) × Int) := lock armplanmake_Source_Next.F0
theorem armplanmake_Source_Next.F_eq : armplanmake_Source_Next.F = armplanmake_Source_Next.F0 := lock_eq _
noncomputable def armplanmake_Source_Next.p : Proc := { nargs := 2, inS := ⟨[(0, .lf (.bp 0 0)), (1, .lf (.sc (.int .i64)))], [.box [.dat (.int .i64), .sc (.int .i64)]]⟩, outS := ⟨[(0, .lf (.sc (.int .i64)))], [.box [.dat (.int .i64), .sc (.int .i64)]]⟩, n0 := 1, R := Int × List (Int) × Int, F := fun x => armplanmake_Source_Next.F x.1.2.1 x.2.1.1 x.2.1.2.1, post := fun r => ((r.1, ()), ((r.2.1, (r.2.2, ())), ())), un := fun x => (x.1.1, x.2.1.1, x.2.1.2.1) }
noncomputable def armplanmake_Source_Next.E : Env := { P := Tryd.prog, ty := tyTab [], glob := glob0, proc := procTab [(18, armplanmake_Round.p)], lproc := lprocTab [], n0 := 1, ntmps := 35 }
theorem armplanmake_Source_Next.ok : ProcsOk armplanmake_Source_Next.E := AllSound.ok (l := [(18, armplanmake_Round.p)]) (by kernel_rfl) rfl ⟨armplanmake_Round.sound, trivial⟩
noncomputable def armplanmake_Source_Next.body0 : Code := (match Tryd.f45.body with | some c => c | none => .skip)
noncomputable def armplanmake_Source_Next.ann : Ann := .z
set_option maxRecDepth 100000 in
theorem armplanmake_Source_Next.eq (x : Tup armplanmake_Source_Next.p.inS) : peFn armplanmake_Source_Next.E Tryd.f45 armplanmake_Source_Next.ann armplanmake_Source_Next.p x = armplanmake_Source_Next.p.F x := by
  have h : peFn armplanmake_Source_Next.E Tryd.f45 armplanmake_Source_Next.ann armplanmake_Source_Next.p x = armplanmake_Source_Next.F0 x.1.2.1 x.2.1.1 x.2.1.2.1 := by kernel_rfl
  exact h.trans (by show _ = armplanmake_Source_Next.F x.1.2.1 x.2.1.1 x.2.1.2.1; rw [armplanmake_Source_Next.F_eq])
set_option maxRecDepth 100000 in
theorem armplanmake_Source_Next.sound : ProcSound Tryd.prog glob0 45 armplanmake_Source_Next.p :=
  fn_sound (E := armplanmake_Source_Next.E) (c := armplanmake_Source_Next.body0) (ann := armplanmake_Source_Next.ann) armplanmake_Source_Next.ok Tryd.func45 (of_decide_eq_true (by kernel_rfl)) rfl rfl rfl (by decide +kernel) ((SubsOk_z _ _) : SubsOk armplanmake_Source_Next.E armplanmake_Source_Next.body0 armplanmake_Source_Next.ann) (fun _ => rfl) rfl armplanmake_Source_Next.eq

/-! ### (*armplan/armplanmake.Source).Signed: function 46 -/
noncomputable def armplanmake_Source_Signed.F0 (a0 : Int) (a1 : List (Int)) (a2 : Int) : Option (Int × List (Int) × Int) :=
  ((armplanmake_Source_Next.F (IntKind.wrap .i64 ((IntKind.wrap .i64 ((2 : Int) * a0)) + (1 : Int))) a1 a2).bind fun r1 => some ((IntKind.wrap .i64 (r1.1 - a0)), r1.2.1, r1.2.2))
noncomputable def armplanmake_Source_Signed.F : Int → (List (Int)) → Int → Option (Int × List (Int) × Int) := lock armplanmake_Source_Signed.F0
theorem armplanmake_Source_Signed.F_eq : armplanmake_Source_Signed.F = armplanmake_Source_Signed.F0 := lock_eq _
noncomputable def armplanmake_Source_Signed.p : Proc := { nargs := 2, inS := ⟨[(0, .lf (.bp 0 0)), (1, .lf (.sc (.int .i64)))], [.box [.dat (.int .i64), .sc (.int .i64)]]⟩, outS := ⟨[(0, .lf (.sc (.int .i64)))], [.box [.dat (.int .i64), .sc (.int .i64)]]⟩, n0 := 1, R := Int × List (Int) × Int, F := fun x => armplanmake_Source_Signed.F x.1.2.1 x.2.1.1 x.2.1.2.1, post := fun r => ((r.1, ()), ((r.2.1, (r.2.2, ())), ())), un := fun x => (x.1.1, x.2.1.1, x.2.1.2.1) }
noncomputable def armplanmake_Source_Signed.E : Env := { P := Tryd.prog, ty := tyTab [], glob := glob0, proc := procTab [(45, armplanmake_Source_Next.p)], lproc := lprocTab [], n0 := 1, ntmps := 12 }
theorem armplanmake_Source_Signed.ok : ProcsOk armplanmake_Source_Signed.E := AllSound.ok (l := [(45, armplanmake_Source_Next.p)]) (by kernel_rfl) rfl ⟨armplanmake_Source_Next.sound, trivial⟩
noncomputable def armplanmake_Source_Signed.body0 : Code := (match Tryd.f46.body with | some c => c | none => .skip)
noncomputable def armplanmake_Source_Signed.ann : Ann := .z
set_option maxRecDepth 100000 in
theorem armplanmake_Source_Signed.eq (x : Tup armplanmake_Source_Signed.p.inS) : peFn armplanmake_Source_Signed.E Tryd.f46 armplanmake_Source_Signed.ann armplanmake_Source_Signed.p x = armplanmake_Source_Signed.p.F x := by
  have h : peFn armplanmake_Source_Signed.E Tryd.f46 armplanmake_Source_Signed.ann armplanmake_Source_Signed.p x = armplanmake_Source_Signed.F0 x.1.2.1 x.2.1.1 x.2.1.2.1 := by kernel_rfl
  exact h.trans (by show _ = armplanmake_Source_Signed.F x.1.2.1 x.2.1.1 x.2.1.2.1; rw [armplanmake_Source_Signed.F_eq])
set_option maxRecDepth 100000 in
theorem armplanmake_Source_Signed.sound : ProcSound Tryd.prog glob0 46 armplanmake_Source_Signed.p :=
  fn_sound (E := armplanmake_Source_Signed.E) (c := armplanmake_Source_Signed.body0) (ann := armplanmake_Source_Signed.ann) armplanmake_Source_Signed.ok Tryd.func46 (of_decide_eq_true (by kernel_rfl)) rfl rfl rfl (by decide +kernel) ((SubsOk_z _ _) : SubsOk armplanmake_Source_Signed.E armplanmake_Source_Signed.body0 armplanmake_Source_Signed.ann) (fun _ => rfl) rfl armplanmake_Source_Signed.eq

/-! ### armplan/interval.Valid: function 47 -/
noncomputable def interval_Valid.F0 (a0 : Int) (a1 : Int) : Option (Bool) :=
  (bif decide (a0 ≥ (-2147483648 : Int)) then (bif decide (a0 ≤ a1) then some (decide (a1 ≤ (2147483648 : Int))) else some false) else some false)
noncomputable def interval_Valid.F : Int → Int → Option (Bool) := lock interval_Valid.F0
theorem interval_Valid.F_eq : interval_Valid.F = interval_Valid.F0 := lock_eq _
noncomputable def interval_Valid.p : Proc := { nargs := 1, inS := ⟨[(0, .ag [.sc (.int .i64), .sc (.int .i64)])], []⟩, outS := ⟨[(0, .lf (.sc .bool))], []⟩, n0 := 0, R := Bool, F := fun x => interval_Valid.F x.1.1.1 x.1.1.2.1, post := fun r => ((r, ()), ()), un := fun x => x.1.1 }
noncomputable def interval_Valid.E : Env := { P := Tryd.prog, ty := tyTab [], glob := glob0, proc := procTab [], lproc := lprocTab [], n0 := 0, ntmps := 18 }
theorem interval_Valid.ok : ProcsOk interval_Valid.E := AllSound.ok (l := []) (by kernel_rfl) rfl trivial
noncomputable def interval_Valid.body0 : Code := (match Tryd.f47.body with | some c => c | none => .skip)
noncomputable def interval_Valid.ann : Ann := .z
set_option maxRecDepth 100000 in
theorem interval_Valid.eq (x : Tup interval_Valid.p.inS) : peFn interval_Valid.E Tryd.f47 interval_Valid.ann interval_Valid.p x = interval_Valid.p.F x := by
  have h : peFn interval_Valid.E Tryd.f47 interval_Valid.ann interval_Valid.p x = interval_Valid.F0 x.1.1.1 x.1.1.2.1 := by kernel_rfl
  exact h.trans (by show _ = interval_Valid.F x.1.1.1 x.1.1.2.1; rw [interval_Valid.F_eq])
set_option maxRecDepth 100000 in
theorem interval_Valid.sound : ProcSound Tryd.prog glob0 47 interval_Valid.p :=
  fn_sound (E := interval_Valid.E) (c := interval_Valid.body0) (ann := interval_Valid.ann) interval_Valid.ok Tryd.func47 (of_decide_eq_true (by kernel_rfl)) rfl rfl rfl (by decide +kernel) ((SubsOk_z _ _) : SubsOk interval_Valid.E interval_Valid.body0 interval_Valid.ann) (fun _ => rfl) rfl interval_Valid.eq

/-! ### armplan/armplanref1.Valid: function 48 -/
noncomputable def armplanref1_Valid.F0 (a0 : Int) (a1 : Int) : Option (Bool) :=
  (bif decide ((-2147483648 : Int) ≤ a0) then (bif decide (a0 ≤ a1) then some (decide (a1 ≤ (2147483648 : Int))) else some false) else some false)
noncomputable def armplanref1_Valid.F : Int → Int → Option (Bool) := lock armplanref1_Valid.F0
theorem armplanref1_Valid.F_eq : armplanref1_Valid.F = armplanref1_Valid.F0 := lock_eq _
noncomputable def armplanref1_Valid.p : Proc := { nargs := 1, inS := ⟨[(0, .ag [.sc (.int .i64), .sc (.int .i64)])], []⟩, outS := ⟨[(0, .lf (.sc .bool))], []⟩, n0 := 0, R := Bool, F := fun x => armplanref1_Valid.F x.1.1.1 x.1.1.2.1, post := fun r => ((r, ()), ()), un := fun x => x.1.1 }
noncomputable def armplanref1_Valid.E : Env := { P := Tryd.prog, ty := tyTab [], glob := glob0, proc := procTab [], lproc := lprocTab [], n0 := 0, ntmps := 18 }
theorem armplanref1_Valid.ok : ProcsOk armplanref1_Valid.E := AllSound.ok (l := []) (by kernel_rfl) rfl trivial
noncomputable def armplanref1_Valid.body0 : Code := (match Tryd.f48.body with | some c => c | none => .skip)
noncomputable def armplanref1_Valid.ann : Ann := .z
set_option maxRecDepth 100000 in
theorem armplanref1_Valid.eq (x : Tup armplanref1_Valid.p.inS) : peFn armplanref1_Valid.E Tryd.f48 armplanref1_Valid.ann armplanref1_Valid.p x = armplanref1_Valid.p.F x := by
  have h : peFn armplanref1_Valid.E Tryd.f48 armplanref1_Valid.ann armplanref1_Valid.p x = armplanref1_Valid.F0 x.1.1.1 x.1.1.2.1 := by kernel_rfl
  exact h.trans (by show _ = armplanref1_Valid.F x.1.1.1 x.1.1.2.1; rw [armplanref1_Valid.F_eq])
set_option maxRecDepth 100000 in
theorem armplanref1_Valid.sound : ProcSound Tryd.prog glob0 48 armplanref1_Valid.p :=
  fn_sound (E := armplanref1_Valid.E) (c := armplanref1_Valid.body0) (ann := armplanref1_Valid.ann) armplanref1_Valid.ok Tryd.func48 (of_decide_eq_true (by kernel_rfl)) rfl rfl rfl (by decide +kernel) ((SubsOk_z _ _) : SubsOk armplanref1_Valid.E armplanref1_Valid.body0 armplanref1_Valid.ann) (fun _ => rfl) rfl armplanref1_Valid.eq

/-! ### armplan/armplanref23.sampled: function 50 -/
noncomputable def armplanref23_sampled.p0.round (v0 : List ((Int × Int))) (v1 : Int) : Option ((List ((Int × Int)) × Int) ⊕ ((Bool) ⊕ (Unit))) :=
  (bif decide (v1 < (v0.length : Int)) then (bif decide (0 ≤ v1) then (bif decide (v1 < (v0.length : Int)) then ((armplanref1_Valid.F (v0.getD v1.toNat ((0 : Int), (0 : Int))).1 (v0.getD v1.toNat ((0 : Int), (0 : Int))).2).bind fun r2 => (bif (!r2) then some (.inr (.inl false)) else some (.inl (v0, (IntKind.wrap .i64 (v1 + (1 : Int))))))) else none) else none) else some (.inr (.inr ())))
noncomputable def armplanref23_sampled.p0.step (s : List ((Int × Int)) × Int) : Option ((List ((Int × Int)) × Int) ⊕ ((Bool) ⊕ (Unit))) := armplanref23_sampled.p0.round s.1 s.2
noncomputable def armplanref23_sampled.p0.inS : Shape := ⟨[(0, .lf (.dat (.pair (.int .i64) (.int .i64)))), (3, .lf (.sc (.int .i64)))], []⟩
noncomputable def armplanref23_sampled.p0.w0 : Way := { ex := .rt, S := ⟨[(2, .lf (.sc .bool))], []⟩, R := Bool, post := fun r => ((r, ()), ()), un := fun x => x.1.1 }
noncomputable def armplanref23_sampled.p0.w1 : Way := { ex := (.ex 0), S := ⟨[], []⟩, R := Unit, post := fun r => ((), ()), un := fun x => () }
noncomputable def armplanref23_sampled.p0.outs : List Way := [armplanref23_sampled.p0.w0, armplanref23_sampled.p0.w1]
noncomputable def armplanref23_sampled.p0.un (x : Tup armplanref23_sampled.p0.inS) : List ((Int × Int)) × Int := (x.1.1, x.1.2.1)
noncomputable def armplanref23_sampled.p0.lp : LProc := { inS := armplanref23_sampled.p0.inS, outs := armplanref23_sampled.p0.outs, F := fun x => loopF armplanref23_sampled.p0.step (armplanref23_sampled.p0.un x) }
noncomputable def armplanref23_sampled.F0 (a0 : List ((Int × Int))) : Option (Bool) :=
  (bif decide ((a0.length : Int) < (1 : Int)) then some false else (bif decide ((a0.length : Int) > (10 : Int)) then some false else ((loopF armplanref23_sampled.p0.step (a0, (0 : Int))).bind fun y3 => (Sum.elim (fun y4 => some y4) (fun z5 => some true) y3))))
noncomputable def armplanref23_sampled.F : (List ((Int × Int))) → Option (Bool) := lock armplanref23_sampled.F0
theorem armplanref23_sampled.F_eq : armplanref23_sampled.F = armplanref23_sampled.F0 := lock_eq _
noncomputable def armplanref23_sampled.p : Proc := { nargs := 1, inS := ⟨[(0, .lf (.dat (.pair (.int .i64) (.int .i64))))], []⟩, outS := ⟨[(0, .lf (.sc .bool))], []⟩, n0 := 0, R := Bool, F := fun x => armplanref23_sampled.F x.1.1, post := fun r => ((r, ()), ()), un := fun x => x.1.1 }
noncomputable def armplanref23_sampled.E : Env := { P := Tryd.prog, ty := tyTab [], glob := glob0, proc := procTab [(48, armplanref1_Valid.p)], lproc := lprocTab [(0, armplanref23_sampled.p0.lp)], n0 := 0, ntmps := 24 }
theorem armplanref23_sampled.ok : ProcsOk armplanref23_sampled.E := AllSound.ok (l := [(48, armplanref1_Valid.p)]) (by kernel_rfl) rfl ⟨armplanref1_Valid.sound, trivial⟩
noncomputable def armplanref23_sampled.body0 : Code := (match Tryd.f50.body with | some c => c | none => .skip)
noncomputable def armplanref23_sampled.p0.c : Code := ((codeAt armplanref23_sampled.body0 [.r, .r, .l, .r, .b, .b]).getD .skip)
noncomputable def armplanref23_sampled.p0.ann : Ann := .z
set_option maxRecDepth 100000 in
theorem armplanref23_sampled.p0.eq (x : Tup armplanref23_sampled.p0.inS) : peRound armplanref23_sampled.E armplanref23_sampled.p0.c armplanref23_sampled.p0.ann _ armplanref23_sampled.p0.inS armplanref23_sampled.p0.un armplanref23_sampled.p0.outs x = armplanref23_sampled.p0.step (armplanref23_sampled.p0.un x) := by
  kernel_rfl
set_option maxRecDepth 100000 in
theorem armplanref23_sampled.p0.sound : LProcSound armplanref23_sampled.E (.loop armplanref23_sampled.p0.c) armplanref23_sampled.p0.lp :=
  loop_sound (ann := armplanref23_sampled.p0.ann) armplanref23_sampled.ok ((SubsOk_z _ _) : SubsOk armplanref23_sampled.E armplanref23_sampled.p0.c armplanref23_sampled.p0.ann) (by intro a ha; simp only [armplanref23_sampled.p0.outs, List.mem_cons, List.not_mem_nil, or_false] at ha; rcases ha with rfl | rfl <;> exact fun _ => rfl) armplanref23_sampled.p0.eq
noncomputable def armplanref23_sampled.ann : Ann := .s (.z) (.s (.z) (.s (.s (.z) (.b (.sub 0))) (.z)))
set_option maxRecDepth 100000 in
theorem armplanref23_sampled.eq (x : Tup armplanref23_sampled.p.inS) : peFn armplanref23_sampled.E Tryd.f50 armplanref23_sampled.ann armplanref23_sampled.p x = armplanref23_sampled.p.F x := by
  have h : peFn armplanref23_sampled.E Tryd.f50 armplanref23_sampled.ann armplanref23_sampled.p x = armplanref23_sampled.F0 x.1.1 := by kernel_rfl
  exact h.trans (by show _ = armplanref23_sampled.F x.1.1; rw [armplanref23_sampled.F_eq])
set_option maxRecDepth 100000 in
theorem armplanref23_sampled.sound : ProcSound Tryd.prog glob0 50 armplanref23_sampled.p :=
  fn_sound (E := armplanref23_sampled.E) (c := armplanref23_sampled.body0) (ann := armplanref23_sampled.ann) armplanref23_sampled.ok Tryd.func50 (of_decide_eq_true (by kernel_rfl)) rfl rfl rfl (by decide +kernel) (⟨(SubsOk_z _ _), ⟨(SubsOk_z _ _), ⟨⟨(SubsOk_z _ _), (sub_of rfl armplanref23_sampled.p0.sound)⟩, (SubsOk_z _ _)⟩⟩⟩ : SubsOk armplanref23_sampled.E armplanref23_sampled.body0 armplanref23_sampled.ann) (fun _ => rfl) rfl armplanref23_sampled.eq

/-! ### math/bits.Len64: function 51 -/
noncomputable def bits_Len64.F0 (a0 : Int) : Option (Int) :=
  (bif decide (a0 ≥ (4294967296 : Int)) then (bif decide ((shrI .u64 a0 (32 : Int)) ≥ (65536 : Int)) then (bif decide ((shrI .u64 (shrI .u64 a0 (32 : Int)) (16 : Int)) ≥ (256 : Int)) then (bif decide (0 ≤ (IntKind.wrap .u8 (shrI .u64 (shrI .u64 (shrI .u64 a0 (32 : Int)) (16 : Int)) (8 : Int)))) then (bif decide ((IntKind.wrap .u8 (shrI .u64 (shrI .u64 (shrI .u64 a0 (32 : Int)) (16 : Int)) (8 : Int))) < ((⟨#[0, 1, 2, 2, 3, 3, 3, 3, 4, 4, 4, 4, 4, 4, 4, 4, 5, 5, 5, 5, 5, 5, 5, 5, 5, 5, 5, 5, 5, 5, 5, 5, 6, 6, 6, 6, 6, 6, 6, 6, 6, 6, 6, 6, 6, 6, 6, 6, 6, 6, 6, 6, 6, 6, 6, 6, 6, 6, 6, 6, 6, 6, 6, 6, 7, 7, 7, 7, 7, 7, 7, 7, 7, 7, 7, 7, 7, 7, 7, 7, 7, 7, 7, 7, 7, 7, 7, 7, 7, 7, 7, 7, 7, 7, 7, 7, 7, 7, 7, 7, 7, 7, 7, 7, 7, 7, 7, 7, 7, 7, 7, 7, 7, 7, 7, 7, 7, 7, 7, 7, 7, 7, 7, 7, 7, 7, 7, 7, 8, 8, 8, 8, 8, 8, 8, 8, 8, 8, 8, 8, 8, 8, 8, 8, 8, 8, 8, 8, 8, 8, 8, 8, 8, 8, 8, 8, 8, 8, 8, 8, 8, 8, 8, 8, 8, 8, 8, 8, 8, 8, 8, 8, 8, 8, 8, 8, 8, 8, 8, 8, 8, 8, 8, 8, 8, 8, 8, 8, 8, 8, 8, 8, 8, 8, 8, 8, 8, 8, 8, 8, 8, 8, 8, 8, 8, 8, 8, 8, 8, 8, 8, 8, 8, 8, 8, 8, 8, 8, 8, 8, 8, 8, 8, 8, 8, 8, 8, 8, 8, 8, 8, 8, 8, 8, 8, 8, 8, 8, 8, 8, 8, 8, 8, 8, 8, 8, 8, 8, 8, 8, 8, 8, 8, 8, 8, 8]⟩ : ByteArray).size : Int)) then some (IntKind.wrap .i64 ((56 : Int) + (IntKind.wrap .i64 (btI (⟨#[0, 1, 2, 2, 3, 3, 3, 3, 4, 4, 4, 4, 4, 4, 4, 4, 5, 5, 5, 5, 5, 5, 5, 5, 5, 5, 5, 5, 5, 5, 5, 5, 6, 6, 6, 6, 6, 6, 6, 6, 6, 6, 6, 6, 6, 6, 6, 6, 6, 6, 6, 6, 6, 6, 6, 6, 6, 6, 6, 6, 6, 6, 6, 6, 7, 7, 7, 7, 7, 7, 7, 7, 7, 7, 7, 7, 7, 7, 7, 7, 7, 7, 7, 7, 7, 7, 7, 7, 7, 7, 7, 7, 7, 7, 7, 7, 7, 7, 7, 7, 7, 7, 7, 7, 7, 7, 7, 7, 7, 7, 7, 7, 7, 7, 7, 7, 7, 7, 7, 7, 7, 7, 7, 7, 7, 7, 7, 7, 8, 8, 8, 8, 8, 8, 8, 8, 8, 8, 8, 8, 8, 8, 8, 8, 8, 8, 8, 8, 8, 8, 8, 8, 8, 8, 8, 8, 8, 8, 8, 8, 8, 8, 8, 8, 8, 8, 8, 8, 8, 8, 8, 8, 8, 8, 8, 8, 8, 8, 8, 8, 8, 8, 8, 8, 8, 8, 8, 8, 8, 8, 8, 8, 8, 8, 8, 8, 8, 8, 8, 8, 8, 8, 8, 8, 8, 8, 8, 8, 8, 8, 8, 8, 8, 8, 8, 8, 8, 8, 8, 8, 8, 8, 8, 8, 8, 8, 8, 8, 8, 8, 8, 8, 8, 8, 8, 8, 8, 8, 8, 8, 8, 8, 8, 8, 8, 8, 8, 8, 8, 8, 8, 8, 8, 8, 8, 8]⟩ : ByteArray) (IntKind.wrap .u8 (shrI .u64 (shrI .u64 (shrI .u64 a0 (32 : Int)) (16 : Int)) (8 : Int))))))) else none) else none) else (bif decide (0 ≤ (IntKind.wrap .u8 (shrI .u64 (shrI .u64 a0 (32 : Int)) (16 : Int)))) then (bif decide ((IntKind.wrap .u8 (shrI .u64 (shrI .u64 a0 (32 : Int)) (16 : Int))) < ((⟨#[0, 1, 2, 2, 3, 3, 3, 3, 4, 4, 4, 4, 4, 4, 4, 4, 5, 5, 5, 5, 5, 5, 5, 5, 5, 5, 5, 5, 5, 5, 5, 5, 6, 6, 6, 6, 6, 6, 6, 6, 6, 6, 6, 6, 6, 6, 6, 6, 6, 6, 6, 6, 6, 6, 6, 6, 6, 6, 6, 6, 6, 6, 6, 6, 7, 7, 7, 7, 7, 7, 7, 7, 7, 7, 7, 7, 7, 7, 7, 7, 7, 7, 7, 7, 7, 7, 7, 7, 7, 7, 7, 7, 7, 7, 7, 7, 7, 7, 7, 7, 7, 7, 7, 7, 7, 7, 7, 7, 7, 7, 7, 7, 7, 7, 7, 7, 7, 7, 7, 7, 7, 7, 7, 7, 7, 7, 7, 7, 8, 8, 8, 8, 8, 8, 8, 8, 8, 8, 8, 8, 8, 8, 8, 8, 8, 8, 8, 8, 8, 8, 8, 8, 8, 8, 8, 8, 8, 8, 8, 8, 8, 8, 8, 8, 8, 8, 8, 8, 8, 8, 8, 8, 8, 8, 8, 8, 8, 8, 8, 8, 8, 8, 8, 8, 8, 8, 8, 8, 8, 8, 8, 8, 8, 8, 8, 8, 8, 8, 8, 8, 8, 8, 8, 8, 8, 8, 8, 8, 8, 8, 8, 8, 8, 8, 8, 8, 8, 8, 8, 8, 8, 8, 8, 8, 8, 8, 8, 8, 8, 8, 8, 8, 8, 8, 8, 8, 8, 8, 8, 8, 8, 8, 8, 8, 8, 8, 8, 8, 8, 8, 8, 8, 8, 8, 8, 8]⟩ : ByteArray).size : Int)) then some (IntKind.wrap .i64 ((48 : Int) + (IntKind.wrap .i64 (btI (⟨#[0, 1, 2, 2, 3, 3, 3, 3, 4, 4, 4, 4, 4, 4, 4, 4, 5, 5, 5, 5, 5, 5, 5, 5, 5, 5, 5, 5, 5, 5, 5, 5, 6, 6, 6, 6, 6, 6, 6, 6, 6, 6, 6, 6, 6, 6, 6, 6, 6, 6, 6, 6, 6, 6, 6, 6, 6, 6, 6, 6, 6, 6, 6, 6, 7, 7, 7, 7, 7, 7, 7, 7, 7, 7, 7, 7, 7, 7, 7, 7, 7, 7, 7, 7, 7, 7, 7, 7, 7, 7, 7, 7, 7, 7, 7, 7, 7, 7, 7, 7, 7, 7, 7, 7, 7, 7, 7, 7, 7, 7, 7, 7, 7, 7, 7, 7, 7, 7, 7, 7, 7, 7, 7, 7, 7, 7, 7, 7, 8, 8, 8, 8, 8, 8, 8, 8, 8, 8, 8, 8, 8, 8, 8, 8, 8, 8, 8, 8, 8, 8, 8, 8, 8, 8, 8, 8, 8, 8, 8, 8, 8, 8, 8, 8, 8, 8, 8, 8, 8, 8, 8, 8, 8, 8, 8, 8, 8, 8, 8, 8, 8, 8, 8, 8, 8, 8, 8, 8, 8, 8, 8, 8, 8, 8, 8, 8, 8, 8, 8, 8, 8, 8, 8, 8, 8, 8, 8, 8, 8, 8, 8, 8, 8, 8, 8, 8, 8, 8, 8, 8, 8, 8, 8, 8, 8, 8, 8, 8, 8, 8, 8, 8, 8, 8, 8, 8, 8, 8, 8, 8, 8, 8, 8, 8, 8, 8, 8, 8, 8, 8, 8, 8, 8, 8, 8, 8]⟩ : ByteArray) (IntKind.wrap .u8 (shrI .u64 (shrI .u64 a0 (32 : Int)) (16 : Int))))))) else none) else none)) else (bif decide ((shrI .u64 a0 (32 : Int)) ≥ (256 : Int)) then (bif decide (0 ≤ (IntKind.wrap .u8 (shrI .u64 (shrI .u64 a0 (32 : Int)) (8 : Int)))) then (bif decide ((IntKind.wrap .u8 (shrI .u64 (shrI .u64 a0 (32 : Int)) (8 : Int))) < ((⟨#[0, 1, 2, 2, 3, 3, 3, 3, 4, 4, 4, 4, 4, 4, 4, 4, 5, 5, 5, 5, 5, 5, 5, 5, 5, 5, 5, 5, 5, 5, 5, 5, 6, 6, 6, 6, 6, 6, 6, 6, 6, 6, 6, 6, 6, 6, 6, 6, 6, 6, 6, 6, 6, 6, 6, 6, 6, 6, 6, 6, 6, 6, 6, 6, 7, 7, 7, 7, 7, 7, 7, 7, 7, 7, 7, 7, 7, 7, 7, 7, 7, 7, 7, 7, 7, 7, 7, 7, 7, 7, 7, 7, 7, 7, 7, 7, 7, 7, 7, 7, 7, 7, 7, 7, 7, 7, 7, 7, 7, 7, 7, 7, 7, 7, 7, 7, 7, 7, 7, 7, 7, 7, 7, 7, 7, 7, 7, 7, 8, 8, 8, 8, 8, 8, 8, 8, 8, 8, 8, 8, 8, 8, 8, 8, 8, 8, 8, 8, 8, 8, 8, 8, 8, 8, 8, 8, 8, 8, 8, 8, 8, 8, 8, 8, 8, 8, 8, 8, 8, 8, 8, 8, 8, 8, 8, 8, 8, 8, 8, 8, 8, 8, 8, 8, 8, 8, 8, 8, 8, 8, 8, 8, 8, 8, 8, 8, 8, 8, 8, 8, 8, 8, 8, 8, 8, 8, 8, 8, 8, 8, 8, 8, 8, 8, 8, 8, 8, 8, 8, 8, 8, 8, 8, 8, 8, 8, 8, 8, 8, 8, 8, 8, 8, 8, 8, 8, 8, 8, 8, 8, 8, 8, 8, 8, 8, 8, 8, 8, 8, 8, 8, 8, 8, 8, 8, 8]⟩ : ByteArray).size : Int)) then some (IntKind.wrap .i64 ((40 : Int) + (IntKind.wrap .i64 (btI (⟨#[0, 1, 2, 2, 3, 3, 3, 3, 4, 4, 4, 4, 4, 4, 4, 4, 5, 5, 5, 5, 5, 5, 5, 5, 5, 5, 5, 5, 5, 5, 5, 5, 6, 6, 6, 6, 6, 6, 6, 6, 6, 6, 6, 6, 6, 6, 6, 6, 6, 6, 6, 6, 6, 6, 6, 6, 6, 6, 6, 6, 6, 6, 6, 6, 7, 7, 7, 7, 7, 7, 7, 7, 7, 7, 7, 7, 7, 7, 7, 7, 7, 7, 7, 7, 7, 7, 7, 7, 7, 7, 7, 7, 7, 7, 7, 7, 7, 7, 7, 7, 7, 7, 7, 7, 7, 7, 7, 7, 7, 7, 7, 7, 7, 7, 7, 7, 7, 7, 7, 7, 7, 7, 7, 7, 7, 7, 7, 7, 8, 8, 8, 8, 8, 8, 8, 8, 8, 8, 8, 8, 8, 8, 8, 8, 8, 8, 8, 8, 8, 8, 8, 8, 8, 8, 8, 8, 8, 8, 8, 8, 8, 8, 8, 8, 8, 8, 8, 8, 8, 8, 8, 8, 8, 8, 8, 8, 8, 8, 8, 8, 8, 8, 8, 8, 8, 8, 8, 8, 8, 8, 8, 8, 8, 8, 8, 8, 8, 8, 8, 8, 8, 8, 8, 8, 8, 8, 8, 8, 8, 8, 8, 8, 8, 8, 8, 8, 8, 8, 8, 8, 8, 8, 8, 8, 8, 8, 8, 8, 8, 8, 8, 8, 8, 8, 8, 8, 8, 8, 8, 8, 8, 8, 8, 8, 8, 8, 8, 8, 8, 8, 8, 8, 8, 8, 8, 8]⟩ : ByteArray) (IntKind.wrap .u8 (shrI .u64 (shrI .u64 a0 (32 : Int)) (8 : Int))))))) else none) else none) else (bif decide (0 ≤ (IntKind.wrap .u8 (shrI .u64 a0 (32 : Int)))) then (bif decide ((IntKind.wrap .u8 (shrI .u64 a0 (32 : Int))) < ((⟨#[0, 1, 2, 2, 3, 3, 3, 3, 4, 4, 4, 4, 4, 4, 4, 4, 5, 5, 5, 5, 5, 5, 5, 5, 5, 5, 5, 5, 5, 5, 5, 5, 6, 6, 6, 6, 6, 6, 6, 6, 6, 6, 6, 6, 6, 6, 6, 6, 6, 6, 6, 6, 6, 6, 6, 6, 6, 6, 6, 6, 6, 6, 6, 6, 7, 7, 7, 7, 7, 7, 7, 7, 7, 7, 7, 7, 7, 7, 7, 7, 7, 7, 7, 7, 7, 7, 7, 7, 7, 7, 7, 7, 7, 7, 7, 7, 7, 7, 7, 7, 7, 7, 7, 7, 7, 7, 7, 7, 7, 7, 7, 7, 7, 7, 7, 7, 7, 7, 7, 7, 7, 7, 7, 7, 7, 7, 7, 7, 8, 8, 8, 8, 8, 8, 8, 8, 8, 8, 8, 8, 8, 8, 8, 8, 8, 8, 8, 8, 8, 8, 8, 8, 8, 8, 8, 8, 8, 8, 8, 8, 8, 8, 8, 8, 8, 8, 8, 8, 8, 8, 8, 8, 8, 8, 8, 8, 8, 8, 8, 8, 8, 8, 8, 8, 8, 8, 8, 8, 8, 8, 8, 8, 8, 8, 8, 8, 8, 8, 8, 8, 8, 8, 8, 8, 8, 8, 8, 8, 8, 8, 8, 8, 8, 8, 8, 8, 8, 8, 8, 8, 8, 8, 8, 8, 8, 8, 8, 8, 8, 8, 8, 8, 8, 8, 8, 8, 8, 8, 8, 8, 8, 8, 8, 8, 8, 8, 8, 8, 8, 8, 8, 8, 8, 8, 8, 8]⟩ : ByteArray).size : Int)) then some (IntKind.wrap .i64 ((32 : Int) + (IntKind.wrap .i64 (btI (⟨#[0, 1, 2, 2, 3, 3, 3, 3, 4, 4, 4, 4, 4, 4, 4, 4, 5, 5, 5, 5, 5, 5, 5, 5, 5, 5, 5, 5, 5, 5, 5, 5, 6, 6, 6, 6, 6, 6, 6, 6, 6, 6, 6, 6, 6, 6, 6, 6, 6, 6, 6, 6, 6, 6, 6, 6, 6, 6, 6, 6, 6, 6, 6, 6, 7, 7, 7, 7, 7, 7, 7, 7, 7, 7, 7, 7, 7, 7, 7, 7, 7, 7, 7, 7, 7, 7, 7, 7, 7, 7, 7, 7, 7, 7, 7, 7, 7, 7, 7, 7, 7, 7, 7, 7, 7, 7, 7, 7, 7, 7, 7, 7, 7, 7, 7, 7, 7, 7, 7, 7, 7, 7, 7, 7, 7, 7, 7, 7, 8, 8, 8, 8, 8, 8, 8, 8, 8, 8, 8, 8, 8, 8, 8, 8, 8, 8, 8, 8, 8, 8, 8, 8, 8, 8, 8, 8, 8, 8, 8, 8, 8, 8, 8, 8, 8, 8, 8, 8, 8, 8, 8, 8, 8, 8, 8, 8, 8, 8, 8, 8, 8, 8, 8, 8, 8, 8, 8, 8, 8, 8, 8, 8, 8, 8, 8, 8, 8, 8, 8, 8, 8, 8, 8, 8, 8, 8, 8, 8, 8, 8, 8, 8, 8, 8, 8, 8, 8, 8, 8, 8, 8, 8, 8, 8, 8, 8, 8, 8, 8, 8, 8, 8, 8, 8, 8, 8, 8, 8, 8, 8, 8, 8, 8, 8, 8, 8, 8, 8, 8, 8, 8, 8, 8, 8, 8, 8]⟩ : ByteArray) (IntKind.wrap .u8 (shrI .u64 a0 (32 : Int))))))) else none) else none))) else (bif decide (a0 ≥ (65536 : Int)) then (bif decide ((shrI .u64 a0 (16 : Int)) ≥ (256 : Int)) then (bif decide (0 ≤ (IntKind.wrap .u8 (shrI .u64 (shrI .u64 a0 (16 : Int)) (8 : Int)))) then (bif decide ((IntKind.wrap .u8 (shrI .u64 (shrI .u64 a0 (16 : Int)) (8 : Int))) < ((⟨#[0, 1, 2, 2, 3, 3, 3, 3, 4, 4, 4, 4, 4, 4, 4, 4, 5, 5, 5, 5, 5, 5, 5, 5, 5, 5, 5, 5, 5, 5, 5, 5, 6, 6, 6, 6, 6, 6, 6, 6, 6, 6, 6, 6, 6, 6, 6, 6, 6, 6, 6, 6, 6, 6, 6, 6, 6, 6, 6, 6, 6, 6, 6, 6, 7, 7, 7, 7, 7, 7, 7, 7, 7, 7, 7, 7, 7, 7, 7, 7, 7, 7, 7, 7, 7, 7, 7, 7, 7, 7, 7, 7, 7, 7, 7, 7, 7, 7, 7, 7, 7, 7, 7, 7, 7, 7, 7, 7, 7, 7, 7, 7, 7, 7, 7, 7, 7, 7, 7, 7, 7, 7, 7, 7, 7, 7, 7, 7, 8, 8, 8, 8, 8, 8, 8, 8, 8, 8, 8, 8, 8, 8, 8, 8, 8, 8, 8, 8, 8, 8, 8, 8, 8, 8, 8, 8, 8, 8, 8, 8, 8, 8, 8, 8, 8, 8, 8, 8, 8, 8, 8, 8, 8, 8, 8, 8, 8, 8, 8, 8, 8, 8, 8, 8, 8, 8, 8, 8, 8, 8, 8, 8, 8, 8, 8, 8, 8, 8, 8, 8, 8, 8, 8, 8, 8, 8, 8, 8, 8, 8, 8, 8, 8, 8, 8, 8, 8, 8, 8, 8, 8, 8, 8, 8, 8, 8, 8, 8, 8, 8, 8, 8, 8, 8, 8, 8, 8, 8, 8, 8, 8, 8, 8, 8, 8, 8, 8, 8, 8, 8, 8, 8, 8, 8, 8, 8]⟩ : ByteArray).size : Int)) then some (IntKind.wrap .i64 ((24 : Int) + (IntKind.wrap .i64 (btI (⟨#[0, 1, 2, 2, 3, 3, 3, 3, 4, 4, 4, 4, 4, 4, 4, 4, 5, 5, 5, 5, 5, 5, 5, 5, 5, 5, 5, 5, 5, 5, 5, 5, 6, 6, 6, 6, 6, 6, 6, 6, 6, 6, 6, 6, 6, 6, 6, 6, 6, 6, 6, 6, 6, 6, 6, 6, 6, 6, 6, 6, 6, 6, 6, 6, 7, 7, 7, 7, 7, 7, 7, 7, 7, 7, 7, 7, 7, 7, 7, 7, 7, 7, 7, 7, 7, 7, 7, 7, 7, 7, 7, 7, 7, 7, 7, 7, 7, 7, 7, 7, 7, 7, 7, 7, 7, 7, 7, 7, 7, 7, 7, 7, 7, 7, 7, 7, 7, 7, 7, 7, 7, 7, 7, 7, 7, 7, 7, 7, 8, 8, 8, 8, 8, 8, 8, 8, 8, 8, 8, 8, 8, 8, 8, 8, 8, 8, 8, 8, 8, 8, 8, 8, 8, 8, 8, 8, 8, 8, 8, 8, 8, 8, 8, 8, 8, 8, 8, 8, 8, 8, 8, 8, 8, 8, 8, 8, 8, 8, 8, 8, 8, 8, 8, 8, 8, 8, 8, 8, 8, 8, 8, 8, 8, 8, 8, 8, 8, 8, 8, 8, 8, 8, 8, 8, 8, 8, 8, 8, 8, 8, 8, 8, 8, 8, 8, 8, 8, 8, 8, 8, 8, 8, 8, 8, 8, 8, 8, 8, 8, 8, 8, 8, 8, 8, 8, 8, 8, 8, 8, 8, 8, 8, 8, 8, 8, 8, 8, 8, 8, 8, 8, 8, 8, 8, 8, 8]⟩ : ByteArray) (IntKind.wrap .u8 (shrI .u64 (shrI .u64 a0 (16 : Int)) (8 : Int))))))) else none) else none) else (bif decide (0 ≤ (IntKind.wrap .u8 (shrI .u64 a0 (16 : Int)))) then (bif decide ((IntKind.wrap .u8 (shrI .u64 a0 (16 : Int))) < ((⟨#[0, 1, 2, 2, 3, 3, 3, 3, 4, 4, 4, 4, 4, 4, 4, 4, 5, 5, 5, 5, 5, 5, 5, 5, 5, 5, 5, 5, 5, 5, 5, 5, 6, 6, 6, 6, 6, 6, 6, 6, 6, 6, 6, 6, 6, 6, 6, 6, 6, 6, 6, 6, 6, 6, 6, 6, 6, 6, 6, 6, 6, 6, 6, 6, 7, 7, 7, 7, 7, 7, 7, 7, 7, 7, 7, 7, 7, 7, 7, 7, 7, 7, 7, 7, 7, 7, 7, 7, 7, 7, 7, 7, 7, 7, 7, 7, 7, 7, 7, 7, 7, 7, 7, 7, 7, 7, 7, 7, 7, 7, 7, 7, 7, 7, 7, 7, 7, 7, 7, 7, 7, 7, 7, 7, 7, 7, 7, 7, 8, 8, 8, 8, 8, 8, 8, 8, 8, 8, 8, 8, 8, 8, 8, 8, 8, 8, 8, 8, 8, 8, 8, 8, 8, 8, 8, 8, 8, 8, 8, 8, 8, 8, 8, 8, 8, 8, 8, 8, 8, 8, 8, 8, 8, 8, 8, 8, 8, 8, 8, 8, 8, 8, 8, 8, 8, 8, 8, 8, 8, 8, 8, 8, 8, 8, 8, 8, 8, 8, 8, 8, 8, 8, 8, 8, 8, 8, 8, 8, 8, 8, 8, 8, 8, 8, 8, 8, 8, 8, 8, 8, 8, 8, 8, 8, 8, 8, 8, 8, 8, 8, 8, 8, 8, 8, 8, 8, 8, 8, 8, 8, 8, 8, 8, 8, 8, 8, 8, 8, 8, 8, 8, 8, 8, 8, 8, 8]⟩ : ByteArray).size : Int)) then some (IntKind.wrap .i64 ((16 : Int) + (IntKind.wrap .i64 (btI (⟨#[0, 1, 2, 2, 3, 3, 3, 3, 4, 4, 4, 4, 4, 4, 4, 4, 5, 5, 5, 5, 5, 5, 5, 5, 5, 5, 5, 5, 5, 5, 5, 5, 6, 6, 6, 6, 6, 6, 6, 6, 6, 6, 6, 6, 6, 6, 6, 6, 6, 6, 6, 6, 6, 6, 6, 6, 6, 6, 6, 6, 6, 6, 6, 6, 7, 7, 7, 7, 7, 7, 7, 7, 7, 7, 7, 7, 7, 7, 7, 7, 7, 7, 7, 7, 7, 7, 7, 7, 7, 7, 7, 7, 7, 7, 7, 7, 7, 7, 7, 7, 7, 7, 7, 7, 7, 7, 7, 7, 7, 7, 7, 7, 7, 7, 7, 7, 7, 7, 7, 7, 7, 7, 7, 7, 7, 7, 7, 7, 8, 8, 8, 8, 8, 8, 8, 8, 8, 8, 8, 8, 8, 8, 8, 8, 8, 8, 8, 8, 8, 8, 8, 8, 8, 8, 8, 8, 8, 8, 8, 8, 8, 8, 8, 8, 8, 8, 8, 8, 8, 8, 8, 8, 8, 8, 8, 8, 8, 8, 8, 8, 8, 8, 8, 8, 8, 8, 8, 8, 8, 8, 8, 8, 8, 8, 8, 8, 8, 8, 8, 8, 8, 8, 8, 8, 8, 8, 8, 8, 8, 8, 8, 8, 8, 8, 8, 8, 8, 8, 8, 8, 8, 8, 8, 8, 8, 8, 8, 8, 8, 8, 8, 8, 8, 8, 8, 8, 8, 8, 8, 8, 8, 8, 8, 8, 8, 8, 8, 8, 8, 8, 8, 8, 8, 8, 8, 8]⟩ : ByteArray) (IntKind.wrap .u8 (shrI .u64 a0 (16 : Int))))))) else none) else none)) else (bif decide (a0 ≥ (256 : Int)) then (bif decide (0 ≤ (IntKind.wrap .u8 (shrI .u64 a0 (8 : Int)))) then (bif decide ((IntKind.wrap .u8 (shrI .u64 a0 (8 : Int))) < ((⟨#[0, 1, 2, 2, 3, 3, 3, 3, 4, 4, 4, 4, 4, 4, 4, 4, 5, 5, 5, 5, 5, 5, 5, 5, 5, 5, 5, 5, 5, 5, 5, 5, 6, 6, 6, 6, 6, 6, 6, 6, 6, 6, 6, 6, 6, 6, 6, 6, 6, 6, 6, 6, 6, 6, 6, 6, 6, 6, 6, 6, 6, 6, 6, 6, 7, 7, 7, 7, 7, 7, 7, 7, 7, 7, 7, 7, 7, 7, 7, 7, 7, 7, 7, 7, 7, 7, 7, 7, 7, 7, 7, 7, 7, 7, 7, 7, 7, 7, 7, 7, 7, 7, 7, 7, 7, 7, 7, 7, 7, 7, 7, 7, 7, 7, 7, 7, 7, 7, 7, 7, 7, 7, 7, 7, 7, 7, 7, 7, 8, 8, 8, 8, 8, 8, 8, 8, 8, 8, 8, 8, 8, 8, 8, 8, 8, 8, 8, 8, 8, 8, 8, 8, 8, 8, 8, 8, 8, 8, 8, 8, 8, 8, 8, 8, 8, 8, 8, 8, 8, 8, 8, 8, 8, 8, 8, 8, 8, 8, 8, 8, 8, 8, 8, 8, 8, 8, 8, 8, 8, 8, 8, 8, 8, 8, 8, 8, 8, 8, 8, 8, 8, 8, 8, 8, 8, 8, 8, 8, 8, 8, 8, 8, 8, 8, 8, 8, 8, 8, 8, 8, 8, 8, 8, 8, 8, 8, 8, 8, 8, 8, 8, 8, 8, 8, 8, 8, 8, 8, 8, 8, 8, 8, 8, 8, 8, 8, 8, 8, 8, 8, 8, 8, 8, 8, 8, 8]⟩ : ByteArray).size : Int)) then some (IntKind.wrap .i64 ((8 : Int) + (IntKind.wrap .i64 (btI (⟨#[0, 1, 2, 2, 3, 3, 3, 3, 4, 4, 4, 4, 4, 4, 4, 4, 5, 5, 5, 5, 5, 5, 5, 5, 5, 5, 5, 5, 5, 5, 5, 5, 6, 6, 6, 6, 6, 6, 6, 6, 6, 6, 6, 6, 6, 6, 6, 6, 6, 6, 6, 6, 6, 6, 6, 6, 6, 6, 6, 6, 6, 6, 6, 6, 7, 7, 7, 7, 7, 7, 7, 7, 7, 7, 7, 7, 7, 7, 7, 7, 7, 7, 7, 7, 7, 7, 7, 7, 7, 7, 7, 7, 7, 7, 7, 7, 7, 7, 7, 7, 7, 7, 7, 7, 7, 7, 7, 7, 7, 7, 7, 7, 7, 7, 7, 7, 7, 7, 7, 7, 7, 7, 7, 7, 7, 7, 7, 7, 8, 8, 8, 8, 8, 8, 8, 8, 8, 8, 8, 8, 8, 8, 8, 8, 8, 8, 8, 8, 8, 8, 8, 8, 8, 8, 8, 8, 8, 8, 8, 8, 8, 8, 8, 8, 8, 8, 8, 8, 8, 8, 8, 8, 8, 8, 8, 8, 8, 8, 8, 8, 8, 8, 8, 8, 8, 8, 8, 8, 8, 8, 8, 8, 8, 8, 8, 8, 8, 8, 8, 8, 8, 8, 8, 8, 8, 8, 8, 8, 8, 8, 8, 8, 8, 8, 8, 8, 8, 8, 8, 8, 8, 8, 8, 8, 8, 8, 8, 8, 8, 8, 8, 8, 8, 8, 8, 8, 8, 8, 8, 8, 8, 8, 8, 8, 8, 8, 8, 8, 8, 8, 8, 8, 8, 8, 8, 8]⟩ : ByteArray) (IntKind.wrap .u8 (shrI .u64 a0 (8 : Int))))))) else none) else none) else (bif decide (0 ≤ (IntKind.wrap .u8 a0)) then (bif decide ((IntKind.wrap .u8 a0) < ((⟨#[0, 1, 2, 2, 3, 3, 3, 3, 4, 4, 4, 4, 4, 4, 4, 4, 5, 5, 5, 5, 5, 5, 5, 5, 5, 5, 5, 5, 5, 5, 5, 5, 6, 6, 6, 6, 6, 6, 6, 6, 6, 6, 6, 6, 6, 6, 6, 6, 6, 6, 6, 6, 6, 6, 6, 6, 6, 6, 6, 6, 6, 6, 6, 6, 7, 7, 7, 7, 7, 7, 7, 7, 7, 7, 7, 7, 7, 7, 7, 7, 7, 7, 7, 7, 7, 7, 7, 7, 7, 7, 7, 7, 7, 7, 7, 7, 7, 7, 7, 7, 7, 7, 7, 7, 7, 7, 7, 7, 7, 7, 7, 7, 7, 7, 7, 7, 7, 7, 7, 7, 7, 7, 7, 7, 7, 7, 7, 7, 8, 8, 8, 8, 8, 8, 8, 8, 8, 8, 8, 8, 8, 8, 8, 8, 8, 8, 8, 8, 8, 8, 8, 8, 8, 8, 8, 8, 8, 8, 8, 8, 8, 8, 8, 8, 8, 8, 8, 8, 8, 8, 8, 8, 8, 8, 8, 8, 8, 8, 8, 8, 8, 8, 8, 8, 8, 8, 8, 8, 8, 8, 8, 8, 8, 8, 8, 8, 8, 8, 8, 8, 8, 8, 8, 8, 8, 8, 8, 8, 8, 8, 8, 8, 8, 8, 8, 8, 8, 8, 8, 8, 8, 8, 8, 8, 8, 8, 8, 8, 8, 8, 8, 8, 8, 8, 8, 8, 8, 8, 8, 8, 8, 8, 8, 8, 8, 8, 8, 8, 8, 8, 8, 8, 8, 8, 8, 8]⟩ : ByteArray).size : Int)) then some (IntKind.wrap .i64 ((0 : Int) + (IntKind.wrap .i64 (btI (⟨#[0, 1, 2, 2, 3, 3, 3, 3, 4, 4, 4, 4, 4, 4, 4, 4, 5, 5, 5, 5, 5, 5, 5, 5, 5, 5, 5, 5, 5, 5, 5, 5, 6, 6, 6, 6, 6, 6, 6, 6, 6, 6, 6, 6, 6, 6, 6, 6, 6, 6, 6, 6, 6, 6, 6, 6, 6, 6, 6, 6, 6, 6, 6, 6, 7, 7, 7, 7, 7, 7, 7, 7, 7, 7, 7, 7, 7, 7, 7, 7, 7, 7, 7, 7, 7, 7, 7, 7, 7, 7, 7, 7, 7, 7, 7, 7, 7, 7, 7, 7, 7, 7, 7, 7, 7, 7, 7, 7, 7, 7, 7, 7, 7, 7, 7, 7, 7, 7, 7, 7, 7, 7, 7, 7, 7, 7, 7, 7, 8, 8, 8, 8, 8, 8, 8, 8, 8, 8, 8, 8, 8, 8, 8, 8, 8, 8, 8, 8, 8, 8, 8, 8, 8, 8, 8, 8, 8, 8, 8, 8, 8, 8, 8, 8, 8, 8, 8, 8, 8, 8, 8, 8, 8, 8, 8, 8, 8, 8, 8, 8, 8, 8, 8, 8, 8, 8, 8, 8, 8, 8, 8, 8, 8, 8, 8, 8, 8, 8, 8, 8, 8, 8, 8, 8, 8, 8, 8, 8, 8, 8, 8, 8, 8, 8, 8, 8, 8, 8, 8, 8, 8, 8, 8, 8, 8, 8, 8, 8, 8, 8, 8, 8, 8, 8, 8, 8, 8, 8, 8, 8, 8, 8, 8, 8, 8, 8, 8, 8, 8, 8, 8, 8, 8, 8, 8, 8]⟩ : ByteArray) (IntKind.wrap .u8 a0))))) else none) else none))))
noncomputable def bits_Len64.F : Int → Option (Int) := lock bits_Len64.F0
theorem bits_Len64.F_eq : bits_Len64.F = bits_Len64.F0 := lock_eq _
noncomputable def bits_Len64.p : Proc := { nargs := 1, inS := ⟨[(0, .lf (.sc (.int .u64)))], []⟩, outS := ⟨[(0, .lf (.sc (.int .i64)))], []⟩, n0 := 0, R := Int, F := fun x => bits_Len64.F x.1.1, post := fun r => ((r, ()), ()), un := fun x => x.1.1 }
noncomputable def bits_Len64.E : Env := { P := Tryd.prog, ty := tyTab [], glob := glob0, proc := procTab [], lproc := lprocTab [], n0 := 0, ntmps := 25 }
theorem bits_Len64.ok : ProcsOk bits_Len64.E := AllSound.ok (l := []) (by kernel_rfl) rfl trivial
noncomputable def bits_Len64.body0 : Code := (match Tryd.f51.body with | some c => c | none => .skip)
noncomputable def bits_Len64.ann : Ann := .z
set_option maxRecDepth 100000 in
theorem bits_Len64.eq (x : Tup bits_Len64.p.inS) : peFn bits_Len64.E Tryd.f51 bits_Len64.ann bits_Len64.p x = bits_Len64.p.F x := by
  have h : peFn bits_Len64.E Tryd.f51 bits_Len64.ann bits_Len64.p x = bits_Len64.F0 x.1.1 := by kernel_rfl
  exact h.trans (by show _ = bits_Len64.F x.1.1; rw [bits_Len64.F_eq])
set_option maxRecDepth 100000 in
theorem bits_Len64.sound : ProcSound Tryd.prog glob0 51 bits_Len64.p :=
  fn_sound (E := bits_Len64.E) (c := bits_Len64.body0) (ann := bits_Len64.ann) bits_Len64.ok Tryd.func51 (of_decide_eq_true (by kernel_rfl)) rfl rfl rfl (by decide +kernel) ((SubsOk_z _ _) : SubsOk bits_Len64.E bits_Len64.body0 bits_Len64.ann) (fun _ => rfl) rfl bits_Len64.eq

/-! ### armplan/armplanmake.Interval: function 22 -/
noncomputable def armplanmake_Interval.F0 (a0 : Int) (a1 : Int) : Option (Int × Int) :=
  ((armplanmake_Round.F (shrI .i64 a0 (3 : Int)) (27 : Int)).bind fun r1 => (bif decide (0 ≤ (IntKind.wrap .u64 (IntKind.wrap .i64 ((4 : Int) + r1)))) then ((armplanmake_Round.F a0 (IntKind.wrap .i64 ((IntKind.wrap .i64 ((2 : Int) * (shlI .i64 (1 : Int) (IntKind.wrap .u64 (IntKind.wrap .i64 ((4 : Int) + r1)))))) + (1 : Int)))).bind fun r2 => ((armplanmake_Round.F a1 (IntKind.wrap .i64 ((IntKind.wrap .i64 ((2 : Int) * (shlI .i64 (1 : Int) (IntKind.wrap .u64 (IntKind.wrap .i64 ((4 : Int) + r1)))))) + (1 : Int)))).bind fun r3 => (bif ((ibits .and .i64 a1 (1 : Int)) == (0 : Int)) then ((armplanmake_Round.F (shrI .i64 a1 (1 : Int)) (IntKind.wrap .i64 ((1 : Int) + (IntKind.wrap .i64 ((shlI .i64 (1 : Int) (IntKind.wrap .u64 (IntKind.wrap .i64 ((4 : Int) + r1)))).tdiv (8 : Int)))))).bind fun r4 => ((armplanref1_Clamp.F (IntKind.wrap .i64 (r2 - (shlI .i64 (1 : Int) (IntKind.wrap .u64 (IntKind.wrap .i64 ((4 : Int) + r1))))))).bind fun r5 => ((armplanref1_Clamp.F (IntKind.wrap .i64 ((IntKind.wrap .i64 (r2 - (shlI .i64 (1 : Int) (IntKind.wrap .u64 (IntKind.wrap .i64 ((4 : Int) + r1)))))) + r4))).bind fun r6 => ((armplanref1_Clamp.F (IntKind.wrap .i64 (r2 - (shlI .i64 (1 : Int) (IntKind.wrap .u64 (IntKind.wrap .i64 ((4 : Int) + r1))))))).bind fun r7 => ((armplanref1_Clamp.F (IntKind.wrap .i64 ((IntKind.wrap .i64 (r2 - (shlI .i64 (1 : Int) (IntKind.wrap .u64 (IntKind.wrap .i64 ((4 : Int) + r1)))))) + r4))).bind fun r8 => some ((bif decide (r6 < r5) then r6 else r5), (bif decide (r8 > r7) then r8 else r7))))))) else ((armplanref1_Clamp.F (IntKind.wrap .i64 (r2 - (shlI .i64 (1 : Int) (IntKind.wrap .u64 (IntKind.wrap .i64 ((4 : Int) + r1))))))).bind fun r9 => ((armplanref1_Clamp.F (IntKind.wrap .i64 (r3 - (shlI .i64 (1 : Int) (IntKind.wrap .u64 (IntKind.wrap .i64 ((4 : Int) + r1))))))).bind fun r10 => ((armplanref1_Clamp.F (IntKind.wrap .i64 (r2 - (shlI .i64 (1 : Int) (IntKind.wrap .u64 (IntKind.wrap .i64 ((4 : Int) + r1))))))).bind fun r11 => ((armplanref1_Clamp.F (IntKind.wrap .i64 (r3 - (shlI .i64 (1 : Int) (IntKind.wrap .u64 (IntKind.wrap .i64 ((4 : Int) + r1))))))).bind fun r12 => some ((bif decide (r10 < r9) then r10 else r9), (bif decide (r12 > r11) then r12 else r11))))))))) else none))
noncomputable def armplanmake_Interval.F : Int → Int → Option (Int × Int) := lock armplanmake_Interval.F0
theorem armplanmake_Interval.F_eq : armplanmake_Interval.F = armplanmake_Interval.F0 := lock_eq _
noncomputable def armplanmake_Interval.p : Proc := { nargs := 2, inS := ⟨[(0, .lf (.sc (.int .i64))), (1, .lf (.sc (.int .i64)))], []⟩, outS := ⟨[(0, .ag [.sc (.int .i64), .sc (.int .i64)])], []⟩, n0 := 0, R := Int × Int, F := fun x => armplanmake_Interval.F x.1.1 x.1.2.1, post := fun r => (((r.1, (r.2, ())), ()), ()), un := fun x => (x.1.1.1, x.1.1.2.1) }
noncomputable def armplanmake_Interval.E : Env := { P := Tryd.prog, ty := tyTab [], glob := glob0, proc := procTab [(18, armplanmake_Round.p), (35, armplanref1_Clamp.p)], lproc := lprocTab [], n0 := 0, ntmps := 50 }
theorem armplanmake_Interval.ok : ProcsOk armplanmake_Interval.E := AllSound.ok (l := [(18, armplanmake_Round.p), (35, armplanref1_Clamp.p)]) (by kernel_rfl) rfl ⟨armplanmake_Round.sound, armplanref1_Clamp.sound, trivial⟩
noncomputable def armplanmake_Interval.body0 : Code := (match Tryd.f22.body with | some c => c | none => .skip)
noncomputable def armplanmake_Interval.ann : Ann := .z
set_option maxRecDepth 100000 in
theorem armplanmake_Interval.eq (x : Tup armplanmake_Interval.p.inS) : peFn armplanmake_Interval.E Tryd.f22 armplanmake_Interval.ann armplanmake_Interval.p x = armplanmake_Interval.p.F x := by
  have h : peFn armplanmake_Interval.E Tryd.f22 armplanmake_Interval.ann armplanmake_Interval.p x = armplanmake_Interval.F0 x.1.1 x.1.2.1 := by kernel_rfl
  exact h.trans (by show _ = armplanmake_Interval.F x.1.1 x.1.2.1; rw [armplanmake_Interval.F_eq])
set_option maxRecDepth 100000 in
theorem armplanmake_Interval.sound : ProcSound Tryd.prog glob0 22 armplanmake_Interval.p :=
  fn_sound (E := armplanmake_Interval.E) (c := armplanmake_Interval.body0) (ann := armplanmake_Interval.ann) armplanmake_Interval.ok Tryd.func22 (of_decide_eq_true (by kernel_rfl)) rfl rfl rfl (by decide +kernel) ((SubsOk_z _ _) : SubsOk armplanmake_Interval.E armplanmake_Interval.body0 armplanmake_Interval.ann) (fun _ => rfl) rfl armplanmake_Interval.eq

/-! ### armplan/sampler.Spread: function 23 -/
noncomputable def sampler_Spread.F0 (a0 : Int) (a1 : Int) (a2 : Int) : Option (Int) :=
  ((sampler_count.F a1 a2).bind fun r1 => ((bits_Mul64.F a0 r1).bind fun r2 => some (IntKind.wrap .i64 (a1 + (IntKind.wrap .i64 r2.1)))))
noncomputable def sampler_Spread.F : Int → Int → Int → Option (Int) := lock sampler_Spread.F0
theorem sampler_Spread.F_eq : sampler_Spread.F = sampler_Spread.F0 := lock_eq _
noncomputable def sampler_Spread.p : Proc := { nargs := 3, inS := ⟨[(0, .lf (.sc (.int .u64))), (1, .lf (.sc (.int .i64))), (2, .lf (.sc (.int .i64)))], []⟩, outS := ⟨[(0, .lf (.sc (.int .i64)))], []⟩, n0 := 0, R := Int, F := fun x => sampler_Spread.F x.1.1 x.1.2.1 x.1.2.2.1, post := fun r => ((r, ()), ()), un := fun x => x.1.1 }
noncomputable def sampler_Spread.E : Env := { P := Tryd.prog, ty := tyTab [], glob := glob0, proc := procTab [(37, sampler_count.p), (36, bits_Mul64.p)], lproc := lprocTab [], n0 := 0, ntmps := 21 }
theorem sampler_Spread.ok : ProcsOk sampler_Spread.E := AllSound.ok (l := [(37, sampler_count.p), (36, bits_Mul64.p)]) (by kernel_rfl) rfl ⟨sampler_count.sound, bits_Mul64.sound, trivial⟩
noncomputable def sampler_Spread.body0 : Code := (match Tryd.f23.body with | some c => c | none => .skip)
noncomputable def sampler_Spread.ann : Ann := .z
set_option maxRecDepth 100000 in
theorem sampler_Spread.eq (x : Tup sampler_Spread.p.inS) : peFn sampler_Spread.E Tryd.f23 sampler_Spread.ann sampler_Spread.p x = sampler_Spread.p.F x := by
  have h : peFn sampler_Spread.E Tryd.f23 sampler_Spread.ann sampler_Spread.p x = sampler_Spread.F0 x.1.1 x.1.2.1 x.1.2.2.1 := by kernel_rfl
  exact h.trans (by show _ = sampler_Spread.F x.1.1 x.1.2.1 x.1.2.2.1; rw [sampler_Spread.F_eq])
set_option maxRecDepth 100000 in
theorem sampler_Spread.sound : ProcSound Tryd.prog glob0 23 sampler_Spread.p :=
  fn_sound (E := sampler_Spread.E) (c := sampler_Spread.body0) (ann := sampler_Spread.ann) sampler_Spread.ok Tryd.func23 (of_decide_eq_true (by kernel_rfl)) rfl rfl rfl (by decide +kernel) ((SubsOk_z _ _) : SubsOk sampler_Spread.E sampler_Spread.body0 sampler_Spread.ann) (fun _ => rfl) rfl sampler_Spread.eq

/-! ### armplan/armplanmake.root: function 32 -/
noncomputable def armplanmake_root.p0.round (v0 : Int) (v1 : List (Int)) (v2 : Int) (v3 : List ((Int × Int))) : Option ((Int × List (Int) × Int × List ((Int × Int))) ⊕ ((List (Int) × Int × List ((Int × Int))))) :=
  (bif decide (v0 > (0 : Int)) then ((armplanmake_Source_Signed.F (40 : Int) v1 v2).bind fun r6 => ((armplanmake_Source_Next.F (60 : Int) r6.2.1 r6.2.2).bind fun r7 => (bif decide (v3.length + ([(r6.1, (IntKind.wrap .i64 (r6.1 + r7.1)))] : List ((Int × Int))).length < 8796093022208) then some (.inl ((IntKind.wrap .i64 (v0 - (1 : Int))), r7.2.1, r7.2.2, (v3 ++ ([(r6.1, (IntKind.wrap .i64 (r6.1 + r7.1)))] : List ((Int × Int)))))) else none))) else some (.inr (v1, v2, v3)))
noncomputable def armplanmake_root.p0.step (s : Int × List (Int) × Int × List ((Int × Int))) : Option ((Int × List (Int) × Int × List ((Int × Int))) ⊕ ((List (Int) × Int × List ((Int × Int))))) := armplanmake_root.p0.round s.1 s.2.1 s.2.2.1 s.2.2.2
noncomputable def armplanmake_root.p0.inS : Shape := ⟨[(0, .lf (.bp 0 0)), (3, .lf (.own 1)), (4, .lf (.sc (.int .i64)))], [.box [.dat (.int .i64), .sc (.int .i64)], .row 39 (.pair (.int .i64) (.int .i64))]⟩
noncomputable def armplanmake_root.p0.w0 : Way := { ex := (.ex 0), S := ⟨[(3, .lf (.own 1))], [.box [.dat (.int .i64), .sc (.int .i64)], .row 39 (.pair (.int .i64) (.int .i64))]⟩, R := List (Int) × Int × List ((Int × Int)), post := fun r => (((), ()), ((r.1, (r.2.1, ())), (r.2.2, ()))), un := fun x => (x.2.1.1, x.2.1.2.1, x.2.2.1) }
noncomputable def armplanmake_root.p0.outs : List Way := [armplanmake_root.p0.w0]
noncomputable def armplanmake_root.p0.un (x : Tup armplanmake_root.p0.inS) : Int × List (Int) × Int × List ((Int × Int)) := (x.1.2.2.1, x.2.1.1, x.2.1.2.1, x.2.2.1)
noncomputable def armplanmake_root.p0.lp : LProc := { inS := armplanmake_root.p0.inS, outs := armplanmake_root.p0.outs, F := fun x => loopF armplanmake_root.p0.step (armplanmake_root.p0.un x) }
noncomputable def armplanmake_root.F0 (a0 : List (Int)) (a1 : Int) : Option (List (Int) × Int × List ((Int × Int))) :=
  ((armplanmake_Source_Next.F (3 : Int) a0 a1).bind fun r1 => ((loopF armplanmake_root.p0.step ((IntKind.wrap .i64 ((1 : Int) + r1.1)), r1.2.1, r1.2.2, ([] : List ((Int × Int))))).bind fun y8 => some (y8.1, y8.2.1, y8.2.2)))
noncomputable def armplanmake_root.F : (List (Int)) → Int → Option (List (Int) × Int × List ((Int × Int))) := lock armplanmake_root.F0
theorem armplanmake_root.F_eq : armplanmake_root.F = armplanmake_root.F0 := lock_eq _
noncomputable def armplanmake_root.p : Proc := { nargs := 1, inS := ⟨[(0, .lf (.bp 0 0))], [.box [.dat (.int .i64), .sc (.int .i64)]]⟩, outS := ⟨[(0, .lf (.own 1))], [.box [.dat (.int .i64), .sc (.int .i64)], .row 39 (.pair (.int .i64) (.int .i64))]⟩, n0 := 1, R := List (Int) × Int × List ((Int × Int)), F := fun x => armplanmake_root.F x.2.1.1 x.2.1.2.1, post := fun r => (((), ()), ((r.1, (r.2.1, ())), (r.2.2, ()))), un := fun x => (x.2.1.1, x.2.1.2.1, x.2.2.1) }
noncomputable def armplanmake_root.E : Env := { P := Tryd.prog, ty := tyTab [(39, (.pair (.int .i64) (.int .i64)))], glob := glob0, proc := procTab [(45, armplanmake_Source_Next.p), (46, armplanmake_Source_Signed.p)], lproc := lprocTab [(0, armplanmake_root.p0.lp)], n0 := 1, ntmps := 25 }
theorem armplanmake_root.ok : ProcsOk armplanmake_root.E := AllSound.ok (l := [(45, armplanmake_Source_Next.p), (46, armplanmake_Source_Signed.p)]) (by kernel_rfl) rfl ⟨armplanmake_Source_Next.sound, armplanmake_Source_Signed.sound, trivial⟩
noncomputable def armplanmake_root.body0 : Code := (match Tryd.f32.body with | some c => c | none => .skip)
noncomputable def armplanmake_root.p0.c : Code := ((codeAt armplanmake_root.body0 [.r, .r, .l, .r, .b, .b]).getD .skip)
noncomputable def armplanmake_root.p0.ann : Ann := .z
set_option maxRecDepth 100000 in
theorem armplanmake_root.p0.eq (x : Tup armplanmake_root.p0.inS) : peRound armplanmake_root.E armplanmake_root.p0.c armplanmake_root.p0.ann _ armplanmake_root.p0.inS armplanmake_root.p0.un armplanmake_root.p0.outs x = armplanmake_root.p0.step (armplanmake_root.p0.un x) := by
  kernel_rfl
set_option maxRecDepth 100000 in
theorem armplanmake_root.p0.sound : LProcSound armplanmake_root.E (.loop armplanmake_root.p0.c) armplanmake_root.p0.lp :=
  loop_sound (ann := armplanmake_root.p0.ann) armplanmake_root.ok ((SubsOk_z _ _) : SubsOk armplanmake_root.E armplanmake_root.p0.c armplanmake_root.p0.ann) (by intro a ha; simp only [armplanmake_root.p0.outs, List.mem_cons, List.not_mem_nil, or_false] at ha; rcases ha with rfl <;> exact fun _ => rfl) armplanmake_root.p0.eq
noncomputable def armplanmake_root.ann : Ann := .s (.z) (.s (.z) (.s (.s (.z) (.b (.sub 0))) (.z)))
set_option maxRecDepth 100000 in
theorem armplanmake_root.eq (x : Tup armplanmake_root.p.inS) : peFn armplanmake_root.E Tryd.f32 armplanmake_root.ann armplanmake_root.p x = armplanmake_root.p.F x := by
  have h : peFn armplanmake_root.E Tryd.f32 armplanmake_root.ann armplanmake_root.p x = armplanmake_root.F0 x.2.1.1 x.2.1.2.1 := by kernel_rfl
  exact h.trans (by show _ = armplanmake_root.F x.2.1.1 x.2.1.2.1; rw [armplanmake_root.F_eq])
set_option maxRecDepth 100000 in
theorem armplanmake_root.sound : ProcSound Tryd.prog glob0 32 armplanmake_root.p :=
  fn_sound (E := armplanmake_root.E) (c := armplanmake_root.body0) (ann := armplanmake_root.ann) armplanmake_root.ok Tryd.func32 (of_decide_eq_true (by kernel_rfl)) rfl rfl rfl (by decide +kernel) (⟨(SubsOk_z _ _), ⟨(SubsOk_z _ _), ⟨⟨(SubsOk_z _ _), (sub_of rfl armplanmake_root.p0.sound)⟩, (SubsOk_z _ _)⟩⟩⟩ : SubsOk armplanmake_root.E armplanmake_root.body0 armplanmake_root.ann) (fun _ => rfl) rfl armplanmake_root.eq

/-! ### armplan/sampler.usable: function 34 -/
noncomputable def sampler_usable.p0.round (v0 : List ((Int × Int))) (v1 : Int) (v2 : Int) : Option ((List ((Int × Int)) × Int × Int) ⊕ ((Bool) ⊕ (Unit))) :=
  (bif decide (v2 < v1) then (bif decide (0 ≤ v2) then (bif decide (v2 < (v0.length : Int)) then ((interval_Valid.F (v0.getD v2.toNat ((0 : Int), (0 : Int))).1 (v0.getD v2.toNat ((0 : Int), (0 : Int))).2).bind fun r2 => (bif (!r2) then some (.inr (.inl false)) else some (.inl (v0, v1, (IntKind.wrap .i64 (v2 + (1 : Int))))))) else none) else none) else some (.inr (.inr ())))
noncomputable def sampler_usable.p0.step (s : List ((Int × Int)) × Int × Int) : Option ((List ((Int × Int)) × Int × Int) ⊕ ((Bool) ⊕ (Unit))) := sampler_usable.p0.round s.1 s.2.1 s.2.2
noncomputable def sampler_usable.p0.inS : Shape := ⟨[(13, .lf (.dat (.pair (.int .i64) (.int .i64)))), (14, .lf (.sc (.int .i64))), (15, .lf (.sc (.int .i64)))], []⟩
noncomputable def sampler_usable.p0.w0 : Way := { ex := .rt, S := ⟨[(2, .lf (.sc .bool))], []⟩, R := Bool, post := fun r => ((r, ()), ()), un := fun x => x.1.1 }
noncomputable def sampler_usable.p0.w1 : Way := { ex := (.ex 0), S := ⟨[], []⟩, R := Unit, post := fun r => ((), ()), un := fun x => () }
noncomputable def sampler_usable.p0.outs : List Way := [sampler_usable.p0.w0, sampler_usable.p0.w1]
noncomputable def sampler_usable.p0.un (x : Tup sampler_usable.p0.inS) : List ((Int × Int)) × Int × Int := (x.1.1, x.1.2.1, x.1.2.2.1)
noncomputable def sampler_usable.p0.lp : LProc := { inS := sampler_usable.p0.inS, outs := sampler_usable.p0.outs, F := fun x => loopF sampler_usable.p0.step (sampler_usable.p0.un x) }
noncomputable def sampler_usable.F0 (a0 : List ((Int × Int))) : Option (Bool) :=
  (bif ((a0.length : Int) == (0 : Int)) then some false else (bif decide ((a0.length : Int) > (10 : Int)) then some false else ((loopF sampler_usable.p0.step (a0, (a0.length : Int), (0 : Int))).bind fun y3 => (Sum.elim (fun y4 => some y4) (fun z5 => some true) y3))))
noncomputable def sampler_usable.F : (List ((Int × Int))) → Option (Bool) := lock sampler_usable.F0
theorem sampler_usable.F_eq : sampler_usable.F = sampler_usable.F0 := lock_eq _
noncomputable def sampler_usable.p : Proc := { nargs := 1, inS := ⟨[(0, .lf (.dat (.pair (.int .i64) (.int .i64))))], []⟩, outS := ⟨[(0, .lf (.sc .bool))], []⟩, n0 := 0, R := Bool, F := fun x => sampler_usable.F x.1.1, post := fun r => ((r, ()), ()), un := fun x => x.1.1 }
noncomputable def sampler_usable.E : Env := { P := Tryd.prog, ty := tyTab [], glob := glob0, proc := procTab [(47, interval_Valid.p)], lproc := lprocTab [(0, sampler_usable.p0.lp)], n0 := 0, ntmps := 23 }
theorem sampler_usable.ok : ProcsOk sampler_usable.E := AllSound.ok (l := [(47, interval_Valid.p)]) (by kernel_rfl) rfl ⟨interval_Valid.sound, trivial⟩
noncomputable def sampler_usable.body0 : Code := (match Tryd.f34.body with | some c => c | none => .skip)
noncomputable def sampler_usable.p0.c : Code := ((codeAt sampler_usable.body0 [.r, .r, .l, .r, .b, .b]).getD .skip)
noncomputable def sampler_usable.p0.ann : Ann := .z
set_option maxRecDepth 100000 in
theorem sampler_usable.p0.eq (x : Tup sampler_usable.p0.inS) : peRound sampler_usable.E sampler_usable.p0.c sampler_usable.p0.ann _ sampler_usable.p0.inS sampler_usable.p0.un sampler_usable.p0.outs x = sampler_usable.p0.step (sampler_usable.p0.un x) := by
  kernel_rfl
set_option maxRecDepth 100000 in
theorem sampler_usable.p0.sound : LProcSound sampler_usable.E (.loop sampler_usable.p0.c) sampler_usable.p0.lp :=
  loop_sound (ann := sampler_usable.p0.ann) sampler_usable.ok ((SubsOk_z _ _) : SubsOk sampler_usable.E sampler_usable.p0.c sampler_usable.p0.ann) (by intro a ha; simp only [sampler_usable.p0.outs, List.mem_cons, List.not_mem_nil, or_false] at ha; rcases ha with rfl | rfl <;> exact fun _ => rfl) sampler_usable.p0.eq
noncomputable def sampler_usable.ann : Ann := .s (.z) (.s (.z) (.s (.s (.z) (.b (.sub 0))) (.z)))
set_option maxRecDepth 100000 in
theorem sampler_usable.eq (x : Tup sampler_usable.p.inS) : peFn sampler_usable.E Tryd.f34 sampler_usable.ann sampler_usable.p x = sampler_usable.p.F x := by
  have h : peFn sampler_usable.E Tryd.f34 sampler_usable.ann sampler_usable.p x = sampler_usable.F0 x.1.1 := by kernel_rfl
  exact h.trans (by show _ = sampler_usable.F x.1.1; rw [sampler_usable.F_eq])
set_option maxRecDepth 100000 in
theorem sampler_usable.sound : ProcSound Tryd.prog glob0 34 sampler_usable.p :=
  fn_sound (E := sampler_usable.E) (c := sampler_usable.body0) (ann := sampler_usable.ann) sampler_usable.ok Tryd.func34 (of_decide_eq_true (by kernel_rfl)) rfl rfl rfl (by decide +kernel) (⟨(SubsOk_z _ _), ⟨(SubsOk_z _ _), ⟨⟨(SubsOk_z _ _), (sub_of rfl sampler_usable.p0.sound)⟩, (SubsOk_z _ _)⟩⟩⟩ : SubsOk sampler_usable.E sampler_usable.body0 sampler_usable.ann) (fun _ => rfl) rfl sampler_usable.eq

/-! ### armplan/armplanref23.bounded: function 38 -/
noncomputable def armplanref23_bounded.F0 (a0 : Int) (a1 : Int) : Option (Bool) :=
  ((armplanref1_Valid.F a0 a1).bind fun r1 => some r1)
noncomputable def armplanref23_bounded.F : Int → Int → Option (Bool) := lock armplanref23_bounded.F0
theorem armplanref23_bounded.F_eq : armplanref23_bounded.F = armplanref23_bounded.F0 := lock_eq _
noncomputable def armplanref23_bounded.p : Proc := { nargs := 2, inS := ⟨[(0, .lf (.sc (.int .i64))), (1, .lf (.sc (.int .i64)))], []⟩, outS := ⟨[(0, .lf (.sc .bool))], []⟩, n0 := 0, R := Bool, F := fun x => armplanref23_bounded.F x.1.1 x.1.2.1, post := fun r => ((r, ()), ()), un := fun x => x.1.1 }
noncomputable def armplanref23_bounded.E : Env := { P := Tryd.prog, ty := tyTab [], glob := glob0, proc := procTab [(48, armplanref1_Valid.p)], lproc := lprocTab [], n0 := 0, ntmps := 9 }
theorem armplanref23_bounded.ok : ProcsOk armplanref23_bounded.E := AllSound.ok (l := [(48, armplanref1_Valid.p)]) (by kernel_rfl) rfl ⟨armplanref1_Valid.sound, trivial⟩
noncomputable def armplanref23_bounded.body0 : Code := (match Tryd.f38.body with | some c => c | none => .skip)
noncomputable def armplanref23_bounded.ann : Ann := .z
set_option maxRecDepth 100000 in
theorem armplanref23_bounded.eq (x : Tup armplanref23_bounded.p.inS) : peFn armplanref23_bounded.E Tryd.f38 armplanref23_bounded.ann armplanref23_bounded.p x = armplanref23_bounded.p.F x := by
  have h : peFn armplanref23_bounded.E Tryd.f38 armplanref23_bounded.ann armplanref23_bounded.p x = armplanref23_bounded.F0 x.1.1 x.1.2.1 := by kernel_rfl
  exact h.trans (by show _ = armplanref23_bounded.F x.1.1 x.1.2.1; rw [armplanref23_bounded.F_eq])
set_option maxRecDepth 100000 in
theorem armplanref23_bounded.sound : ProcSound Tryd.prog glob0 38 armplanref23_bounded.p :=
  fn_sound (E := armplanref23_bounded.E) (c := armplanref23_bounded.body0) (ann := armplanref23_bounded.ann) armplanref23_bounded.ok Tryd.func38 (of_decide_eq_true (by kernel_rfl)) rfl rfl rfl (by decide +kernel) ((SubsOk_z _ _) : SubsOk armplanref23_bounded.E armplanref23_bounded.body0 armplanref23_bounded.ann) (fun _ => rfl) rfl armplanref23_bounded.eq

/-! ### armplan/armplanref10.allValid: function 43 -/
noncomputable def armplanref10_allValid.p0.round (v0 : List ((Int × Int))) (v1 : Int) : Option ((List ((Int × Int)) × Int) ⊕ ((Bool) ⊕ (Unit))) :=
  (bif decide (v1 < (v0.length : Int)) then (bif decide (0 ≤ v1) then (bif decide (v1 < (v0.length : Int)) then ((armplanref1_Valid.F (v0.getD v1.toNat ((0 : Int), (0 : Int))).1 (v0.getD v1.toNat ((0 : Int), (0 : Int))).2).bind fun r2 => (bif (!r2) then some (.inr (.inl false)) else some (.inl (v0, (IntKind.wrap .i64 (v1 + (1 : Int))))))) else none) else none) else some (.inr (.inr ())))
noncomputable def armplanref10_allValid.p0.step (s : List ((Int × Int)) × Int) : Option ((List ((Int × Int)) × Int) ⊕ ((Bool) ⊕ (Unit))) := armplanref10_allValid.p0.round s.1 s.2
noncomputable def armplanref10_allValid.p0.inS : Shape := ⟨[(0, .lf (.dat (.pair (.int .i64) (.int .i64)))), (3, .lf (.sc (.int .i64)))], []⟩
noncomputable def armplanref10_allValid.p0.w0 : Way := { ex := .rt, S := ⟨[(2, .lf (.sc .bool))], []⟩, R := Bool, post := fun r => ((r, ()), ()), un := fun x => x.1.1 }
noncomputable def armplanref10_allValid.p0.w1 : Way := { ex := (.ex 0), S := ⟨[], []⟩, R := Unit, post := fun r => ((), ()), un := fun x => () }
noncomputable def armplanref10_allValid.p0.outs : List Way := [armplanref10_allValid.p0.w0, armplanref10_allValid.p0.w1]
noncomputable def armplanref10_allValid.p0.un (x : Tup armplanref10_allValid.p0.inS) : List ((Int × Int)) × Int := (x.1.1, x.1.2.1)
noncomputable def armplanref10_allValid.p0.lp : LProc := { inS := armplanref10_allValid.p0.inS, outs := armplanref10_allValid.p0.outs, F := fun x => loopF armplanref10_allValid.p0.step (armplanref10_allValid.p0.un x) }
noncomputable def armplanref10_allValid.F0 (a0 : List ((Int × Int))) : Option (Bool) :=
  ((loopF armplanref10_allValid.p0.step (a0, (0 : Int))).bind fun y3 => (Sum.elim (fun y4 => some y4) (fun z5 => some true) y3))
noncomputable def armplanref10_allValid.F : (List ((Int × Int))) → Option (Bool) := lock armplanref10_allValid.F0
theorem armplanref10_allValid.F_eq : armplanref10_allValid.F = armplanref10_allValid.F0 := lock_eq _
noncomputable def armplanref10_allValid.p : Proc := { nargs := 1, inS := ⟨[(0, .lf (.dat (.pair (.int .i64) (.int .i64))))], []⟩, outS := ⟨[(0, .lf (.sc .bool))], []⟩, n0 := 0, R := Bool, F := fun x => armplanref10_allValid.F x.1.1, post := fun r => ((r, ()), ()), un := fun x => x.1.1 }
noncomputable def armplanref10_allValid.E : Env := { P := Tryd.prog, ty := tyTab [], glob := glob0, proc := procTab [(48, armplanref1_Valid.p)], lproc := lprocTab [(0, armplanref10_allValid.p0.lp)], n0 := 0, ntmps := 16 }
theorem armplanref10_allValid.ok : ProcsOk armplanref10_allValid.E := AllSound.ok (l := [(48, armplanref1_Valid.p)]) (by kernel_rfl) rfl ⟨armplanref1_Valid.sound, trivial⟩
noncomputable def armplanref10_allValid.body0 : Code := (match Tryd.f43.body with | some c => c | none => .skip)
noncomputable def armplanref10_allValid.p0.c : Code := ((codeAt armplanref10_allValid.body0 [.r, .l, .r, .b, .b]).getD .skip)
noncomputable def armplanref10_allValid.p0.ann : Ann := .z
set_option maxRecDepth 100000 in
theorem armplanref10_allValid.p0.eq (x : Tup armplanref10_allValid.p0.inS) : peRound armplanref10_allValid.E armplanref10_allValid.p0.c armplanref10_allValid.p0.ann _ armplanref10_allValid.p0.inS armplanref10_allValid.p0.un armplanref10_allValid.p0.outs x = armplanref10_allValid.p0.step (armplanref10_allValid.p0.un x) := by
  kernel_rfl
set_option maxRecDepth 100000 in
theorem armplanref10_allValid.p0.sound : LProcSound armplanref10_allValid.E (.loop armplanref10_allValid.p0.c) armplanref10_allValid.p0.lp :=
  loop_sound (ann := armplanref10_allValid.p0.ann) armplanref10_allValid.ok ((SubsOk_z _ _) : SubsOk armplanref10_allValid.E armplanref10_allValid.p0.c armplanref10_allValid.p0.ann) (by intro a ha; simp only [armplanref10_allValid.p0.outs, List.mem_cons, List.not_mem_nil, or_false] at ha; rcases ha with rfl | rfl <;> exact fun _ => rfl) armplanref10_allValid.p0.eq
noncomputable def armplanref10_allValid.ann : Ann := .s (.z) (.s (.s (.z) (.b (.sub 0))) (.z))
set_option maxRecDepth 100000 in
theorem armplanref10_allValid.eq (x : Tup armplanref10_allValid.p.inS) : peFn armplanref10_allValid.E Tryd.f43 armplanref10_allValid.ann armplanref10_allValid.p x = armplanref10_allValid.p.F x := by
  have h : peFn armplanref10_allValid.E Tryd.f43 armplanref10_allValid.ann armplanref10_allValid.p x = armplanref10_allValid.F0 x.1.1 := by kernel_rfl
  exact h.trans (by show _ = armplanref10_allValid.F x.1.1; rw [armplanref10_allValid.F_eq])
set_option maxRecDepth 100000 in
theorem armplanref10_allValid.sound : ProcSound Tryd.prog glob0 43 armplanref10_allValid.p :=
  fn_sound (E := armplanref10_allValid.E) (c := armplanref10_allValid.body0) (ann := armplanref10_allValid.ann) armplanref10_allValid.ok Tryd.func43 (of_decide_eq_true (by kernel_rfl)) rfl rfl rfl (by decide +kernel) (⟨(SubsOk_z _ _), ⟨⟨(SubsOk_z _ _), (sub_of rfl armplanref10_allValid.p0.sound)⟩, (SubsOk_z _ _)⟩⟩ : SubsOk armplanref10_allValid.E armplanref10_allValid.body0 armplanref10_allValid.ann) (fun _ => rfl) rfl armplanref10_allValid.eq

/-! ### armplan/armplanref1.Has: function 44 -/
noncomputable def armplanref1_Has.F0 (a0 : Int) (a1 : Int) (a2 : Int) : Option (Bool) :=
  ((armplanref1_Valid.F a0 a1).bind fun r1 => (bif r1 then (bif decide (a0 ≤ a2) then some (decide (a2 ≤ a1)) else some false) else some false))
noncomputable def armplanref1_Has.F : Int → Int → Int → Option (Bool) := lock armplanref1_Has.F0
theorem armplanref1_Has.F_eq : armplanref1_Has.F = armplanref1_Has.F0 := lock_eq _
noncomputable def armplanref1_Has.p : Proc := { nargs := 2, inS := ⟨[(0, .ag [.sc (.int .i64), .sc (.int .i64)]), (1, .lf (.sc (.int .i64)))], []⟩, outS := ⟨[(0, .lf (.sc .bool))], []⟩, n0 := 0, R := Bool, F := fun x => armplanref1_Has.F x.1.1.1 x.1.1.2.1 x.1.2.1, post := fun r => ((r, ()), ()), un := fun x => x.1.1 }
noncomputable def armplanref1_Has.E : Env := { P := Tryd.prog, ty := tyTab [], glob := glob0, proc := procTab [(48, armplanref1_Valid.p)], lproc := lprocTab [], n0 := 0, ntmps := 19 }
theorem armplanref1_Has.ok : ProcsOk armplanref1_Has.E := AllSound.ok (l := [(48, armplanref1_Valid.p)]) (by kernel_rfl) rfl ⟨armplanref1_Valid.sound, trivial⟩
noncomputable def armplanref1_Has.body0 : Code := (match Tryd.f44.body with | some c => c | none => .skip)
noncomputable def armplanref1_Has.ann : Ann := .z
set_option maxRecDepth 100000 in
theorem armplanref1_Has.eq (x : Tup armplanref1_Has.p.inS) : peFn armplanref1_Has.E Tryd.f44 armplanref1_Has.ann armplanref1_Has.p x = armplanref1_Has.p.F x := by
  have h : peFn armplanref1_Has.E Tryd.f44 armplanref1_Has.ann armplanref1_Has.p x = armplanref1_Has.F0 x.1.1.1 x.1.1.2.1 x.1.2.1 := by kernel_rfl
  exact h.trans (by show _ = armplanref1_Has.F x.1.1.1 x.1.1.2.1 x.1.2.1; rw [armplanref1_Has.F_eq])
set_option maxRecDepth 100000 in
theorem armplanref1_Has.sound : ProcSound Tryd.prog glob0 44 armplanref1_Has.p :=
  fn_sound (E := armplanref1_Has.E) (c := armplanref1_Has.body0) (ann := armplanref1_Has.ann) armplanref1_Has.ok Tryd.func44 (of_decide_eq_true (by kernel_rfl)) rfl rfl rfl (by decide +kernel) ((SubsOk_z _ _) : SubsOk armplanref1_Has.E armplanref1_Has.body0 armplanref1_Has.ann) (fun _ => rfl) rfl armplanref1_Has.eq

/-! ### math/bits.LeadingZeros64: function 49 -/
noncomputable def bits_LeadingZeros64.F0 (a0 : Int) : Option (Int) :=
  ((bits_Len64.F a0).bind fun r1 => some (IntKind.wrap .i64 ((64 : Int) - r1)))
noncomputable def bits_LeadingZeros64.F : Int → Option (Int) := lock bits_LeadingZeros64.F0
theorem bits_LeadingZeros64.F_eq : bits_LeadingZeros64.F = bits_LeadingZeros64.F0 := lock_eq _
noncomputable def bits_LeadingZeros64.p : Proc := { nargs := 1, inS := ⟨[(0, .lf (.sc (.int .u64)))], []⟩, outS := ⟨[(0, .lf (.sc (.int .i64)))], []⟩, n0 := 0, R := Int, F := fun x => bits_LeadingZeros64.F x.1.1, post := fun r => ((r, ()), ()), un := fun x => x.1.1 }
noncomputable def bits_LeadingZeros64.E : Env := { P := Tryd.prog, ty := tyTab [], glob := glob0, proc := procTab [(51, bits_Len64.p)], lproc := lprocTab [], n0 := 0, ntmps := 6 }
theorem bits_LeadingZeros64.ok : ProcsOk bits_LeadingZeros64.E := AllSound.ok (l := [(51, bits_Len64.p)]) (by kernel_rfl) rfl ⟨bits_Len64.sound, trivial⟩
noncomputable def bits_LeadingZeros64.body0 : Code := (match Tryd.f49.body with | some c => c | none => .skip)
noncomputable def bits_LeadingZeros64.ann : Ann := .z
set_option maxRecDepth 100000 in
theorem bits_LeadingZeros64.eq (x : Tup bits_LeadingZeros64.p.inS) : peFn bits_LeadingZeros64.E Tryd.f49 bits_LeadingZeros64.ann bits_LeadingZeros64.p x = bits_LeadingZeros64.p.F x := by
  have h : peFn bits_LeadingZeros64.E Tryd.f49 bits_LeadingZeros64.ann bits_LeadingZeros64.p x = bits_LeadingZeros64.F0 x.1.1 := by kernel_rfl
  exact h.trans (by show _ = bits_LeadingZeros64.F x.1.1; rw [bits_LeadingZeros64.F_eq])
set_option maxRecDepth 100000 in
theorem bits_LeadingZeros64.sound : ProcSound Tryd.prog glob0 49 bits_LeadingZeros64.p :=
  fn_sound (E := bits_LeadingZeros64.E) (c := bits_LeadingZeros64.body0) (ann := bits_LeadingZeros64.ann) bits_LeadingZeros64.ok Tryd.func49 (of_decide_eq_true (by kernel_rfl)) rfl rfl rfl (by decide +kernel) ((SubsOk_z _ _) : SubsOk bits_LeadingZeros64.E bits_LeadingZeros64.body0 bits_LeadingZeros64.ann) (fun _ => rfl) rfl bits_LeadingZeros64.eq

/-! ### armplan/armplanmake.Root: function 20 -/
noncomputable def armplanmake_Root.F0 (a0 : List (Int)) : Option (List ((Int × Int))) :=
  ((armplanmake_From.F a0).bind fun r1 => ((armplanmake_root.F r1.1 r1.2).bind fun r2 => some r2.2.2))
noncomputable def armplanmake_Root.F : (List (Int)) → Option (List ((Int × Int))) := lock armplanmake_Root.F0
theorem armplanmake_Root.F_eq : armplanmake_Root.F = armplanmake_Root.F0 := lock_eq _
noncomputable def armplanmake_Root.p : Proc := { nargs := 1, inS := ⟨[(0, .lf (.dat (.int .i64)))], []⟩, outS := ⟨[(0, .lf (.own 0))], [.row 39 (.pair (.int .i64) (.int .i64))]⟩, n0 := 0, R := List ((Int × Int)), F := fun x => armplanmake_Root.F x.1.1, post := fun r => (((), ()), (r, ())), un := fun x => x.2.1 }
noncomputable def armplanmake_Root.E : Env := { P := Tryd.prog, ty := tyTab [], glob := glob0, proc := procTab [(33, armplanmake_From.p), (32, armplanmake_root.p)], lproc := lprocTab [], n0 := 0, ntmps := 6 }
theorem armplanmake_Root.ok : ProcsOk armplanmake_Root.E := AllSound.ok (l := [(33, armplanmake_From.p), (32, armplanmake_root.p)]) (by kernel_rfl) rfl ⟨armplanmake_From.sound, armplanmake_root.sound, trivial⟩
noncomputable def armplanmake_Root.body0 : Code := (match Tryd.f20.body with | some c => c | none => .skip)
noncomputable def armplanmake_Root.ann : Ann := .z
set_option maxRecDepth 100000 in
theorem armplanmake_Root.eq (x : Tup armplanmake_Root.p.inS) : peFn armplanmake_Root.E Tryd.f20 armplanmake_Root.ann armplanmake_Root.p x = armplanmake_Root.p.F x := by
  have h : peFn armplanmake_Root.E Tryd.f20 armplanmake_Root.ann armplanmake_Root.p x = armplanmake_Root.F0 x.1.1 := by kernel_rfl
  exact h.trans (by show _ = armplanmake_Root.F x.1.1; rw [armplanmake_Root.F_eq])
set_option maxRecDepth 100000 in
theorem armplanmake_Root.sound : ProcSound Tryd.prog glob0 20 armplanmake_Root.p :=
  fn_sound (E := armplanmake_Root.E) (c := armplanmake_Root.body0) (ann := armplanmake_Root.ann) armplanmake_Root.ok Tryd.func20 (of_decide_eq_true (by kernel_rfl)) rfl rfl rfl (by decide +kernel) ((SubsOk_z _ _) : SubsOk armplanmake_Root.E armplanmake_Root.body0 armplanmake_Root.ann) (fun _ => rfl) rfl armplanmake_Root.eq

/-! ### armplan/armplanref23.Spread: function 24 -/
noncomputable def armplanref23_Spread.F0 (a0 : Int) (a1 : Int) (a2 : Int) : Option (Int) :=
  ((armplanref23_bounded.F a1 a2).bind fun r1 => (bif (!r1) then some a1 else ((bits_Mul64.F a0 (IntKind.wrap .u64 ((IntKind.wrap .u64 (IntKind.wrap .i64 (a2 - a1))) + (1 : Int)))).bind fun r2 => some (IntKind.wrap .i64 (a1 + (IntKind.wrap .i64 r2.1))))))
noncomputable def armplanref23_Spread.F : Int → Int → Int → Option (Int) := lock armplanref23_Spread.F0
theorem armplanref23_Spread.F_eq : armplanref23_Spread.F = armplanref23_Spread.F0 := lock_eq _
noncomputable def armplanref23_Spread.p : Proc := { nargs := 3, inS := ⟨[(0, .lf (.sc (.int .u64))), (1, .lf (.sc (.int .i64))), (2, .lf (.sc (.int .i64)))], []⟩, outS := ⟨[(0, .lf (.sc (.int .i64)))], []⟩, n0 := 0, R := Int, F := fun x => armplanref23_Spread.F x.1.1 x.1.2.1 x.1.2.2.1, post := fun r => ((r, ()), ()), un := fun x => x.1.1 }
noncomputable def armplanref23_Spread.E : Env := { P := Tryd.prog, ty := tyTab [], glob := glob0, proc := procTab [(38, armplanref23_bounded.p), (36, bits_Mul64.p)], lproc := lprocTab [], n0 := 0, ntmps := 28 }
theorem armplanref23_Spread.ok : ProcsOk armplanref23_Spread.E := AllSound.ok (l := [(38, armplanref23_bounded.p), (36, bits_Mul64.p)]) (by kernel_rfl) rfl ⟨armplanref23_bounded.sound, bits_Mul64.sound, trivial⟩
noncomputable def armplanref23_Spread.body0 : Code := (match Tryd.f24.body with | some c => c | none => .skip)
noncomputable def armplanref23_Spread.ann : Ann := .z
set_option maxRecDepth 100000 in
theorem armplanref23_Spread.eq (x : Tup armplanref23_Spread.p.inS) : peFn armplanref23_Spread.E Tryd.f24 armplanref23_Spread.ann armplanref23_Spread.p x = armplanref23_Spread.p.F x := by
  have h : peFn armplanref23_Spread.E Tryd.f24 armplanref23_Spread.ann armplanref23_Spread.p x = armplanref23_Spread.F0 x.1.1 x.1.2.1 x.1.2.2.1 := by kernel_rfl
  exact h.trans (by show _ = armplanref23_Spread.F x.1.1 x.1.2.1 x.1.2.2.1; rw [armplanref23_Spread.F_eq])
set_option maxRecDepth 100000 in
theorem armplanref23_Spread.sound : ProcSound Tryd.prog glob0 24 armplanref23_Spread.p :=
  fn_sound (E := armplanref23_Spread.E) (c := armplanref23_Spread.body0) (ann := armplanref23_Spread.ann) armplanref23_Spread.ok Tryd.func24 (of_decide_eq_true (by kernel_rfl)) rfl rfl rfl (by decide +kernel) ((SubsOk_z _ _) : SubsOk armplanref23_Spread.E armplanref23_Spread.body0 armplanref23_Spread.ann) (fun _ => rfl) rfl armplanref23_Spread.eq

/-! ### armplan/armplanref10.Has: function 30 -/
noncomputable def armplanref10_Has.p0.round (v0 : List ((Int × Int))) (v1 : List (Int)) (v2 : Int) : Option ((List ((Int × Int)) × List (Int) × Int) ⊕ ((Bool) ⊕ (Unit))) :=
  (bif decide (v2 < (v1.length : Int)) then (bif decide (0 ≤ v2) then (bif decide (v2 < (v0.length : Int)) then (bif decide (0 ≤ v2) then (bif decide (v2 < (v1.length : Int)) then ((armplanref1_Has.F (v0.getD v2.toNat ((0 : Int), (0 : Int))).1 (v0.getD v2.toNat ((0 : Int), (0 : Int))).2 (v1.getD v2.toNat (0 : Int))).bind fun r3 => (bif (!r3) then some (.inr (.inl false)) else some (.inl (v0, v1, (IntKind.wrap .i64 (v2 + (1 : Int))))))) else none) else none) else none) else none) else some (.inr (.inr ())))
noncomputable def armplanref10_Has.p0.step (s : List ((Int × Int)) × List (Int) × Int) : Option ((List ((Int × Int)) × List (Int) × Int) ⊕ ((Bool) ⊕ (Unit))) := armplanref10_Has.p0.round s.1 s.2.1 s.2.2
noncomputable def armplanref10_Has.p0.inS : Shape := ⟨[(0, .lf (.dat (.pair (.int .i64) (.int .i64)))), (1, .lf (.dat (.int .i64))), (5, .lf (.sc (.int .i64)))], []⟩
noncomputable def armplanref10_Has.p0.w0 : Way := { ex := .rt, S := ⟨[(4, .lf (.sc .bool))], []⟩, R := Bool, post := fun r => ((r, ()), ()), un := fun x => x.1.1 }
noncomputable def armplanref10_Has.p0.w1 : Way := { ex := (.ex 0), S := ⟨[], []⟩, R := Unit, post := fun r => ((), ()), un := fun x => () }
noncomputable def armplanref10_Has.p0.outs : List Way := [armplanref10_Has.p0.w0, armplanref10_Has.p0.w1]
noncomputable def armplanref10_Has.p0.un (x : Tup armplanref10_Has.p0.inS) : List ((Int × Int)) × List (Int) × Int := (x.1.1, x.1.2.1, x.1.2.2.1)
noncomputable def armplanref10_Has.p0.lp : LProc := { inS := armplanref10_Has.p0.inS, outs := armplanref10_Has.p0.outs, F := fun x => loopF armplanref10_Has.p0.step (armplanref10_Has.p0.un x) }
noncomputable def armplanref10_Has.F0 (a0 : List ((Int × Int))) (a1 : List (Int)) : Option (Bool) :=
  ((armplanref10_allValid.F a0).bind fun r1 => (bif (!r1) then some false else (bif ((a0.length : Int) != (a1.length : Int)) then some false else ((loopF armplanref10_Has.p0.step (a0, a1, (0 : Int))).bind fun y4 => (Sum.elim (fun y5 => some y5) (fun z6 => some true) y4)))))
noncomputable def armplanref10_Has.F : (List ((Int × Int))) → (List (Int)) → Option (Bool) := lock armplanref10_Has.F0
theorem armplanref10_Has.F_eq : armplanref10_Has.F = armplanref10_Has.F0 := lock_eq _
noncomputable def armplanref10_Has.p : Proc := { nargs := 2, inS := ⟨[(0, .lf (.dat (.pair (.int .i64) (.int .i64)))), (1, .lf (.dat (.int .i64)))], []⟩, outS := ⟨[(0, .lf (.sc .bool))], []⟩, n0 := 0, R := Bool, F := fun x => armplanref10_Has.F x.1.1 x.1.2.1, post := fun r => ((r, ()), ()), un := fun x => x.1.1 }
noncomputable def armplanref10_Has.E : Env := { P := Tryd.prog, ty := tyTab [], glob := glob0, proc := procTab [(43, armplanref10_allValid.p), (44, armplanref1_Has.p)], lproc := lprocTab [(0, armplanref10_Has.p0.lp)], n0 := 0, ntmps := 32 }
theorem armplanref10_Has.ok : ProcsOk armplanref10_Has.E := AllSound.ok (l := [(43, armplanref10_allValid.p), (44, armplanref1_Has.p)]) (by kernel_rfl) rfl ⟨armplanref10_allValid.sound, armplanref1_Has.sound, trivial⟩
noncomputable def armplanref10_Has.body0 : Code := (match Tryd.f30.body with | some c => c | none => .skip)
noncomputable def armplanref10_Has.p0.c : Code := ((codeAt armplanref10_Has.body0 [.r, .r, .l, .r, .b, .b]).getD .skip)
noncomputable def armplanref10_Has.p0.ann : Ann := .z
set_option maxRecDepth 100000 in
theorem armplanref10_Has.p0.eq (x : Tup armplanref10_Has.p0.inS) : peRound armplanref10_Has.E armplanref10_Has.p0.c armplanref10_Has.p0.ann _ armplanref10_Has.p0.inS armplanref10_Has.p0.un armplanref10_Has.p0.outs x = armplanref10_Has.p0.step (armplanref10_Has.p0.un x) := by
  kernel_rfl
set_option maxRecDepth 100000 in
theorem armplanref10_Has.p0.sound : LProcSound armplanref10_Has.E (.loop armplanref10_Has.p0.c) armplanref10_Has.p0.lp :=
  loop_sound (ann := armplanref10_Has.p0.ann) armplanref10_Has.ok ((SubsOk_z _ _) : SubsOk armplanref10_Has.E armplanref10_Has.p0.c armplanref10_Has.p0.ann) (by intro a ha; simp only [armplanref10_Has.p0.outs, List.mem_cons, List.not_mem_nil, or_false] at ha; rcases ha with rfl | rfl <;> exact fun _ => rfl) armplanref10_Has.p0.eq
noncomputable def armplanref10_Has.ann : Ann := .s (.z) (.s (.z) (.s (.s (.z) (.b (.sub 0))) (.z)))
set_option maxRecDepth 100000 in
theorem armplanref10_Has.eq (x : Tup armplanref10_Has.p.inS) : peFn armplanref10_Has.E Tryd.f30 armplanref10_Has.ann armplanref10_Has.p x = armplanref10_Has.p.F x := by
  have h : peFn armplanref10_Has.E Tryd.f30 armplanref10_Has.ann armplanref10_Has.p x = armplanref10_Has.F0 x.1.1 x.1.2.1 := by kernel_rfl
  exact h.trans (by show _ = armplanref10_Has.F x.1.1 x.1.2.1; rw [armplanref10_Has.F_eq])
set_option maxRecDepth 100000 in
theorem armplanref10_Has.sound : ProcSound Tryd.prog glob0 30 armplanref10_Has.p :=
  fn_sound (E := armplanref10_Has.E) (c := armplanref10_Has.body0) (ann := armplanref10_Has.ann) armplanref10_Has.ok Tryd.func30 (of_decide_eq_true (by kernel_rfl)) rfl rfl rfl (by decide +kernel) (⟨(SubsOk_z _ _), ⟨(SubsOk_z _ _), ⟨⟨(SubsOk_z _ _), (sub_of rfl armplanref10_Has.p0.sound)⟩, (SubsOk_z _ _)⟩⟩⟩ : SubsOk armplanref10_Has.E armplanref10_Has.body0 armplanref10_Has.ann) (fun _ => rfl) rfl armplanref10_Has.eq

/-! ### armplan/sampler.Uniform: function 31 -/
noncomputable def sampler_Uniform.p0.round (v0 : List ((Int × Int))) (v1 : Int) (v2 : Int) (v3 : List ((Int × Int))) (v4 : Int) (v5 : Int) (v6 : List (Int)) : Option ((List ((Int × Int)) × Int × Int × List ((Int × Int)) × Int × Int × List (Int)) ⊕ ((List (Int)))) :=
  (bif decide (v5 < v4) then (bif decide (0 ≤ v5) then (bif decide (v5 < (v3.length : Int)) then ((sampler_Word.F v1 (IntKind.wrap .u64 ((IntKind.wrap .u64 (v2 * (IntKind.wrap .u64 (v0.length : Int)))) + (IntKind.wrap .u64 v5)))).bind fun r4 => ((sampler_Spread.F r4 (v3.getD v5.toNat ((0 : Int), (0 : Int))).1 (v3.getD v5.toNat ((0 : Int), (0 : Int))).2).bind fun r5 => (bif decide (0 ≤ v5) then (bif decide (v5 < (v6.length : Int)) then some (.inl (v0, v1, v2, v3, v4, (IntKind.wrap .i64 (v5 + (1 : Int))), (v6.set v5.toNat r5))) else none) else none))) else none) else none) else some (.inr v6))
noncomputable def sampler_Uniform.p0.step (s : List ((Int × Int)) × Int × Int × List ((Int × Int)) × Int × Int × List (Int)) : Option ((List ((Int × Int)) × Int × Int × List ((Int × Int)) × Int × Int × List (Int)) ⊕ ((List (Int)))) := sampler_Uniform.p0.round s.1 s.2.1 s.2.2.1 s.2.2.2.1 s.2.2.2.2.1 s.2.2.2.2.2.1 s.2.2.2.2.2.2
noncomputable def sampler_Uniform.p0.inS : Shape := ⟨[(0, .lf (.dat (.pair (.int .i64) (.int .i64)))), (1, .lf (.sc (.int .u64))), (2, .lf (.sc (.int .u64))), (7, .lf (.own 0)), (16, .lf (.dat (.pair (.int .i64) (.int .i64)))), (17, .lf (.sc (.int .i64))), (18, .lf (.sc (.int .i64)))], [.row 2 (.int .i64)]⟩
noncomputable def sampler_Uniform.p0.w0 : Way := { ex := (.ex 0), S := ⟨[(7, .lf (.own 0))], [.row 2 (.int .i64)]⟩, R := List (Int), post := fun r => (((), ()), (r, ())), un := fun x => x.2.1 }
noncomputable def sampler_Uniform.p0.outs : List Way := [sampler_Uniform.p0.w0]
noncomputable def sampler_Uniform.p0.un (x : Tup sampler_Uniform.p0.inS) : List ((Int × Int)) × Int × Int × List ((Int × Int)) × Int × Int × List (Int) := (x.1.1, x.1.2.1, x.1.2.2.1, x.1.2.2.2.2.1, x.1.2.2.2.2.2.1, x.1.2.2.2.2.2.2.1, x.2.1)
noncomputable def sampler_Uniform.p0.lp : LProc := { inS := sampler_Uniform.p0.inS, outs := sampler_Uniform.p0.outs, F := fun x => loopF sampler_Uniform.p0.step (sampler_Uniform.p0.un x) }
noncomputable def sampler_Uniform.F0 (a0 : List ((Int × Int))) (a1 : Int) (a2 : Int) : Option (List (Int)) :=
  ((sampler_usable.F a0).bind fun r1 => (bif (!r1) then some ([] : List (Int)) else (bif decide (0 ≤ (a0.length : Int)) then (bif decide ((a0.length : Int).toNat ≤ 140737488355328 / 8) then ((loopF sampler_Uniform.p0.step (a0, a1, a2, a0, (a0.length : Int), (0 : Int), (List.replicate (a0.length : Int).toNat (0 : Int)))).bind fun y6 => some y6) else none) else none)))
noncomputable def sampler_Uniform.F : (List ((Int × Int))) → Int → Int → Option (List (Int)) := lock sampler_Uniform.F0
theorem sampler_Uniform.F_eq : sampler_Uniform.F = sampler_Uniform.F0 := lock_eq _
noncomputable def sampler_Uniform.p : Proc := { nargs := 3, inS := ⟨[(0, .lf (.dat (.pair (.int .i64) (.int .i64)))), (1, .lf (.sc (.int .u64))), (2, .lf (.sc (.int .u64)))], []⟩, outS := ⟨[(0, .lf (.own 0))], [.row 2 (.int .i64)]⟩, n0 := 0, R := List (Int), F := fun x => sampler_Uniform.F x.1.1 x.1.2.1 x.1.2.2.1, post := fun r => (((), ()), (r, ())), un := fun x => x.2.1 }
noncomputable def sampler_Uniform.E : Env := { P := Tryd.prog, ty := tyTab [(2, (.int .i64))], glob := glob0, proc := procTab [(34, sampler_usable.p), (27, sampler_Word.p), (23, sampler_Spread.p)], lproc := lprocTab [(0, sampler_Uniform.p0.lp)], n0 := 0, ntmps := 43 }
theorem sampler_Uniform.ok : ProcsOk sampler_Uniform.E := AllSound.ok (l := [(34, sampler_usable.p), (27, sampler_Word.p), (23, sampler_Spread.p)]) (by kernel_rfl) rfl ⟨sampler_usable.sound, sampler_Word.sound, sampler_Spread.sound, trivial⟩
noncomputable def sampler_Uniform.body0 : Code := (match Tryd.f31.body with | some c => c | none => .skip)
noncomputable def sampler_Uniform.p0.c : Code := ((codeAt sampler_Uniform.body0 [.r, .r, .r, .l, .r, .b, .b]).getD .skip)
noncomputable def sampler_Uniform.p0.ann : Ann := .z
set_option maxRecDepth 100000 in
theorem sampler_Uniform.p0.eq (x : Tup sampler_Uniform.p0.inS) : peRound sampler_Uniform.E sampler_Uniform.p0.c sampler_Uniform.p0.ann _ sampler_Uniform.p0.inS sampler_Uniform.p0.un sampler_Uniform.p0.outs x = sampler_Uniform.p0.step (sampler_Uniform.p0.un x) := by
  kernel_rfl
set_option maxRecDepth 100000 in
theorem sampler_Uniform.p0.sound : LProcSound sampler_Uniform.E (.loop sampler_Uniform.p0.c) sampler_Uniform.p0.lp :=
  loop_sound (ann := sampler_Uniform.p0.ann) sampler_Uniform.ok ((SubsOk_z _ _) : SubsOk sampler_Uniform.E sampler_Uniform.p0.c sampler_Uniform.p0.ann) (by intro a ha; simp only [sampler_Uniform.p0.outs, List.mem_cons, List.not_mem_nil, or_false] at ha; rcases ha with rfl <;> exact fun _ => rfl) sampler_Uniform.p0.eq
noncomputable def sampler_Uniform.ann : Ann := .s (.z) (.s (.z) (.s (.z) (.s (.s (.z) (.b (.sub 0))) (.z))))
set_option maxRecDepth 100000 in
theorem sampler_Uniform.eq (x : Tup sampler_Uniform.p.inS) : peFn sampler_Uniform.E Tryd.f31 sampler_Uniform.ann sampler_Uniform.p x = sampler_Uniform.p.F x := by
  have h : peFn sampler_Uniform.E Tryd.f31 sampler_Uniform.ann sampler_Uniform.p x = sampler_Uniform.F0 x.1.1 x.1.2.1 x.1.2.2.1 := by kernel_rfl
  exact h.trans (by show _ = sampler_Uniform.F x.1.1 x.1.2.1 x.1.2.2.1; rw [sampler_Uniform.F_eq])
set_option maxRecDepth 100000 in
theorem sampler_Uniform.sound : ProcSound Tryd.prog glob0 31 sampler_Uniform.p :=
  fn_sound (E := sampler_Uniform.E) (c := sampler_Uniform.body0) (ann := sampler_Uniform.ann) sampler_Uniform.ok Tryd.func31 (of_decide_eq_true (by kernel_rfl)) rfl rfl rfl (by decide +kernel) (⟨(SubsOk_z _ _), ⟨(SubsOk_z _ _), ⟨(SubsOk_z _ _), ⟨⟨(SubsOk_z _ _), (sub_of rfl sampler_Uniform.p0.sound)⟩, (SubsOk_z _ _)⟩⟩⟩⟩ : SubsOk sampler_Uniform.E sampler_Uniform.body0 sampler_Uniform.ann) (fun _ => rfl) rfl sampler_Uniform.eq

/-! ### math/bits.Div64: function 39 -/
noncomputable def bits_Div64.p0.round (v0 : Int) (v1 : Int) (v2 : Int) (v3 : Int) (v4 : Int) (v5 : Int) (v6 : Int) (v7 : Int) (v8 : Int) : Option ((Int × Int × Int × Int × Int × Int × Int × Int × Int) ⊕ ((Int × Int × Int × Int × Int × Int × Int × Int))) :=
  (bif decide (v7 ≥ (4294967296 : Int)) then (bif decide ((IntKind.wrap .u64 (v8 + v2)) ≥ (4294967296 : Int)) then some (.inr (v0, v1, v2, v3, v4, v5, v6, (IntKind.wrap .u64 (v7 - (1 : Int))))) else some (.inl (v0, v1, v2, v3, v4, v5, v6, (IntKind.wrap .u64 (v7 - (1 : Int))), (IntKind.wrap .u64 (v8 + v2))))) else (bif decide ((IntKind.wrap .u64 (v7 * v3)) > (IntKind.wrap .u64 ((IntKind.wrap .u64 ((4294967296 : Int) * v8)) + v5))) then (bif decide ((IntKind.wrap .u64 (v8 + v2)) ≥ (4294967296 : Int)) then some (.inr (v0, v1, v2, v3, v4, v5, v6, (IntKind.wrap .u64 (v7 - (1 : Int))))) else some (.inl (v0, v1, v2, v3, v4, v5, v6, (IntKind.wrap .u64 (v7 - (1 : Int))), (IntKind.wrap .u64 (v8 + v2))))) else some (.inr (v0, v1, v2, v3, v4, v5, v6, v7))))
noncomputable def bits_Div64.p0.step (s : Int × Int × Int × Int × Int × Int × Int × Int × Int) : Option ((Int × Int × Int × Int × Int × Int × Int × Int × Int) ⊕ ((Int × Int × Int × Int × Int × Int × Int × Int))) := bits_Div64.p0.round s.1 s.2.1 s.2.2.1 s.2.2.2.1 s.2.2.2.2.1 s.2.2.2.2.2.1 s.2.2.2.2.2.2.1 s.2.2.2.2.2.2.2.1 s.2.2.2.2.2.2.2.2
noncomputable def bits_Div64.p0.inS : Shape := ⟨[(2, .lf (.sc (.int .u64))), (8, .lf (.sc (.int .u64))), (9, .lf (.sc (.int .u64))), (10, .lf (.sc (.int .u64))), (11, .lf (.sc (.int .u64))), (13, .lf (.sc (.int .u64))), (14, .lf (.sc (.int .u64))), (15, .lf (.sc (.int .u64))), (16, .lf (.sc (.int .u64)))], []⟩
noncomputable def bits_Div64.p0.w0 : Way := { ex := (.ex 0), S := ⟨[(2, .lf (.sc (.int .u64))), (8, .lf (.sc (.int .u64))), (9, .lf (.sc (.int .u64))), (10, .lf (.sc (.int .u64))), (11, .lf (.sc (.int .u64))), (13, .lf (.sc (.int .u64))), (14, .lf (.sc (.int .u64))), (15, .lf (.sc (.int .u64)))], []⟩, R := Int × Int × Int × Int × Int × Int × Int × Int, post := fun r => ((r.1, (r.2.1, (r.2.2.1, (r.2.2.2.1, (r.2.2.2.2.1, (r.2.2.2.2.2.1, (r.2.2.2.2.2.2.1, (r.2.2.2.2.2.2.2, ())))))))), ()), un := fun x => (x.1.1, x.1.2.1, x.1.2.2.1, x.1.2.2.2.1, x.1.2.2.2.2.1, x.1.2.2.2.2.2.1, x.1.2.2.2.2.2.2.1, x.1.2.2.2.2.2.2.2.1) }
noncomputable def bits_Div64.p0.outs : List Way := [bits_Div64.p0.w0]
noncomputable def bits_Div64.p0.un (x : Tup bits_Div64.p0.inS) : Int × Int × Int × Int × Int × Int × Int × Int × Int := (x.1.1, x.1.2.1, x.1.2.2.1, x.1.2.2.2.1, x.1.2.2.2.2.1, x.1.2.2.2.2.2.1, x.1.2.2.2.2.2.2.1, x.1.2.2.2.2.2.2.2.1, x.1.2.2.2.2.2.2.2.2.1)
noncomputable def bits_Div64.p0.lp : LProc := { inS := bits_Div64.p0.inS, outs := bits_Div64.p0.outs, F := fun x => loopF bits_Div64.p0.step (bits_Div64.p0.un x) }
noncomputable def bits_Div64.p1.round (v0 : Int) (v1 : Int) (v2 : Int) (v3 : Int) (v4 : Int) (v5 : Int) (v6 : Int) (v7 : Int) (v8 : Int) : Option ((Int × Int × Int × Int × Int × Int × Int × Int × Int) ⊕ ((Int × Int × Int × Int × Int × Int))) :=
  (bif decide (v8 ≥ (4294967296 : Int)) then (bif decide ((IntKind.wrap .u64 (v6 + v2)) ≥ (4294967296 : Int)) then some (.inr (v0, v1, v4, v5, v7, (IntKind.wrap .u64 (v8 - (1 : Int))))) else some (.inl (v0, v1, v2, v3, v4, v5, (IntKind.wrap .u64 (v6 + v2)), v7, (IntKind.wrap .u64 (v8 - (1 : Int)))))) else (bif decide ((IntKind.wrap .u64 (v8 * v3)) > (IntKind.wrap .u64 ((IntKind.wrap .u64 ((4294967296 : Int) * v6)) + v4))) then (bif decide ((IntKind.wrap .u64 (v6 + v2)) ≥ (4294967296 : Int)) then some (.inr (v0, v1, v4, v5, v7, (IntKind.wrap .u64 (v8 - (1 : Int))))) else some (.inl (v0, v1, v2, v3, v4, v5, (IntKind.wrap .u64 (v6 + v2)), v7, (IntKind.wrap .u64 (v8 - (1 : Int)))))) else some (.inr (v0, v1, v4, v5, v7, v8))))
noncomputable def bits_Div64.p1.step (s : Int × Int × Int × Int × Int × Int × Int × Int × Int) : Option ((Int × Int × Int × Int × Int × Int × Int × Int × Int) ⊕ ((Int × Int × Int × Int × Int × Int))) := bits_Div64.p1.round s.1 s.2.1 s.2.2.1 s.2.2.2.1 s.2.2.2.2.1 s.2.2.2.2.2.1 s.2.2.2.2.2.2.1 s.2.2.2.2.2.2.2.1 s.2.2.2.2.2.2.2.2
noncomputable def bits_Div64.p1.inS : Shape := ⟨[(2, .lf (.sc (.int .u64))), (8, .lf (.sc (.int .u64))), (9, .lf (.sc (.int .u64))), (10, .lf (.sc (.int .u64))), (14, .lf (.sc (.int .u64))), (15, .lf (.sc (.int .u64))), (16, .lf (.sc (.int .u64))), (17, .lf (.sc (.int .u64))), (18, .lf (.sc (.int .u64)))], []⟩
noncomputable def bits_Div64.p1.w0 : Way := { ex := (.ex 2), S := ⟨[(2, .lf (.sc (.int .u64))), (8, .lf (.sc (.int .u64))), (14, .lf (.sc (.int .u64))), (15, .lf (.sc (.int .u64))), (17, .lf (.sc (.int .u64))), (18, .lf (.sc (.int .u64)))], []⟩, R := Int × Int × Int × Int × Int × Int, post := fun r => ((r.1, (r.2.1, (r.2.2.1, (r.2.2.2.1, (r.2.2.2.2.1, (r.2.2.2.2.2, ())))))), ()), un := fun x => (x.1.1, x.1.2.1, x.1.2.2.1, x.1.2.2.2.1, x.1.2.2.2.2.1, x.1.2.2.2.2.2.1) }
noncomputable def bits_Div64.p1.outs : List Way := [bits_Div64.p1.w0]
noncomputable def bits_Div64.p1.un (x : Tup bits_Div64.p1.inS) : Int × Int × Int × Int × Int × Int × Int × Int × Int := (x.1.1, x.1.2.1, x.1.2.2.1, x.1.2.2.2.1, x.1.2.2.2.2.1, x.1.2.2.2.2.2.1, x.1.2.2.2.2.2.2.1, x.1.2.2.2.2.2.2.2.1, x.1.2.2.2.2.2.2.2.2.1)
noncomputable def bits_Div64.p1.lp : LProc := { inS := bits_Div64.p1.inS, outs := bits_Div64.p1.outs, F := fun x => loopF bits_Div64.p1.step (bits_Div64.p1.un x) }
noncomputable def bits_Div64.F0 (a0 : Int) (a1 : Int) (a2 : Int) : Option (Int × Int) :=
  (bif (a2 == (0 : Int)) then none else (bif decide (a2 ≤ a0) then none else (bif (a0 == (0 : Int)) then (bif (a2 != 0) then (bif (a2 != 0) then some ((IntKind.wrap .u64 (a1.tdiv a2)), (a1.tmod a2)) else none) else none) else ((bits_LeadingZeros64.F a2).bind fun r1 => (bif decide (0 ≤ (IntKind.wrap .u64 r1)) then (bif decide (0 ≤ (IntKind.wrap .u64 r1)) then (bif decide (0 ≤ (IntKind.wrap .u64 ((64 : Int) - (IntKind.wrap .u64 r1)))) then (bif decide (0 ≤ (IntKind.wrap .u64 r1)) then (bif ((shrI .u64 (shlI .u64 a2 (IntKind.wrap .u64 r1)) (32 : Int)) != 0) then ((loopF bits_Div64.p0.step ((shlI .u64 a2 (IntKind.wrap .u64 r1)), (IntKind.wrap .u64 r1), (shrI .u64 (shlI .u64 a2 (IntKind.wrap .u64 r1)) (32 : Int)), (ibits .and .u64 (shlI .u64 a2 (IntKind.wrap .u64 r1)) (4294967295 : Int)), (ibits .or .u64 (shlI .u64 a0 (IntKind.wrap .u64 r1)) (shrI .u64 a1 (IntKind.wrap .u64 ((64 : Int) - (IntKind.wrap .u64 r1))))), (shrI .u64 (shlI .u64 a1 (IntKind.wrap .u64 r1)) (32 : Int)), (ibits .and .u64 (shlI .u64 a1 (IntKind.wrap .u64 r1)) (4294967295 : Int)), (IntKind.wrap .u64 ((ibits .or .u64 (shlI .u64 a0 (IntKind.wrap .u64 r1)) (shrI .u64 a1 (IntKind.wrap .u64 ((64 : Int) - (IntKind.wrap .u64 r1))))).tdiv (shrI .u64 (shlI .u64 a2 (IntKind.wrap .u64 r1)) (32 : Int)))), (IntKind.wrap .u64 ((ibits .or .u64 (shlI .u64 a0 (IntKind.wrap .u64 r1)) (shrI .u64 a1 (IntKind.wrap .u64 ((64 : Int) - (IntKind.wrap .u64 r1))))) - (IntKind.wrap .u64 ((IntKind.wrap .u64 ((ibits .or .u64 (shlI .u64 a0 (IntKind.wrap .u64 r1)) (shrI .u64 a1 (IntKind.wrap .u64 ((64 : Int) - (IntKind.wrap .u64 r1))))).tdiv (shrI .u64 (shlI .u64 a2 (IntKind.wrap .u64 r1)) (32 : Int)))) * (shrI .u64 (shlI .u64 a2 (IntKind.wrap .u64 r1)) (32 : Int)))))))).bind fun y2 => (bif (y2.2.2.1 != 0) then ((loopF bits_Div64.p1.step (y2.1, y2.2.1, y2.2.2.1, y2.2.2.2.1, y2.2.2.2.2.2.2.1, y2.2.2.2.2.2.2.2, (IntKind.wrap .u64 ((IntKind.wrap .u64 ((IntKind.wrap .u64 ((IntKind.wrap .u64 (y2.2.2.2.2.1 * (4294967296 : Int))) + y2.2.2.2.2.2.1)) - (IntKind.wrap .u64 (y2.2.2.2.2.2.2.2 * y2.1)))) - (IntKind.wrap .u64 ((IntKind.wrap .u64 ((IntKind.wrap .u64 ((IntKind.wrap .u64 ((IntKind.wrap .u64 (y2.2.2.2.2.1 * (4294967296 : Int))) + y2.2.2.2.2.2.1)) - (IntKind.wrap .u64 (y2.2.2.2.2.2.2.2 * y2.1)))).tdiv y2.2.2.1)) * y2.2.2.1)))), (IntKind.wrap .u64 ((IntKind.wrap .u64 ((IntKind.wrap .u64 (y2.2.2.2.2.1 * (4294967296 : Int))) + y2.2.2.2.2.2.1)) - (IntKind.wrap .u64 (y2.2.2.2.2.2.2.2 * y2.1)))), (IntKind.wrap .u64 ((IntKind.wrap .u64 ((IntKind.wrap .u64 ((IntKind.wrap .u64 (y2.2.2.2.2.1 * (4294967296 : Int))) + y2.2.2.2.2.2.1)) - (IntKind.wrap .u64 (y2.2.2.2.2.2.2.2 * y2.1)))).tdiv y2.2.2.1)))).bind fun y3 => (bif decide (0 ≤ y3.2.1) then some ((IntKind.wrap .u64 ((IntKind.wrap .u64 (y3.2.2.2.1 * (4294967296 : Int))) + y3.2.2.2.2.2)), (shrI .u64 (IntKind.wrap .u64 ((IntKind.wrap .u64 ((IntKind.wrap .u64 (y3.2.2.2.2.1 * (4294967296 : Int))) + y3.2.2.1)) - (IntKind.wrap .u64 (y3.2.2.2.2.2 * y3.1)))) y3.2.1)) else none)) else none)) else none) else none) else none) else none) else none)))))
noncomputable def bits_Div64.F : Int → Int → Int → Option (Int × Int) := lock bits_Div64.F0
theorem bits_Div64.F_eq : bits_Div64.F = bits_Div64.F0 := lock_eq _
noncomputable def bits_Div64.p : Proc := { nargs := 3, inS := ⟨[(0, .lf (.sc (.int .u64))), (1, .lf (.sc (.int .u64))), (2, .lf (.sc (.int .u64)))], []⟩, outS := ⟨[(0, .lf (.sc (.int .u64))), (1, .lf (.sc (.int .u64)))], []⟩, n0 := 0, R := Int × Int, F := fun x => bits_Div64.F x.1.1 x.1.2.1 x.1.2.2.1, post := fun r => ((r.1, (r.2, ())), ()), un := fun x => (x.1.1, x.1.2.1) }
noncomputable def bits_Div64.E : Env := { P := Tryd.prog, ty := tyTab [], glob := glob0, proc := procTab [(49, bits_LeadingZeros64.p)], lproc := lprocTab [(0, bits_Div64.p0.lp), (1, bits_Div64.p1.lp)], n0 := 0, ntmps := 135 }
theorem bits_Div64.ok : ProcsOk bits_Div64.E := AllSound.ok (l := [(49, bits_LeadingZeros64.p)]) (by kernel_rfl) rfl ⟨bits_LeadingZeros64.sound, trivial⟩
noncomputable def bits_Div64.body0 : Code := (match Tryd.f39.body with | some c => c | none => .skip)
noncomputable def bits_Div64.p1.c : Code := ((codeAt bits_Div64.body0 [.r, .r, .r, .r, .r, .r, .r, .r, .r, .r, .r, .r, .r, .r, .r, .r, .r, .r, .l, .b, .b]).getD .skip)
noncomputable def bits_Div64.p1.ann : Ann := .z
set_option maxRecDepth 100000 in
theorem bits_Div64.p1.eq (x : Tup bits_Div64.p1.inS) : peRound bits_Div64.E bits_Div64.p1.c bits_Div64.p1.ann _ bits_Div64.p1.inS bits_Div64.p1.un bits_Div64.p1.outs x = bits_Div64.p1.step (bits_Div64.p1.un x) := by
  kernel_rfl
set_option maxRecDepth 100000 in
theorem bits_Div64.p1.sound : LProcSound bits_Div64.E (.loop bits_Div64.p1.c) bits_Div64.p1.lp :=
  loop_sound (ann := bits_Div64.p1.ann) bits_Div64.ok ((SubsOk_z _ _) : SubsOk bits_Div64.E bits_Div64.p1.c bits_Div64.p1.ann) (by intro a ha; simp only [bits_Div64.p1.outs, List.mem_cons, List.not_mem_nil, or_false] at ha; rcases ha with rfl <;> exact fun _ => rfl) bits_Div64.p1.eq
noncomputable def bits_Div64.p0.c : Code := ((codeAt bits_Div64.body0 [.r, .r, .r, .r, .r, .r, .r, .r, .r, .r, .r, .r, .r, .r, .l, .b, .b]).getD .skip)
noncomputable def bits_Div64.p0.ann : Ann := .z
set_option maxRecDepth 100000 in
theorem bits_Div64.p0.eq (x : Tup bits_Div64.p0.inS) : peRound bits_Div64.E bits_Div64.p0.c bits_Div64.p0.ann _ bits_Div64.p0.inS bits_Div64.p0.un bits_Div64.p0.outs x = bits_Div64.p0.step (bits_Div64.p0.un x) := by
  kernel_rfl
set_option maxRecDepth 100000 in
theorem bits_Div64.p0.sound : LProcSound bits_Div64.E (.loop bits_Div64.p0.c) bits_Div64.p0.lp :=
  loop_sound (ann := bits_Div64.p0.ann) bits_Div64.ok ((SubsOk_z _ _) : SubsOk bits_Div64.E bits_Div64.p0.c bits_Div64.p0.ann) (by intro a ha; simp only [bits_Div64.p0.outs, List.mem_cons, List.not_mem_nil, or_false] at ha; rcases ha with rfl <;> exact fun _ => rfl) bits_Div64.p0.eq
noncomputable def bits_Div64.ann : Ann := .s (.z) (.s (.z) (.s (.z) (.s (.z) (.s (.z) (.s (.z) (.s (.z) (.s (.z) (.s (.z) (.s (.z) (.s (.z) (.s (.z) (.s (.z) (.s (.z) (.s (.b (.sub 0)) (.s (.z) (.s (.z) (.s (.z) (.s (.b (.sub 1)) (.z)))))))))))))))))))
set_option maxRecDepth 100000 in
theorem bits_Div64.eq (x : Tup bits_Div64.p.inS) : peFn bits_Div64.E Tryd.f39 bits_Div64.ann bits_Div64.p x = bits_Div64.p.F x := by
  have h : peFn bits_Div64.E Tryd.f39 bits_Div64.ann bits_Div64.p x = bits_Div64.F0 x.1.1 x.1.2.1 x.1.2.2.1 := by kernel_rfl
  exact h.trans (by show _ = bits_Div64.F x.1.1 x.1.2.1 x.1.2.2.1; rw [bits_Div64.F_eq])
set_option maxRecDepth 100000 in
theorem bits_Div64.sound : ProcSound Tryd.prog glob0 39 bits_Div64.p :=
  fn_sound (E := bits_Div64.E) (c := bits_Div64.body0) (ann := bits_Div64.ann) bits_Div64.ok Tryd.func39 (of_decide_eq_true (by kernel_rfl)) rfl rfl rfl (by decide +kernel) (⟨(SubsOk_z _ _), ⟨(SubsOk_z _ _), ⟨(SubsOk_z _ _), ⟨(SubsOk_z _ _), ⟨(SubsOk_z _ _), ⟨(SubsOk_z _ _), ⟨(SubsOk_z _ _), ⟨(SubsOk_z _ _), ⟨(SubsOk_z _ _), ⟨(SubsOk_z _ _), ⟨(SubsOk_z _ _), ⟨(SubsOk_z _ _), ⟨(SubsOk_z _ _), ⟨(SubsOk_z _ _), ⟨(sub_of rfl bits_Div64.p0.sound), ⟨(SubsOk_z _ _), ⟨(SubsOk_z _ _), ⟨(SubsOk_z _ _), ⟨(sub_of rfl bits_Div64.p1.sound), (SubsOk_z _ _)⟩⟩⟩⟩⟩⟩⟩⟩⟩⟩⟩⟩⟩⟩⟩⟩⟩⟩⟩ : SubsOk bits_Div64.E bits_Div64.body0 bits_Div64.ann) (fun _ => rfl) rfl bits_Div64.eq

/-! ### armplan/armplanref23.Uniform: function 41 -/
noncomputable def armplanref23_Uniform.p0.round (v0 : List ((Int × Int))) (v1 : Int) (v2 : Int) (v3 : Int) (v4 : List (Int)) : Option ((List ((Int × Int)) × Int × Int × Int × List (Int)) ⊕ ((List (Int)))) :=
  (bif decide (v3 < (v0.length : Int)) then ((armplanref23_Word.F v1 (IntKind.wrap .u64 ((IntKind.wrap .u64 (v2 * (IntKind.wrap .u64 (v0.length : Int)))) + (IntKind.wrap .u64 v3)))).bind fun r6 => (bif decide (0 ≤ v3) then (bif decide (v3 < (v0.length : Int)) then (bif decide (0 ≤ v3) then (bif decide (v3 < (v0.length : Int)) then ((armplanref23_Spread.F r6 (v0.getD v3.toNat ((0 : Int), (0 : Int))).1 (v0.getD v3.toNat ((0 : Int), (0 : Int))).2).bind fun r7 => (bif decide (v4.length + ([r7] : List (Int)).length < 17592186044416) then some (.inl (v0, v1, v2, (IntKind.wrap .i64 (v3 + (1 : Int))), (v4 ++ ([r7] : List (Int))))) else none)) else none) else none) else none) else none)) else some (.inr v4))
noncomputable def armplanref23_Uniform.p0.step (s : List ((Int × Int)) × Int × Int × Int × List (Int)) : Option ((List ((Int × Int)) × Int × Int × Int × List (Int)) ⊕ ((List (Int)))) := armplanref23_Uniform.p0.round s.1 s.2.1 s.2.2.1 s.2.2.2.1 s.2.2.2.2
noncomputable def armplanref23_Uniform.p0.inS : Shape := ⟨[(0, .lf (.dat (.pair (.int .i64) (.int .i64)))), (1, .lf (.sc (.int .u64))), (2, .lf (.sc (.int .u64))), (7, .lf (.own 0)), (8, .lf (.sc (.int .i64)))], [.row 2 (.int .i64)]⟩
noncomputable def armplanref23_Uniform.p0.w0 : Way := { ex := (.ex 0), S := ⟨[(7, .lf (.own 0))], [.row 2 (.int .i64)]⟩, R := List (Int), post := fun r => (((), ()), (r, ())), un := fun x => x.2.1 }
noncomputable def armplanref23_Uniform.p0.outs : List Way := [armplanref23_Uniform.p0.w0]
noncomputable def armplanref23_Uniform.p0.un (x : Tup armplanref23_Uniform.p0.inS) : List ((Int × Int)) × Int × Int × Int × List (Int) := (x.1.1, x.1.2.1, x.1.2.2.1, x.1.2.2.2.2.1, x.2.1)
noncomputable def armplanref23_Uniform.p0.lp : LProc := { inS := armplanref23_Uniform.p0.inS, outs := armplanref23_Uniform.p0.outs, F := fun x => loopF armplanref23_Uniform.p0.step (armplanref23_Uniform.p0.un x) }
noncomputable def armplanref23_Uniform.F0 (a0 : List ((Int × Int))) (a1 : Int) (a2 : Int) : Option (List (Int)) :=
  ((armplanref23_sampled.F a0).bind fun r1 => (bif (!r1) then some ([] : List (Int)) else ((loopF armplanref23_Uniform.p0.step (a0, a1, a2, (0 : Int), ([] : List (Int)))).bind fun y8 => some y8)))
noncomputable def armplanref23_Uniform.F : (List ((Int × Int))) → Int → Int → Option (List (Int)) := lock armplanref23_Uniform.F0
theorem armplanref23_Uniform.F_eq : armplanref23_Uniform.F = armplanref23_Uniform.F0 := lock_eq _
noncomputable def armplanref23_Uniform.p : Proc := { nargs := 3, inS := ⟨[(0, .lf (.dat (.pair (.int .i64) (.int .i64)))), (1, .lf (.sc (.int .u64))), (2, .lf (.sc (.int .u64)))], []⟩, outS := ⟨[(0, .lf (.own 0))], [.row 2 (.int .i64)]⟩, n0 := 0, R := List (Int), F := fun x => armplanref23_Uniform.F x.1.1 x.1.2.1 x.1.2.2.1, post := fun r => (((), ()), (r, ())), un := fun x => x.2.1 }
noncomputable def armplanref23_Uniform.E : Env := { P := Tryd.prog, ty := tyTab [(2, (.int .i64))], glob := glob0, proc := procTab [(50, armplanref23_sampled.p), (28, armplanref23_Word.p), (24, armplanref23_Spread.p)], lproc := lprocTab [(0, armplanref23_Uniform.p0.lp)], n0 := 0, ntmps := 43 }
theorem armplanref23_Uniform.ok : ProcsOk armplanref23_Uniform.E := AllSound.ok (l := [(50, armplanref23_sampled.p), (28, armplanref23_Word.p), (24, armplanref23_Spread.p)]) (by kernel_rfl) rfl ⟨armplanref23_sampled.sound, armplanref23_Word.sound, armplanref23_Spread.sound, trivial⟩
noncomputable def armplanref23_Uniform.body0 : Code := (match Tryd.f41.body with | some c => c | none => .skip)
noncomputable def armplanref23_Uniform.p0.c : Code := ((codeAt armplanref23_Uniform.body0 [.r, .r, .r, .l, .r, .b, .b]).getD .skip)
noncomputable def armplanref23_Uniform.p0.ann : Ann := .z
set_option maxRecDepth 100000 in
theorem armplanref23_Uniform.p0.eq (x : Tup armplanref23_Uniform.p0.inS) : peRound armplanref23_Uniform.E armplanref23_Uniform.p0.c armplanref23_Uniform.p0.ann _ armplanref23_Uniform.p0.inS armplanref23_Uniform.p0.un armplanref23_Uniform.p0.outs x = armplanref23_Uniform.p0.step (armplanref23_Uniform.p0.un x) := by
  kernel_rfl
set_option maxRecDepth 100000 in
theorem armplanref23_Uniform.p0.sound : LProcSound armplanref23_Uniform.E (.loop armplanref23_Uniform.p0.c) armplanref23_Uniform.p0.lp :=
  loop_sound (ann := armplanref23_Uniform.p0.ann) armplanref23_Uniform.ok ((SubsOk_z _ _) : SubsOk armplanref23_Uniform.E armplanref23_Uniform.p0.c armplanref23_Uniform.p0.ann) (by intro a ha; simp only [armplanref23_Uniform.p0.outs, List.mem_cons, List.not_mem_nil, or_false] at ha; rcases ha with rfl <;> exact fun _ => rfl) armplanref23_Uniform.p0.eq
noncomputable def armplanref23_Uniform.ann : Ann := .s (.z) (.s (.z) (.s (.z) (.s (.s (.z) (.b (.sub 0))) (.z))))
set_option maxRecDepth 100000 in
theorem armplanref23_Uniform.eq (x : Tup armplanref23_Uniform.p.inS) : peFn armplanref23_Uniform.E Tryd.f41 armplanref23_Uniform.ann armplanref23_Uniform.p x = armplanref23_Uniform.p.F x := by
  have h : peFn armplanref23_Uniform.E Tryd.f41 armplanref23_Uniform.ann armplanref23_Uniform.p x = armplanref23_Uniform.F0 x.1.1 x.1.2.1 x.1.2.2.1 := by kernel_rfl
  exact h.trans (by show _ = armplanref23_Uniform.F x.1.1 x.1.2.1 x.1.2.2.1; rw [armplanref23_Uniform.F_eq])
set_option maxRecDepth 100000 in
theorem armplanref23_Uniform.sound : ProcSound Tryd.prog glob0 41 armplanref23_Uniform.p :=
  fn_sound (E := armplanref23_Uniform.E) (c := armplanref23_Uniform.body0) (ann := armplanref23_Uniform.ann) armplanref23_Uniform.ok Tryd.func41 (of_decide_eq_true (by kernel_rfl)) rfl rfl rfl (by decide +kernel) (⟨(SubsOk_z _ _), ⟨(SubsOk_z _ _), ⟨(SubsOk_z _ _), ⟨⟨(SubsOk_z _ _), (sub_of rfl armplanref23_Uniform.p0.sound)⟩, (SubsOk_z _ _)⟩⟩⟩⟩ : SubsOk armplanref23_Uniform.E armplanref23_Uniform.body0 armplanref23_Uniform.ann) (fun _ => rfl) rfl armplanref23_Uniform.eq

/-! ### armplan/sampler.Place: function 25 -/
noncomputable def sampler_Place.F0 (a0 : Int) (a1 : Int) (a2 : Int) (a3 : Int) : Option (Int) :=
  ((sampler_count.F a2 a3).bind fun r1 => (bif (r1 == (0 : Int)) then some a2 else (bif decide (a0 ≥ a1) then some a2 else ((bits_Mul64.F a0 r1).bind fun r2 => ((bits_Div64.F r2.1 r2.2 a1).bind fun r3 => some (IntKind.wrap .i64 (a2 + (IntKind.wrap .i64 r3.1))))))))
noncomputable def sampler_Place.F : Int → Int → Int → Int → Option (Int) := lock sampler_Place.F0
theorem sampler_Place.F_eq : sampler_Place.F = sampler_Place.F0 := lock_eq _
noncomputable def sampler_Place.p : Proc := { nargs := 4, inS := ⟨[(0, .lf (.sc (.int .u64))), (1, .lf (.sc (.int .u64))), (2, .lf (.sc (.int .i64))), (3, .lf (.sc (.int .i64)))], []⟩, outS := ⟨[(0, .lf (.sc (.int .i64)))], []⟩, n0 := 0, R := Int, F := fun x => sampler_Place.F x.1.1 x.1.2.1 x.1.2.2.1 x.1.2.2.2.1, post := fun r => ((r, ()), ()), un := fun x => x.1.1 }
noncomputable def sampler_Place.E : Env := { P := Tryd.prog, ty := tyTab [], glob := glob0, proc := procTab [(37, sampler_count.p), (36, bits_Mul64.p), (39, bits_Div64.p)], lproc := lprocTab [], n0 := 0, ntmps := 42 }
theorem sampler_Place.ok : ProcsOk sampler_Place.E := AllSound.ok (l := [(37, sampler_count.p), (36, bits_Mul64.p), (39, bits_Div64.p)]) (by kernel_rfl) rfl ⟨sampler_count.sound, bits_Mul64.sound, bits_Div64.sound, trivial⟩
noncomputable def sampler_Place.body0 : Code := (match Tryd.f25.body with | some c => c | none => .skip)
noncomputable def sampler_Place.ann : Ann := .z
set_option maxRecDepth 100000 in
theorem sampler_Place.eq (x : Tup sampler_Place.p.inS) : peFn sampler_Place.E Tryd.f25 sampler_Place.ann sampler_Place.p x = sampler_Place.p.F x := by
  have h : peFn sampler_Place.E Tryd.f25 sampler_Place.ann sampler_Place.p x = sampler_Place.F0 x.1.1 x.1.2.1 x.1.2.2.1 x.1.2.2.2.1 := by kernel_rfl
  exact h.trans (by show _ = sampler_Place.F x.1.1 x.1.2.1 x.1.2.2.1 x.1.2.2.2.1; rw [sampler_Place.F_eq])
set_option maxRecDepth 100000 in
theorem sampler_Place.sound : ProcSound Tryd.prog glob0 25 sampler_Place.p :=
  fn_sound (E := sampler_Place.E) (c := sampler_Place.body0) (ann := sampler_Place.ann) sampler_Place.ok Tryd.func25 (of_decide_eq_true (by kernel_rfl)) rfl rfl rfl (by decide +kernel) ((SubsOk_z _ _) : SubsOk sampler_Place.E sampler_Place.body0 sampler_Place.ann) (fun _ => rfl) rfl sampler_Place.eq

/-! ### armplan/armplanref23.Place: function 26 -/
noncomputable def armplanref23_Place.F0 (a0 : Int) (a1 : Int) (a2 : Int) (a3 : Int) : Option (Int) :=
  ((armplanref23_bounded.F a2 a3).bind fun r1 => (bif (!r1) then some a2 else (bif decide (a0 ≥ a1) then some a2 else ((bits_Mul64.F a0 (IntKind.wrap .u64 ((IntKind.wrap .u64 (IntKind.wrap .i64 (a3 - a2))) + (1 : Int)))).bind fun r2 => ((bits_Div64.F r2.1 r2.2 a1).bind fun r3 => some (IntKind.wrap .i64 (a2 + (IntKind.wrap .i64 r3.1))))))))
noncomputable def armplanref23_Place.F : Int → Int → Int → Int → Option (Int) := lock armplanref23_Place.F0
theorem armplanref23_Place.F_eq : armplanref23_Place.F = armplanref23_Place.F0 := lock_eq _
noncomputable def armplanref23_Place.p : Proc := { nargs := 4, inS := ⟨[(0, .lf (.sc (.int .u64))), (1, .lf (.sc (.int .u64))), (2, .lf (.sc (.int .i64))), (3, .lf (.sc (.int .i64)))], []⟩, outS := ⟨[(0, .lf (.sc (.int .i64)))], []⟩, n0 := 0, R := Int, F := fun x => armplanref23_Place.F x.1.1 x.1.2.1 x.1.2.2.1 x.1.2.2.2.1, post := fun r => ((r, ()), ()), un := fun x => x.1.1 }
noncomputable def armplanref23_Place.E : Env := { P := Tryd.prog, ty := tyTab [], glob := glob0, proc := procTab [(38, armplanref23_bounded.p), (36, bits_Mul64.p), (39, bits_Div64.p)], lproc := lprocTab [], n0 := 0, ntmps := 44 }
theorem armplanref23_Place.ok : ProcsOk armplanref23_Place.E := AllSound.ok (l := [(38, armplanref23_bounded.p), (36, bits_Mul64.p), (39, bits_Div64.p)]) (by kernel_rfl) rfl ⟨armplanref23_bounded.sound, bits_Mul64.sound, bits_Div64.sound, trivial⟩
noncomputable def armplanref23_Place.body0 : Code := (match Tryd.f26.body with | some c => c | none => .skip)
noncomputable def armplanref23_Place.ann : Ann := .z
set_option maxRecDepth 100000 in
theorem armplanref23_Place.eq (x : Tup armplanref23_Place.p.inS) : peFn armplanref23_Place.E Tryd.f26 armplanref23_Place.ann armplanref23_Place.p x = armplanref23_Place.p.F x := by
  have h : peFn armplanref23_Place.E Tryd.f26 armplanref23_Place.ann armplanref23_Place.p x = armplanref23_Place.F0 x.1.1 x.1.2.1 x.1.2.2.1 x.1.2.2.2.1 := by kernel_rfl
  exact h.trans (by show _ = armplanref23_Place.F x.1.1 x.1.2.1 x.1.2.2.1 x.1.2.2.2.1; rw [armplanref23_Place.F_eq])
set_option maxRecDepth 100000 in
theorem armplanref23_Place.sound : ProcSound Tryd.prog glob0 26 armplanref23_Place.p :=
  fn_sound (E := armplanref23_Place.E) (c := armplanref23_Place.body0) (ann := armplanref23_Place.ann) armplanref23_Place.ok Tryd.func26 (of_decide_eq_true (by kernel_rfl)) rfl rfl rfl (by decide +kernel) ((SubsOk_z _ _) : SubsOk armplanref23_Place.E armplanref23_Place.body0 armplanref23_Place.ann) (fun _ => rfl) rfl armplanref23_Place.eq

/-! ### armplan/armplanref23.Halton: function 42 -/
noncomputable def armplanref23_Halton.p0.round (v0 : List ((Int × Int))) (v1 : Int) (v2 : Int) (v3 : List (Int)) : Option ((List ((Int × Int)) × Int × Int × List (Int)) ⊕ ((List (Int)))) :=
  (bif decide (v2 < (v0.length : Int)) then ((armplanref23_Prime.F v2).bind fun r8 => ((armplanref23_Radical.F r8 v1).bind fun r9 => (bif decide (0 ≤ v2) then (bif decide (v2 < (v0.length : Int)) then (bif decide (0 ≤ v2) then (bif decide (v2 < (v0.length : Int)) then ((armplanref23_Place.F r9.1 r9.2 (v0.getD v2.toNat ((0 : Int), (0 : Int))).1 (v0.getD v2.toNat ((0 : Int), (0 : Int))).2).bind fun r10 => (bif decide (v3.length + ([r10] : List (Int)).length < 17592186044416) then some (.inl (v0, v1, (IntKind.wrap .i64 (v2 + (1 : Int))), (v3 ++ ([r10] : List (Int))))) else none)) else none) else none) else none) else none))) else some (.inr v3))
noncomputable def armplanref23_Halton.p0.step (s : List ((Int × Int)) × Int × Int × List (Int)) : Option ((List ((Int × Int)) × Int × Int × List (Int)) ⊕ ((List (Int)))) := armplanref23_Halton.p0.round s.1 s.2.1 s.2.2.1 s.2.2.2
noncomputable def armplanref23_Halton.p0.inS : Shape := ⟨[(0, .lf (.dat (.pair (.int .i64) (.int .i64)))), (1, .lf (.sc (.int .u64))), (5, .lf (.own 0)), (6, .lf (.sc (.int .i64)))], [.row 2 (.int .i64)]⟩
noncomputable def armplanref23_Halton.p0.w0 : Way := { ex := (.ex 0), S := ⟨[(5, .lf (.own 0))], [.row 2 (.int .i64)]⟩, R := List (Int), post := fun r => (((), ()), (r, ())), un := fun x => x.2.1 }
noncomputable def armplanref23_Halton.p0.outs : List Way := [armplanref23_Halton.p0.w0]
noncomputable def armplanref23_Halton.p0.un (x : Tup armplanref23_Halton.p0.inS) : List ((Int × Int)) × Int × Int × List (Int) := (x.1.1, x.1.2.1, x.1.2.2.2.1, x.2.1)
noncomputable def armplanref23_Halton.p0.lp : LProc := { inS := armplanref23_Halton.p0.inS, outs := armplanref23_Halton.p0.outs, F := fun x => loopF armplanref23_Halton.p0.step (armplanref23_Halton.p0.un x) }
noncomputable def armplanref23_Halton.F0 (a0 : List ((Int × Int))) (a1 : Int) : Option (List (Int)) :=
  ((armplanref23_sampled.F a0).bind fun r1 => (bif (!r1) then some ([] : List (Int)) else ((loopF armplanref23_Halton.p0.step (a0, a1, (0 : Int), ([] : List (Int)))).bind fun y11 => some y11)))
noncomputable def armplanref23_Halton.F : (List ((Int × Int))) → Int → Option (List (Int)) := lock armplanref23_Halton.F0
theorem armplanref23_Halton.F_eq : armplanref23_Halton.F = armplanref23_Halton.F0 := lock_eq _
noncomputable def armplanref23_Halton.p : Proc := { nargs := 2, inS := ⟨[(0, .lf (.dat (.pair (.int .i64) (.int .i64)))), (1, .lf (.sc (.int .u64)))], []⟩, outS := ⟨[(0, .lf (.own 0))], [.row 2 (.int .i64)]⟩, n0 := 0, R := List (Int), F := fun x => armplanref23_Halton.F x.1.1 x.1.2.1, post := fun r => (((), ()), (r, ())), un := fun x => x.2.1 }
noncomputable def armplanref23_Halton.E : Env := { P := Tryd.prog, ty := tyTab [(2, (.int .i64))], glob := glob0, proc := procTab [(50, armplanref23_sampled.p), (17, armplanref23_Prime.p), (14, armplanref23_Radical.p), (26, armplanref23_Place.p)], lproc := lprocTab [(0, armplanref23_Halton.p0.lp)], n0 := 0, ntmps := 42 }
theorem armplanref23_Halton.ok : ProcsOk armplanref23_Halton.E := AllSound.ok (l := [(50, armplanref23_sampled.p), (17, armplanref23_Prime.p), (14, armplanref23_Radical.p), (26, armplanref23_Place.p)]) (by kernel_rfl) rfl ⟨armplanref23_sampled.sound, armplanref23_Prime.sound, armplanref23_Radical.sound, armplanref23_Place.sound, trivial⟩
noncomputable def armplanref23_Halton.body0 : Code := (match Tryd.f42.body with | some c => c | none => .skip)
noncomputable def armplanref23_Halton.p0.c : Code := ((codeAt armplanref23_Halton.body0 [.r, .r, .r, .l, .r, .b, .b]).getD .skip)
noncomputable def armplanref23_Halton.p0.ann : Ann := .z
set_option maxRecDepth 100000 in
theorem armplanref23_Halton.p0.eq (x : Tup armplanref23_Halton.p0.inS) : peRound armplanref23_Halton.E armplanref23_Halton.p0.c armplanref23_Halton.p0.ann _ armplanref23_Halton.p0.inS armplanref23_Halton.p0.un armplanref23_Halton.p0.outs x = armplanref23_Halton.p0.step (armplanref23_Halton.p0.un x) := by
  kernel_rfl
set_option maxRecDepth 100000 in
theorem armplanref23_Halton.p0.sound : LProcSound armplanref23_Halton.E (.loop armplanref23_Halton.p0.c) armplanref23_Halton.p0.lp :=
  loop_sound (ann := armplanref23_Halton.p0.ann) armplanref23_Halton.ok ((SubsOk_z _ _) : SubsOk armplanref23_Halton.E armplanref23_Halton.p0.c armplanref23_Halton.p0.ann) (by intro a ha; simp only [armplanref23_Halton.p0.outs, List.mem_cons, List.not_mem_nil, or_false] at ha; rcases ha with rfl <;> exact fun _ => rfl) armplanref23_Halton.p0.eq
noncomputable def armplanref23_Halton.ann : Ann := .s (.z) (.s (.z) (.s (.z) (.s (.s (.z) (.b (.sub 0))) (.z))))
set_option maxRecDepth 100000 in
theorem armplanref23_Halton.eq (x : Tup armplanref23_Halton.p.inS) : peFn armplanref23_Halton.E Tryd.f42 armplanref23_Halton.ann armplanref23_Halton.p x = armplanref23_Halton.p.F x := by
  have h : peFn armplanref23_Halton.E Tryd.f42 armplanref23_Halton.ann armplanref23_Halton.p x = armplanref23_Halton.F0 x.1.1 x.1.2.1 := by kernel_rfl
  exact h.trans (by show _ = armplanref23_Halton.F x.1.1 x.1.2.1; rw [armplanref23_Halton.F_eq])
set_option maxRecDepth 100000 in
theorem armplanref23_Halton.sound : ProcSound Tryd.prog glob0 42 armplanref23_Halton.p :=
  fn_sound (E := armplanref23_Halton.E) (c := armplanref23_Halton.body0) (ann := armplanref23_Halton.ann) armplanref23_Halton.ok Tryd.func42 (of_decide_eq_true (by kernel_rfl)) rfl rfl rfl (by decide +kernel) (⟨(SubsOk_z _ _), ⟨(SubsOk_z _ _), ⟨(SubsOk_z _ _), ⟨⟨(SubsOk_z _ _), (sub_of rfl armplanref23_Halton.p0.sound)⟩, (SubsOk_z _ _)⟩⟩⟩⟩ : SubsOk armplanref23_Halton.E armplanref23_Halton.body0 armplanref23_Halton.ann) (fun _ => rfl) rfl armplanref23_Halton.eq

/-! ### armplan/sampler.Halton: function 21 -/
noncomputable def sampler_Halton.p0.round (v0 : Int) (v1 : List ((Int × Int))) (v2 : Int) (v3 : Int) (v4 : List (Int)) : Option ((Int × List ((Int × Int)) × Int × Int × List (Int)) ⊕ ((List (Int)))) :=
  (bif decide (v3 < v2) then (bif decide (0 ≤ v3) then (bif decide (v3 < (v1.length : Int)) then ((sampler_Prime.F v3).bind fun r5 => ((sampler_Radical.F r5 v0).bind fun r6 => ((sampler_Place.F r6.1 r6.2 (v1.getD v3.toNat ((0 : Int), (0 : Int))).1 (v1.getD v3.toNat ((0 : Int), (0 : Int))).2).bind fun r7 => (bif decide (0 ≤ v3) then (bif decide (v3 < (v4.length : Int)) then some (.inl (v0, v1, v2, (IntKind.wrap .i64 (v3 + (1 : Int))), (v4.set v3.toNat r7))) else none) else none)))) else none) else none) else some (.inr v4))
noncomputable def sampler_Halton.p0.step (s : Int × List ((Int × Int)) × Int × Int × List (Int)) : Option ((Int × List ((Int × Int)) × Int × Int × List (Int)) ⊕ ((List (Int)))) := sampler_Halton.p0.round s.1 s.2.1 s.2.2.1 s.2.2.2.1 s.2.2.2.2
noncomputable def sampler_Halton.p0.inS : Shape := ⟨[(1, .lf (.sc (.int .u64))), (5, .lf (.own 0)), (16, .lf (.dat (.pair (.int .i64) (.int .i64)))), (17, .lf (.sc (.int .i64))), (18, .lf (.sc (.int .i64)))], [.row 2 (.int .i64)]⟩
noncomputable def sampler_Halton.p0.w0 : Way := { ex := (.ex 0), S := ⟨[(5, .lf (.own 0))], [.row 2 (.int .i64)]⟩, R := List (Int), post := fun r => (((), ()), (r, ())), un := fun x => x.2.1 }
noncomputable def sampler_Halton.p0.outs : List Way := [sampler_Halton.p0.w0]
noncomputable def sampler_Halton.p0.un (x : Tup sampler_Halton.p0.inS) : Int × List ((Int × Int)) × Int × Int × List (Int) := (x.1.1, x.1.2.2.1, x.1.2.2.2.1, x.1.2.2.2.2.1, x.2.1)
noncomputable def sampler_Halton.p0.lp : LProc := { inS := sampler_Halton.p0.inS, outs := sampler_Halton.p0.outs, F := fun x => loopF sampler_Halton.p0.step (sampler_Halton.p0.un x) }
noncomputable def sampler_Halton.F0 (a0 : List ((Int × Int))) (a1 : Int) : Option (List (Int)) :=
  ((sampler_usable.F a0).bind fun r1 => (bif (!r1) then some ([] : List (Int)) else (bif decide (0 ≤ (a0.length : Int)) then (bif decide ((a0.length : Int).toNat ≤ 140737488355328 / 8) then ((loopF sampler_Halton.p0.step (a1, a0, (a0.length : Int), (0 : Int), (List.replicate (a0.length : Int).toNat (0 : Int)))).bind fun y8 => some y8) else none) else none)))
noncomputable def sampler_Halton.F : (List ((Int × Int))) → Int → Option (List (Int)) := lock sampler_Halton.F0
theorem sampler_Halton.F_eq : sampler_Halton.F = sampler_Halton.F0 := lock_eq _
noncomputable def sampler_Halton.p : Proc := { nargs := 2, inS := ⟨[(0, .lf (.dat (.pair (.int .i64) (.int .i64)))), (1, .lf (.sc (.int .u64)))], []⟩, outS := ⟨[(0, .lf (.own 0))], [.row 2 (.int .i64)]⟩, n0 := 0, R := List (Int), F := fun x => sampler_Halton.F x.1.1 x.1.2.1, post := fun r => (((), ()), (r, ())), un := fun x => x.2.1 }
noncomputable def sampler_Halton.E : Env := { P := Tryd.prog, ty := tyTab [(2, (.int .i64))], glob := glob0, proc := procTab [(34, sampler_usable.p), (16, sampler_Prime.p), (13, sampler_Radical.p), (25, sampler_Place.p)], lproc := lprocTab [(0, sampler_Halton.p0.lp)], n0 := 0, ntmps := 42 }
theorem sampler_Halton.ok : ProcsOk sampler_Halton.E := AllSound.ok (l := [(34, sampler_usable.p), (16, sampler_Prime.p), (13, sampler_Radical.p), (25, sampler_Place.p)]) (by kernel_rfl) rfl ⟨sampler_usable.sound, sampler_Prime.sound, sampler_Radical.sound, sampler_Place.sound, trivial⟩
noncomputable def sampler_Halton.body0 : Code := (match Tryd.f21.body with | some c => c | none => .skip)
noncomputable def sampler_Halton.p0.c : Code := ((codeAt sampler_Halton.body0 [.r, .r, .r, .l, .r, .b, .b]).getD .skip)
noncomputable def sampler_Halton.p0.ann : Ann := .z
set_option maxRecDepth 100000 in
theorem sampler_Halton.p0.eq (x : Tup sampler_Halton.p0.inS) : peRound sampler_Halton.E sampler_Halton.p0.c sampler_Halton.p0.ann _ sampler_Halton.p0.inS sampler_Halton.p0.un sampler_Halton.p0.outs x = sampler_Halton.p0.step (sampler_Halton.p0.un x) := by
  kernel_rfl
set_option maxRecDepth 100000 in
theorem sampler_Halton.p0.sound : LProcSound sampler_Halton.E (.loop sampler_Halton.p0.c) sampler_Halton.p0.lp :=
  loop_sound (ann := sampler_Halton.p0.ann) sampler_Halton.ok ((SubsOk_z _ _) : SubsOk sampler_Halton.E sampler_Halton.p0.c sampler_Halton.p0.ann) (by intro a ha; simp only [sampler_Halton.p0.outs, List.mem_cons, List.not_mem_nil, or_false] at ha; rcases ha with rfl <;> exact fun _ => rfl) sampler_Halton.p0.eq
noncomputable def sampler_Halton.ann : Ann := .s (.z) (.s (.z) (.s (.z) (.s (.s (.z) (.b (.sub 0))) (.z))))
set_option maxRecDepth 100000 in
theorem sampler_Halton.eq (x : Tup sampler_Halton.p.inS) : peFn sampler_Halton.E Tryd.f21 sampler_Halton.ann sampler_Halton.p x = sampler_Halton.p.F x := by
  have h : peFn sampler_Halton.E Tryd.f21 sampler_Halton.ann sampler_Halton.p x = sampler_Halton.F0 x.1.1 x.1.2.1 := by kernel_rfl
  exact h.trans (by show _ = sampler_Halton.F x.1.1 x.1.2.1; rw [sampler_Halton.F_eq])
set_option maxRecDepth 100000 in
theorem sampler_Halton.sound : ProcSound Tryd.prog glob0 21 sampler_Halton.p :=
  fn_sound (E := sampler_Halton.E) (c := sampler_Halton.body0) (ann := sampler_Halton.ann) sampler_Halton.ok Tryd.func21 (of_decide_eq_true (by kernel_rfl)) rfl rfl rfl (by decide +kernel) (⟨(SubsOk_z _ _), ⟨(SubsOk_z _ _), ⟨(SubsOk_z _ _), ⟨⟨(SubsOk_z _ _), (sub_of rfl sampler_Halton.p0.sound)⟩, (SubsOk_z _ _)⟩⟩⟩⟩ : SubsOk sampler_Halton.E sampler_Halton.body0 sampler_Halton.ann) (fun _ => rfl) rfl sampler_Halton.eq

/-! ### armplan/armplanlaw23.samples: function 29 -/
noncomputable def armplanlaw23_samples.F0 (a0 : List ((Int × Int))) (a1 : Int) (a2 : Int) : Option (Bool) :=
  ((sampler_Uniform.F a0 a1 a2).bind fun r1 => ((armplanref23_Uniform.F a0 a1 a2).bind fun r2 => ((armplanmake_Same.F r1 r2).bind fun r3 => (bif r3 then ((sampler_Halton.F a0 a2).bind fun r4 => ((armplanref23_Halton.F a0 a2).bind fun r5 => ((armplanmake_Same.F r4 r5).bind fun r6 => some r6))) else some false))))
noncomputable def armplanlaw23_samples.F : (List ((Int × Int))) → Int → Int → Option (Bool) := lock armplanlaw23_samples.F0
theorem armplanlaw23_samples.F_eq : armplanlaw23_samples.F = armplanlaw23_samples.F0 := lock_eq _
noncomputable def armplanlaw23_samples.p : Proc := { nargs := 3, inS := ⟨[(0, .lf (.dat (.pair (.int .i64) (.int .i64)))), (1, .lf (.sc (.int .u64))), (2, .lf (.sc (.int .u64)))], []⟩, outS := ⟨[(0, .lf (.sc .bool))], []⟩, n0 := 0, R := Bool, F := fun x => armplanlaw23_samples.F x.1.1 x.1.2.1 x.1.2.2.1, post := fun r => ((r, ()), ()), un := fun x => x.1.1 }
noncomputable def armplanlaw23_samples.E : Env := { P := Tryd.prog, ty := tyTab [], glob := glob0, proc := procTab [(31, sampler_Uniform.p), (41, armplanref23_Uniform.p), (40, armplanmake_Same.p), (21, sampler_Halton.p), (42, armplanref23_Halton.p)], lproc := lprocTab [], n0 := 0, ntmps := 25 }
theorem armplanlaw23_samples.ok : ProcsOk armplanlaw23_samples.E := AllSound.ok (l := [(31, sampler_Uniform.p), (41, armplanref23_Uniform.p), (40, armplanmake_Same.p), (21, sampler_Halton.p), (42, armplanref23_Halton.p)]) (by kernel_rfl) rfl ⟨sampler_Uniform.sound, armplanref23_Uniform.sound, armplanmake_Same.sound, sampler_Halton.sound, armplanref23_Halton.sound, trivial⟩
noncomputable def armplanlaw23_samples.body0 : Code := (match Tryd.f29.body with | some c => c | none => .skip)
noncomputable def armplanlaw23_samples.ann : Ann := .z
set_option maxRecDepth 100000 in
theorem armplanlaw23_samples.eq (x : Tup armplanlaw23_samples.p.inS) : peFn armplanlaw23_samples.E Tryd.f29 armplanlaw23_samples.ann armplanlaw23_samples.p x = armplanlaw23_samples.p.F x := by
  have h : peFn armplanlaw23_samples.E Tryd.f29 armplanlaw23_samples.ann armplanlaw23_samples.p x = armplanlaw23_samples.F0 x.1.1 x.1.2.1 x.1.2.2.1 := by kernel_rfl
  exact h.trans (by show _ = armplanlaw23_samples.F x.1.1 x.1.2.1 x.1.2.2.1; rw [armplanlaw23_samples.F_eq])
set_option maxRecDepth 100000 in
theorem armplanlaw23_samples.sound : ProcSound Tryd.prog glob0 29 armplanlaw23_samples.p :=
  fn_sound (E := armplanlaw23_samples.E) (c := armplanlaw23_samples.body0) (ann := armplanlaw23_samples.ann) armplanlaw23_samples.ok Tryd.func29 (of_decide_eq_true (by kernel_rfl)) rfl rfl rfl (by decide +kernel) ((SubsOk_z _ _) : SubsOk armplanlaw23_samples.E armplanlaw23_samples.body0 armplanlaw23_samples.ann) (fun _ => rfl) rfl armplanlaw23_samples.eq

/-! ### armplan/armplanlaw23.awake: function 15 -/
noncomputable def armplanlaw23_awake.F0 (_ : Unit) : Option (Bool) :=
  ((sampler_Radical.F (3 : Int) (5 : Int)).bind fun r1 => ((sampler_Halton.F ([((0 : Int), (7 : Int)), ((0 : Int), (8 : Int))] : List ((Int × Int))) (6 : Int)).bind fun r2 => (bif (r1.1 == (7 : Int)) then (bif (r1.2 == (9 : Int)) then (bif ((r2.length : Int) == (2 : Int)) then (bif decide ((0 : Int) < (r2.length : Int)) then (bif ((r2.getD 0 (0 : Int)) == (3 : Int)) then (bif decide ((1 : Int) < (r2.length : Int)) then some ((r2.getD 1 (0 : Int)) == (2 : Int)) else none) else some false) else none) else some false) else some false) else some false)))
noncomputable def armplanlaw23_awake.F : Unit → Option (Bool) := lock armplanlaw23_awake.F0
theorem armplanlaw23_awake.F_eq : armplanlaw23_awake.F = armplanlaw23_awake.F0 := lock_eq _
noncomputable def armplanlaw23_awake.p : Proc := { nargs := 0, inS := ⟨[], []⟩, outS := ⟨[(0, .lf (.sc .bool))], []⟩, n0 := 0, R := Bool, F := fun x => armplanlaw23_awake.F (), post := fun r => ((r, ()), ()), un := fun x => x.1.1 }
noncomputable def armplanlaw23_awake.E : Env := { P := Tryd.prog, ty := tyTab [(39, (.pair (.int .i64) (.int .i64)))], glob := glob0, proc := procTab [(13, sampler_Radical.p), (21, sampler_Halton.p)], lproc := lprocTab [], n0 := 0, ntmps := 35 }
theorem armplanlaw23_awake.ok : ProcsOk armplanlaw23_awake.E := AllSound.ok (l := [(13, sampler_Radical.p), (21, sampler_Halton.p)]) (by kernel_rfl) rfl ⟨sampler_Radical.sound, sampler_Halton.sound, trivial⟩
noncomputable def armplanlaw23_awake.body0 : Code := (match Tryd.f15.body with | some c => c | none => .skip)
noncomputable def armplanlaw23_awake.ann : Ann := .z
set_option maxRecDepth 100000 in
theorem armplanlaw23_awake.eq (x : Tup armplanlaw23_awake.p.inS) : peFn armplanlaw23_awake.E Tryd.f15 armplanlaw23_awake.ann armplanlaw23_awake.p x = armplanlaw23_awake.p.F x := by
  have h : peFn armplanlaw23_awake.E Tryd.f15 armplanlaw23_awake.ann armplanlaw23_awake.p x = armplanlaw23_awake.F0 () := by kernel_rfl
  exact h.trans (by show _ = armplanlaw23_awake.F (); rw [armplanlaw23_awake.F_eq])
set_option maxRecDepth 100000 in
theorem armplanlaw23_awake.sound : ProcSound Tryd.prog glob0 15 armplanlaw23_awake.p :=
  fn_sound (E := armplanlaw23_awake.E) (c := armplanlaw23_awake.body0) (ann := armplanlaw23_awake.ann) armplanlaw23_awake.ok Tryd.func15 (of_decide_eq_true (by kernel_rfl)) rfl rfl rfl (by decide +kernel) ((SubsOk_z _ _) : SubsOk armplanlaw23_awake.E armplanlaw23_awake.body0 armplanlaw23_awake.ann) (fun _ => rfl) rfl armplanlaw23_awake.eq

end Go.Abs
