/- A part of the proof that the text with the row names: printed readings of functions, or plain lemmas about them. -/
import Derived.Test.YtomabhiochmojaaAbsD
import Derived.Test.YtomabhiochmojaaProg
import Derived.KernelRfl
set_option linter.unusedVariables false
set_option linter.unusedSimpArgs false
namespace Go.Abs
open Go Go.Proofs

abbrev tyJ : Ty := .pair .str (.pair (.int .i64) (.pair (.int .i64) (.pair (.pair (.int .i64) (.pair (.int .i64) (.int .i64))) (.pair (.int .i64) (.pair (.int .i64) (.pair (.int .i64) (.pair (.int .i64) (.pair (.int .i64) (.int .i64)))))))))
abbrev tyM : Ty := .pair (.int .i64) (.pair (.int .i64) (.pair (.int .i64) (.pair (.int .i64) (.int .i64))))
abbrev tyS : Ty := .pair (.int .i64) (.pair (.int .i64) (.slc (.pair (.int .i64) (.pair (.int .i64) (.int .i64)))))
abbrev tyV : Ty := .pair (.int .i64) (.pair (.int .i64) (.int .i64))
abbrev tyK : Ty := .pair (.int .i64) (.int .i64)

noncomputable def glob0 : Nat → Option (List DLeaf) := globTab []

/-! ### armplan/armplanmake.Round: function 12 -/
noncomputable def armplanmake_Round.F0 (a0 : Int) (a1 : Int) : Option (Int) :=
  (bif (a1 != 0) then (bif decide ((a0.tmod a1) < (0 : Int)) then some (IntKind.wrap .i64 ((a0.tmod a1) + a1)) else some (a0.tmod a1)) else none)
noncomputable def armplanmake_Round.F : Int → Int → Option (Int) := lock armplanmake_Round.F0
theorem armplanmake_Round.F_eq : armplanmake_Round.F = armplanmake_Round.F0 := lock_eq _
noncomputable def armplanmake_Round.p : Proc := { nargs := 2, inS := ⟨[(0, .lf (.sc (.int .i64))), (1, .lf (.sc (.int .i64)))], []⟩, outS := ⟨[(0, .lf (.sc (.int .i64)))], []⟩, n0 := 0, R := Int, F := fun x => armplanmake_Round.F x.1.1 x.1.2.1, post := fun r => ((r, ()), ()), un := fun x => x.1.1 }
noncomputable def armplanmake_Round.E : Env := { P := Try.prog, ty := tyTab [], glob := glob0, proc := procTab [], lproc := lprocTab [], n0 := 0, ntmps := 15 }
theorem armplanmake_Round.ok : ProcsOk armplanmake_Round.E := AllSound.ok (l := []) (by kernel_rfl) rfl trivial
noncomputable def armplanmake_Round.body0 : Code := (match Try.f12.body with | some c => c | none => .skip)
noncomputable def armplanmake_Round.ann : Ann := .z
set_option maxRecDepth 100000 in
theorem armplanmake_Round.eq (x : Tup armplanmake_Round.p.inS) : peFn armplanmake_Round.E Try.f12 armplanmake_Round.ann armplanmake_Round.p x = armplanmake_Round.p.F x := by
  have h : peFn armplanmake_Round.E Try.f12 armplanmake_Round.ann armplanmake_Round.p x = armplanmake_Round.F0 x.1.1 x.1.2.1 := by kernel_rfl
  exact h.trans (by show _ = armplanmake_Round.F x.1.1 x.1.2.1; rw [armplanmake_Round.F_eq])
set_option maxRecDepth 100000 in
theorem armplanmake_Round.sound : ProcSound Try.prog glob0 12 armplanmake_Round.p :=
  fn_sound (E := armplanmake_Round.E) (c := armplanmake_Round.body0) (ann := armplanmake_Round.ann) armplanmake_Round.ok Try.func12 (of_decide_eq_true (by kernel_rfl)) rfl rfl rfl (by decide +kernel) ((SubsOk_z _ _) : SubsOk armplanmake_Round.E armplanmake_Round.body0 armplanmake_Round.ann) (fun _ => rfl) rfl armplanmake_Round.eq

/-! ### armplan/armplanmake.Same[int64]: function 21 -/
noncomputable def armplanmake_Same_int64.p0.round (v0 : List (Int)) (v1 : List (Int)) (v2 : Int) : Option ((List (Int) × List (Int) × Int) ⊕ ((Bool) ⊕ (Unit))) :=
  (bif decide (v2 < (v0.length : Int)) then (bif decide (0 ≤ v2) then (bif decide (v2 < (v0.length : Int)) then (bif decide (0 ≤ v2) then (bif decide (v2 < (v1.length : Int)) then (bif ((v0.getD v2.toNat (0 : Int)) != (v1.getD v2.toNat (0 : Int))) then some (.inr (.inl false)) else some (.inl (v0, v1, (IntKind.wrap .i64 (v2 + (1 : Int)))))) else none) else none) else none) else none) else some (.inr (.inr ())))
noncomputable def armplanmake_Same_int64.p0.step (s : List (Int) × List (Int) × Int) : Option ((List (Int) × List (Int) × Int) ⊕ ((Bool) ⊕ (Unit))) := armplanmake_Same_int64.p0.round s.1 s.2.1 s.2.2
noncomputable def armplanmake_Same_int64.p0.inS : Shape := ⟨[(0, .lf (.dat (.int .i64))), (1, .lf (.dat (.int .i64))), (5, .lf (.sc (.int .i64)))], []⟩
noncomputable def armplanmake_Same_int64.p0.w0 : Way := { ex := .rt, S := ⟨[(4, .lf (.sc .bool))], []⟩, R := Bool, post := fun r => ((r, ()), ()), un := fun x => x.1.1 }
noncomputable def armplanmake_Same_int64.p0.w1 : Way := { ex := (.ex 0), S := ⟨[], []⟩, R := Unit, post := fun r => ((), ()), un := fun x => () }
noncomputable def armplanmake_Same_int64.p0.outs : List Way := [armplanmake_Same_int64.p0.w0, armplanmake_Same_int64.p0.w1]
noncomputable def armplanmake_Same_int64.p0.un (x : Tup armplanmake_Same_int64.p0.inS) : List (Int) × List (Int) × Int := (x.1.1, x.1.2.1, x.1.2.2.1)
noncomputable def armplanmake_Same_int64.p0.lp : LProc := { inS := armplanmake_Same_int64.p0.inS, outs := armplanmake_Same_int64.p0.outs, F := fun x => loopF armplanmake_Same_int64.p0.step (armplanmake_Same_int64.p0.un x) }
noncomputable def armplanmake_Same_int64.F0 (a0 : List (Int)) (a1 : List (Int)) : Option (Bool) :=
  (bif ((a0.length : Int) != (a1.length : Int)) then some false else ((loopF armplanmake_Same_int64.p0.step (a0, a1, (0 : Int))).bind fun y1 => (Sum.elim (fun y2 => some y2) (fun z3 => some true) y1)))
noncomputable def armplanmake_Same_int64.F : (List (Int)) → (List (Int)) → Option (Bool) := lock armplanmake_Same_int64.F0
theorem armplanmake_Same_int64.F_eq : armplanmake_Same_int64.F = armplanmake_Same_int64.F0 := lock_eq _
noncomputable def armplanmake_Same_int64.p : Proc := { nargs := 2, inS := ⟨[(0, .lf (.dat (.int .i64))), (1, .lf (.dat (.int .i64)))], []⟩, outS := ⟨[(0, .lf (.sc .bool))], []⟩, n0 := 0, R := Bool, F := fun x => armplanmake_Same_int64.F x.1.1 x.1.2.1, post := fun r => ((r, ()), ()), un := fun x => x.1.1 }
noncomputable def armplanmake_Same_int64.E : Env := { P := Try.prog, ty := tyTab [], glob := glob0, proc := procTab [], lproc := lprocTab [(0, armplanmake_Same_int64.p0.lp)], n0 := 0, ntmps := 26 }
theorem armplanmake_Same_int64.ok : ProcsOk armplanmake_Same_int64.E := AllSound.ok (l := []) (by kernel_rfl) rfl trivial
noncomputable def armplanmake_Same_int64.body0 : Code := (match Try.f21.body with | some c => c | none => .skip)
noncomputable def armplanmake_Same_int64.p0.c : Code := ((codeAt armplanmake_Same_int64.body0 [.r, .r, .l, .r, .b, .b]).getD .skip)
noncomputable def armplanmake_Same_int64.p0.ann : Ann := .z
set_option maxRecDepth 100000 in
theorem armplanmake_Same_int64.p0.eq (x : Tup armplanmake_Same_int64.p0.inS) : peRound armplanmake_Same_int64.E armplanmake_Same_int64.p0.c armplanmake_Same_int64.p0.ann _ armplanmake_Same_int64.p0.inS armplanmake_Same_int64.p0.un armplanmake_Same_int64.p0.outs x = armplanmake_Same_int64.p0.step (armplanmake_Same_int64.p0.un x) := by
  kernel_rfl
set_option maxRecDepth 100000 in
theorem armplanmake_Same_int64.p0.sound : LProcSound armplanmake_Same_int64.E (.loop armplanmake_Same_int64.p0.c) armplanmake_Same_int64.p0.lp :=
  loop_sound (c := armplanmake_Same_int64.p0.c) (ann := armplanmake_Same_int64.p0.ann) armplanmake_Same_int64.ok ((SubsOk_z _ _) : SubsOk armplanmake_Same_int64.E armplanmake_Same_int64.p0.c armplanmake_Same_int64.p0.ann) (by intro a ha; simp only [armplanmake_Same_int64.p0.outs, List.mem_cons, List.not_mem_nil, or_false] at ha; rcases ha with rfl | rfl <;> exact fun _ => rfl) armplanmake_Same_int64.p0.eq
noncomputable def armplanmake_Same_int64.ann : Ann := .s (.z) (.s (.z) (.s (.s (.z) (.b (.sub 0))) (.z)))
set_option maxRecDepth 100000 in
theorem armplanmake_Same_int64.eq (x : Tup armplanmake_Same_int64.p.inS) : peFn armplanmake_Same_int64.E Try.f21 armplanmake_Same_int64.ann armplanmake_Same_int64.p x = armplanmake_Same_int64.p.F x := by
  have h : peFn armplanmake_Same_int64.E Try.f21 armplanmake_Same_int64.ann armplanmake_Same_int64.p x = armplanmake_Same_int64.F0 x.1.1 x.1.2.1 := by kernel_rfl
  exact h.trans (by show _ = armplanmake_Same_int64.F x.1.1 x.1.2.1; rw [armplanmake_Same_int64.F_eq])
set_option maxRecDepth 100000 in
theorem armplanmake_Same_int64.sound : ProcSound Try.prog glob0 21 armplanmake_Same_int64.p :=
  fn_sound (E := armplanmake_Same_int64.E) (c := armplanmake_Same_int64.body0) (ann := armplanmake_Same_int64.ann) armplanmake_Same_int64.ok Try.func21 (of_decide_eq_true (by kernel_rfl)) rfl rfl rfl (by decide +kernel) (⟨(SubsOk_z _ _), ⟨(SubsOk_z _ _), ⟨⟨(SubsOk_z _ _), (sub_of rfl armplanmake_Same_int64.p0.sound)⟩, (SubsOk_z _ _)⟩⟩⟩ : SubsOk armplanmake_Same_int64.E armplanmake_Same_int64.body0 armplanmake_Same_int64.ann) (fun _ => rfl) rfl armplanmake_Same_int64.eq

/-! ### armplan/armplanmake.SmallScene: function 29 -/
noncomputable def armplanmake_SmallScene.F0 (a0 : List ((ByteArray × (Int × (Int × ((Int × (Int × Int)) × (Int × (Int × (Int × (Int × (Int × Int))))))))))) (a1 : List ((Int × (Int × (Int × (Int × Int)))))) (a2 : List ((Int × (Int × List ((Int × (Int × Int))))))) (a3 : List ((Int × Int))) : Option (Bool) :=
  (bif decide ((a0.length : Int) ≤ (4 : Int)) then (bif decide ((a1.length : Int) ≤ (6 : Int)) then (bif decide ((a2.length : Int) ≤ (6 : Int)) then some (decide ((a3.length : Int) ≤ (8 : Int))) else some false) else some false) else some false)
noncomputable def armplanmake_SmallScene.F : (List ((ByteArray × (Int × (Int × ((Int × (Int × Int)) × (Int × (Int × (Int × (Int × (Int × Int))))))))))) → (List ((Int × (Int × (Int × (Int × Int)))))) → (List ((Int × (Int × List ((Int × (Int × Int))))))) → (List ((Int × Int))) → Option (Bool) := lock armplanmake_SmallScene.F0
theorem armplanmake_SmallScene.F_eq : armplanmake_SmallScene.F = armplanmake_SmallScene.F0 := lock_eq _
noncomputable def armplanmake_SmallScene.p : Proc := { nargs := 1, inS := ⟨[(0, .ag [.dat tyJ, .dat tyM, .dat tyS, .dat tyK])], []⟩, outS := ⟨[(0, .lf (.sc .bool))], []⟩, n0 := 0, R := Bool, F := fun x => armplanmake_SmallScene.F x.1.1.1 x.1.1.2.1 x.1.1.2.2.1 x.1.1.2.2.2.1, post := fun r => ((r, ()), ()), un := fun x => x.1.1 }
noncomputable def armplanmake_SmallScene.E : Env := { P := Try.prog, ty := tyTab [], glob := glob0, proc := procTab [], lproc := lprocTab [], n0 := 0, ntmps := 27 }
theorem armplanmake_SmallScene.ok : ProcsOk armplanmake_SmallScene.E := AllSound.ok (l := []) (by kernel_rfl) rfl trivial
noncomputable def armplanmake_SmallScene.body0 : Code := (match Try.f29.body with | some c => c | none => .skip)
noncomputable def armplanmake_SmallScene.ann : Ann := .z
set_option maxRecDepth 100000 in
theorem armplanmake_SmallScene.eq (x : Tup armplanmake_SmallScene.p.inS) : peFn armplanmake_SmallScene.E Try.f29 armplanmake_SmallScene.ann armplanmake_SmallScene.p x = armplanmake_SmallScene.p.F x := by
  have h : peFn armplanmake_SmallScene.E Try.f29 armplanmake_SmallScene.ann armplanmake_SmallScene.p x = armplanmake_SmallScene.F0 x.1.1.1 x.1.1.2.1 x.1.1.2.2.1 x.1.1.2.2.2.1 := by kernel_rfl
  exact h.trans (by show _ = armplanmake_SmallScene.F x.1.1.1 x.1.1.2.1 x.1.1.2.2.1 x.1.1.2.2.2.1; rw [armplanmake_SmallScene.F_eq])
set_option maxRecDepth 100000 in
theorem armplanmake_SmallScene.sound : ProcSound Try.prog glob0 29 armplanmake_SmallScene.p :=
  fn_sound (E := armplanmake_SmallScene.E) (c := armplanmake_SmallScene.body0) (ann := armplanmake_SmallScene.ann) armplanmake_SmallScene.ok Try.func29 (of_decide_eq_true (by kernel_rfl)) rfl rfl rfl (by decide +kernel) ((SubsOk_z _ _) : SubsOk armplanmake_SmallScene.E armplanmake_SmallScene.body0 armplanmake_SmallScene.ann) (fun _ => rfl) rfl armplanmake_SmallScene.eq

/-! ### armplan/armplanmake.From: function 31 -/
noncomputable def armplanmake_From.F0 (a0 : List (Int)) : Option (List (Int) × Int) :=
  some (a0, (0 : Int))
noncomputable def armplanmake_From.F : (List (Int)) → Option (List (Int) × Int) := lock armplanmake_From.F0
theorem armplanmake_From.F_eq : armplanmake_From.F = armplanmake_From.F0 := lock_eq _
noncomputable def armplanmake_From.p : Proc := { nargs := 1, inS := ⟨[(0, .lf (.dat (.int .i64)))], []⟩, outS := ⟨[(0, .lf (.bp 0 0))], [.box [.dat (.int .i64), .sc (.int .i64)]]⟩, n0 := 0, R := List (Int) × Int, F := fun x => armplanmake_From.F x.1.1, post := fun r => (((), ()), ((r.1, (r.2, ())), ())), un := fun x => (x.2.1.1, x.2.1.2.1) }
noncomputable def armplanmake_From.E : Env := { P := Try.prog, ty := tyTab [], glob := glob0, proc := procTab [], lproc := lprocTab [], n0 := 0, ntmps := 6 }
theorem armplanmake_From.ok : ProcsOk armplanmake_From.E := AllSound.ok (l := []) (by kernel_rfl) rfl trivial
noncomputable def armplanmake_From.body0 : Code := (match Try.f31.body with | some c => c | none => .skip)
noncomputable def armplanmake_From.ann : Ann := .z
set_option maxRecDepth 100000 in
theorem armplanmake_From.eq (x : Tup armplanmake_From.p.inS) : peFn armplanmake_From.E Try.f31 armplanmake_From.ann armplanmake_From.p x = armplanmake_From.p.F x := by
  have h : peFn armplanmake_From.E Try.f31 armplanmake_From.ann armplanmake_From.p x = armplanmake_From.F0 x.1.1 := by kernel_rfl
  exact h.trans (by show _ = armplanmake_From.F x.1.1; rw [armplanmake_From.F_eq])
set_option maxRecDepth 100000 in
theorem armplanmake_From.sound : ProcSound Try.prog glob0 31 armplanmake_From.p :=
  fn_sound (E := armplanmake_From.E) (c := armplanmake_From.body0) (ann := armplanmake_From.ann) armplanmake_From.ok Try.func31 (of_decide_eq_true (by kernel_rfl)) rfl rfl rfl (by decide +kernel) ((SubsOk_z _ _) : SubsOk armplanmake_From.E armplanmake_From.body0 armplanmake_From.ann) (fun _ => rfl) rfl armplanmake_From.eq

/-! ### (*armplan/armplanmake.Source).Next: function 32 -/
noncomputable def armplanmake_Source_Next.F0 (a0 : Int) (a1 : List (Int)) (a2 : Int) : Option (Int × List (Int) × Int) :=
  (bif decide (a2 ≥ (a1.length : Int)) then some ((0 : Int), a1, a2) else (bif decide (0 ≤ (IntKind.wrap .i64 ((IntKind.wrap .i64 (a2 + (1 : Int))) - (1 : Int)))) then (bif decide ((IntKind.wrap .i64 ((IntKind.wrap .i64 (a2 + (1 : Int))) - (1 : Int))) < (a1.length : Int)) then ((armplanmake_Round.F (a1.getD (IntKind.wrap .i64 ((IntKind.wrap .i64 (a2 + (1 : Int))) - (1 : Int))).toNat (0 : Int)) a0).bind fun r1 => some (r1, a1, (IntKind.wrap .i64 (a2 + (1 : Int))))) else none) else none))
noncomputable def armplanmake_Source_Next.F : Int → (List (Int)) → Int → Option (Int × List (Int) × Int) := lock armplanmake_Source_Next.F0
theorem armplanmake_Source_Next.F_eq : armplanmake_Source_Next.F = armplanmake_Source_Next.F0 := lock_eq _
noncomputable def armplanmake_Source_Next.p : Proc := { nargs := 2, inS := ⟨[(0, .lf (.bp 0 0)), (1, .lf (.sc (.int .i64)))], [.box [.dat (.int .i64), .sc (.int .i64)]]⟩, outS := ⟨[(0, .lf (.sc (.int .i64)))], [.box [.dat (.int .i64), .sc (.int .i64)]]⟩, n0 := 1, R := Int × List (Int) × Int, F := fun x => armplanmake_Source_Next.F x.1.2.1 x.2.1.1 x.2.1.2.1, post := fun r => ((r.1, ()), ((r.2.1, (r.2.2, ())), ())), un := fun x => (x.1.1, x.2.1.1, x.2.1.2.1) }
noncomputable def armplanmake_Source_Next.E : Env := { P := Try.prog, ty := tyTab [], glob := glob0, proc := procTab [(12, armplanmake_Round.p)], lproc := lprocTab [], n0 := 1, ntmps := 35 }
theorem armplanmake_Source_Next.ok : ProcsOk armplanmake_Source_Next.E := AllSound.ok (l := [(12, armplanmake_Round.p)]) (by kernel_rfl) rfl ⟨armplanmake_Round.sound, trivial⟩
noncomputable def armplanmake_Source_Next.body0 : Code := (match Try.f32.body with | some c => c | none => .skip)
noncomputable def armplanmake_Source_Next.ann : Ann := .z
set_option maxRecDepth 100000 in
theorem armplanmake_Source_Next.eq (x : Tup armplanmake_Source_Next.p.inS) : peFn armplanmake_Source_Next.E Try.f32 armplanmake_Source_Next.ann armplanmake_Source_Next.p x = armplanmake_Source_Next.p.F x := by
  have h : peFn armplanmake_Source_Next.E Try.f32 armplanmake_Source_Next.ann armplanmake_Source_Next.p x = armplanmake_Source_Next.F0 x.1.2.1 x.2.1.1 x.2.1.2.1 := by kernel_rfl
  exact h.trans (by show _ = armplanmake_Source_Next.F x.1.2.1 x.2.1.1 x.2.1.2.1; rw [armplanmake_Source_Next.F_eq])
set_option maxRecDepth 100000 in
theorem armplanmake_Source_Next.sound : ProcSound Try.prog glob0 32 armplanmake_Source_Next.p :=
  fn_sound (E := armplanmake_Source_Next.E) (c := armplanmake_Source_Next.body0) (ann := armplanmake_Source_Next.ann) armplanmake_Source_Next.ok Try.func32 (of_decide_eq_true (by kernel_rfl)) rfl rfl rfl (by decide +kernel) ((SubsOk_z _ _) : SubsOk armplanmake_Source_Next.E armplanmake_Source_Next.body0 armplanmake_Source_Next.ann) (fun _ => rfl) rfl armplanmake_Source_Next.eq

/-! ### (*armplan/armplanmake.Source).Signed: function 35 -/
noncomputable def armplanmake_Source_Signed.F0 (a0 : Int) (a1 : List (Int)) (a2 : Int) : Option (Int × List (Int) × Int) :=
  ((armplanmake_Source_Next.F (IntKind.wrap .i64 ((IntKind.wrap .i64 ((2 : Int) * a0)) + (1 : Int))) a1 a2).bind fun r1 => some ((IntKind.wrap .i64 (r1.1 - a0)), r1.2.1, r1.2.2))
noncomputable def armplanmake_Source_Signed.F : Int → (List (Int)) → Int → Option (Int × List (Int) × Int) := lock armplanmake_Source_Signed.F0
theorem armplanmake_Source_Signed.F_eq : armplanmake_Source_Signed.F = armplanmake_Source_Signed.F0 := lock_eq _
noncomputable def armplanmake_Source_Signed.p : Proc := { nargs := 2, inS := ⟨[(0, .lf (.bp 0 0)), (1, .lf (.sc (.int .i64)))], [.box [.dat (.int .i64), .sc (.int .i64)]]⟩, outS := ⟨[(0, .lf (.sc (.int .i64)))], [.box [.dat (.int .i64), .sc (.int .i64)]]⟩, n0 := 1, R := Int × List (Int) × Int, F := fun x => armplanmake_Source_Signed.F x.1.2.1 x.2.1.1 x.2.1.2.1, post := fun r => ((r.1, ()), ((r.2.1, (r.2.2, ())), ())), un := fun x => (x.1.1, x.2.1.1, x.2.1.2.1) }
noncomputable def armplanmake_Source_Signed.E : Env := { P := Try.prog, ty := tyTab [], glob := glob0, proc := procTab [(32, armplanmake_Source_Next.p)], lproc := lprocTab [], n0 := 1, ntmps := 12 }
theorem armplanmake_Source_Signed.ok : ProcsOk armplanmake_Source_Signed.E := AllSound.ok (l := [(32, armplanmake_Source_Next.p)]) (by kernel_rfl) rfl ⟨armplanmake_Source_Next.sound, trivial⟩
noncomputable def armplanmake_Source_Signed.body0 : Code := (match Try.f35.body with | some c => c | none => .skip)
noncomputable def armplanmake_Source_Signed.ann : Ann := .z
set_option maxRecDepth 100000 in
theorem armplanmake_Source_Signed.eq (x : Tup armplanmake_Source_Signed.p.inS) : peFn armplanmake_Source_Signed.E Try.f35 armplanmake_Source_Signed.ann armplanmake_Source_Signed.p x = armplanmake_Source_Signed.p.F x := by
  have h : peFn armplanmake_Source_Signed.E Try.f35 armplanmake_Source_Signed.ann armplanmake_Source_Signed.p x = armplanmake_Source_Signed.F0 x.1.2.1 x.2.1.1 x.2.1.2.1 := by kernel_rfl
  exact h.trans (by show _ = armplanmake_Source_Signed.F x.1.2.1 x.2.1.1 x.2.1.2.1; rw [armplanmake_Source_Signed.F_eq])
set_option maxRecDepth 100000 in
theorem armplanmake_Source_Signed.sound : ProcSound Try.prog glob0 35 armplanmake_Source_Signed.p :=
  fn_sound (E := armplanmake_Source_Signed.E) (c := armplanmake_Source_Signed.body0) (ann := armplanmake_Source_Signed.ann) armplanmake_Source_Signed.ok Try.func35 (of_decide_eq_true (by kernel_rfl)) rfl rfl rfl (by decide +kernel) ((SubsOk_z _ _) : SubsOk armplanmake_Source_Signed.E armplanmake_Source_Signed.body0 armplanmake_Source_Signed.ann) (fun _ => rfl) rfl armplanmake_Source_Signed.eq

/-! ### slices.Index[[]armplan/api.Pair,armplan/api.Pair]: function 52 -/
noncomputable def slices_Index_Pair.p0.round (v0 : List ((Int × Int))) (v1 : Int) (v2 : Int) (v3 : Int) (v4 : Int) : Option ((List ((Int × Int)) × Int × Int × Int × Int) ⊕ ((Int) ⊕ (Unit))) :=
  (bif decide (v2 < v1) then (bif decide (0 ≤ v2) then (bif decide (v2 < (v0.length : Int)) then (bif ((v3 == (v0.getD v2.toNat ((0 : Int), (0 : Int))).1) && ((v4 == (v0.getD v2.toNat ((0 : Int), (0 : Int))).2) && true)) then some (.inr (.inl v2)) else some (.inl (v0, v1, (IntKind.wrap .i64 (v2 + (1 : Int))), v3, v4))) else none) else none) else some (.inr (.inr ())))
noncomputable def slices_Index_Pair.p0.step (s : List ((Int × Int)) × Int × Int × Int × Int) : Option ((List ((Int × Int)) × Int × Int × Int × Int) ⊕ ((Int) ⊕ (Unit))) := slices_Index_Pair.p0.round s.1 s.2.1 s.2.2.1 s.2.2.2.1 s.2.2.2.2
noncomputable def slices_Index_Pair.p0.inS : Shape := ⟨[(0, .lf (.dat tyK)), (3, .lf (.bp 0 0)), (7, .lf (.sc (.int .i64))), (8, .lf (.sc (.int .i64)))], [.box [.sc (.int .i64), .sc (.int .i64)]]⟩
noncomputable def slices_Index_Pair.p0.w0 : Way := { ex := .rt, S := ⟨[(4, .lf (.sc (.int .i64)))], []⟩, R := Int, post := fun r => ((r, ()), ()), un := fun x => x.1.1 }
noncomputable def slices_Index_Pair.p0.w1 : Way := { ex := (.ex 0), S := ⟨[], []⟩, R := Unit, post := fun r => ((), ()), un := fun x => () }
noncomputable def slices_Index_Pair.p0.outs : List Way := [slices_Index_Pair.p0.w0, slices_Index_Pair.p0.w1]
noncomputable def slices_Index_Pair.p0.un (x : Tup slices_Index_Pair.p0.inS) : List ((Int × Int)) × Int × Int × Int × Int := (x.1.1, x.1.2.2.1, x.1.2.2.2.1, x.2.1.1, x.2.1.2.1)
noncomputable def slices_Index_Pair.p0.lp : LProc := { inS := slices_Index_Pair.p0.inS, outs := slices_Index_Pair.p0.outs, F := fun x => loopF slices_Index_Pair.p0.step (slices_Index_Pair.p0.un x) }
noncomputable def slices_Index_Pair.F0 (a0 : List ((Int × Int))) (a1 : Int) (a2 : Int) : Option (Int) :=
  ((loopF slices_Index_Pair.p0.step (a0, (a0.length : Int), (0 : Int), a1, a2)).bind fun y1 => (Sum.elim (fun y2 => some y2) (fun z3 => some (-1 : Int)) y1))
noncomputable def slices_Index_Pair.F : (List ((Int × Int))) → Int → Int → Option (Int) := lock slices_Index_Pair.F0
theorem slices_Index_Pair.F_eq : slices_Index_Pair.F = slices_Index_Pair.F0 := lock_eq _
noncomputable def slices_Index_Pair.p : Proc := { nargs := 2, inS := ⟨[(0, .lf (.dat tyK)), (1, .ag [.sc (.int .i64), .sc (.int .i64)])], []⟩, outS := ⟨[(0, .lf (.sc (.int .i64)))], []⟩, n0 := 0, R := Int, F := fun x => slices_Index_Pair.F x.1.1 x.1.2.1.1 x.1.2.1.2.1, post := fun r => ((r, ()), ()), un := fun x => x.1.1 }
noncomputable def slices_Index_Pair.E : Env := { P := Try.prog, ty := tyTab [], glob := glob0, proc := procTab [], lproc := lprocTab [(0, slices_Index_Pair.p0.lp)], n0 := 0, ntmps := 19 }
theorem slices_Index_Pair.ok : ProcsOk slices_Index_Pair.E := AllSound.ok (l := []) (by kernel_rfl) rfl trivial
noncomputable def slices_Index_Pair.body0 : Code := (match Try.f52.body with | some c => c | none => .skip)
noncomputable def slices_Index_Pair.p0.c : Code := ((codeAt slices_Index_Pair.body0 [.r, .l, .r, .b, .b]).getD .skip)
noncomputable def slices_Index_Pair.p0.ann : Ann := .z
set_option maxRecDepth 100000 in
theorem slices_Index_Pair.p0.eq (x : Tup slices_Index_Pair.p0.inS) : peRound slices_Index_Pair.E slices_Index_Pair.p0.c slices_Index_Pair.p0.ann _ slices_Index_Pair.p0.inS slices_Index_Pair.p0.un slices_Index_Pair.p0.outs x = slices_Index_Pair.p0.step (slices_Index_Pair.p0.un x) := by
  kernel_rfl
set_option maxRecDepth 100000 in
theorem slices_Index_Pair.p0.sound : LProcSound slices_Index_Pair.E (.loop slices_Index_Pair.p0.c) slices_Index_Pair.p0.lp :=
  loop_sound (c := slices_Index_Pair.p0.c) (ann := slices_Index_Pair.p0.ann) slices_Index_Pair.ok ((SubsOk_z _ _) : SubsOk slices_Index_Pair.E slices_Index_Pair.p0.c slices_Index_Pair.p0.ann) (by intro a ha; simp only [slices_Index_Pair.p0.outs, List.mem_cons, List.not_mem_nil, or_false] at ha; rcases ha with rfl | rfl <;> exact fun _ => rfl) slices_Index_Pair.p0.eq
noncomputable def slices_Index_Pair.ann : Ann := .s (.z) (.s (.s (.z) (.b (.sub 0))) (.z))
set_option maxRecDepth 100000 in
theorem slices_Index_Pair.eq (x : Tup slices_Index_Pair.p.inS) : peFn slices_Index_Pair.E Try.f52 slices_Index_Pair.ann slices_Index_Pair.p x = slices_Index_Pair.p.F x := by
  have h : peFn slices_Index_Pair.E Try.f52 slices_Index_Pair.ann slices_Index_Pair.p x = slices_Index_Pair.F0 x.1.1 x.1.2.1.1 x.1.2.1.2.1 := by kernel_rfl
  exact h.trans (by show _ = slices_Index_Pair.F x.1.1 x.1.2.1.1 x.1.2.1.2.1; rw [slices_Index_Pair.F_eq])
set_option maxRecDepth 100000 in
theorem slices_Index_Pair.sound : ProcSound Try.prog glob0 52 slices_Index_Pair.p :=
  fn_sound (E := slices_Index_Pair.E) (c := slices_Index_Pair.body0) (ann := slices_Index_Pair.ann) slices_Index_Pair.ok Try.func52 (of_decide_eq_true (by kernel_rfl)) rfl rfl rfl (by decide +kernel) (⟨(SubsOk_z _ _), ⟨⟨(SubsOk_z _ _), (sub_of rfl slices_Index_Pair.p0.sound)⟩, (SubsOk_z _ _)⟩⟩ : SubsOk slices_Index_Pair.E slices_Index_Pair.body0 slices_Index_Pair.ann) (fun _ => rfl) rfl slices_Index_Pair.eq

/-! ### armplan/armplanref6.Skipped: function 54 -/
noncomputable def armplanref6_Skipped.p0.round (v0 : Int) (v1 : Int) (v2 : Int) (v3 : List ((ByteArray × (Int × (Int × ((Int × (Int × Int)) × (Int × (Int × (Int × (Int × (Int × Int))))))))))) (v4 : List ((Int × (Int × (Int × (Int × Int)))))) (v5 : List ((Int × (Int × List ((Int × (Int × Int))))))) (v6 : List ((Int × Int))) : Option ((Int × Int × Int × List ((ByteArray × (Int × (Int × ((Int × (Int × Int)) × (Int × (Int × (Int × (Int × (Int × Int)))))))))) × List ((Int × (Int × (Int × (Int × Int))))) × List ((Int × (Int × List ((Int × (Int × Int)))))) × List ((Int × Int))) ⊕ ((Bool) ⊕ (Unit))) :=
  (bif decide (v2 < (v6.length : Int)) then (bif decide (0 ≤ v2) then (bif decide (v2 < (v6.length : Int)) then (bif ((v6.getD v2.toNat ((0 : Int), (0 : Int))).1 == v0) then (bif ((v6.getD v2.toNat ((0 : Int), (0 : Int))).2 == v1) then some (.inr (.inl true)) else (bif ((v6.getD v2.toNat ((0 : Int), (0 : Int))).1 == v1) then (bif ((v6.getD v2.toNat ((0 : Int), (0 : Int))).2 == v0) then some (.inr (.inl true)) else some (.inl (v0, v1, (IntKind.wrap .i64 (v2 + (1 : Int))), v3, v4, v5, v6))) else some (.inl (v0, v1, (IntKind.wrap .i64 (v2 + (1 : Int))), v3, v4, v5, v6)))) else (bif ((v6.getD v2.toNat ((0 : Int), (0 : Int))).1 == v1) then (bif ((v6.getD v2.toNat ((0 : Int), (0 : Int))).2 == v0) then some (.inr (.inl true)) else some (.inl (v0, v1, (IntKind.wrap .i64 (v2 + (1 : Int))), v3, v4, v5, v6))) else some (.inl (v0, v1, (IntKind.wrap .i64 (v2 + (1 : Int))), v3, v4, v5, v6)))) else none) else none) else some (.inr (.inr ())))
noncomputable def armplanref6_Skipped.p0.step (s : Int × Int × Int × List ((ByteArray × (Int × (Int × ((Int × (Int × Int)) × (Int × (Int × (Int × (Int × (Int × Int)))))))))) × List ((Int × (Int × (Int × (Int × Int))))) × List ((Int × (Int × List ((Int × (Int × Int)))))) × List ((Int × Int))) : Option ((Int × Int × Int × List ((ByteArray × (Int × (Int × ((Int × (Int × Int)) × (Int × (Int × (Int × (Int × (Int × Int)))))))))) × List ((Int × (Int × (Int × (Int × Int))))) × List ((Int × (Int × List ((Int × (Int × Int)))))) × List ((Int × Int))) ⊕ ((Bool) ⊕ (Unit))) := armplanref6_Skipped.p0.round s.1 s.2.1 s.2.2.1 s.2.2.2.1 s.2.2.2.2.1 s.2.2.2.2.2.1 s.2.2.2.2.2.2
noncomputable def armplanref6_Skipped.p0.inS : Shape := ⟨[(1, .lf (.sc (.int .i64))), (2, .lf (.sc (.int .i64))), (3, .lf (.bp 0 0)), (7, .lf (.sc (.int .i64)))], [.box [.dat tyJ, .dat tyM, .dat tyS, .dat tyK]]⟩
noncomputable def armplanref6_Skipped.p0.w0 : Way := { ex := .rt, S := ⟨[(6, .lf (.sc .bool))], []⟩, R := Bool, post := fun r => ((r, ()), ()), un := fun x => x.1.1 }
noncomputable def armplanref6_Skipped.p0.w1 : Way := { ex := (.ex 0), S := ⟨[], []⟩, R := Unit, post := fun r => ((), ()), un := fun x => () }
noncomputable def armplanref6_Skipped.p0.outs : List Way := [armplanref6_Skipped.p0.w0, armplanref6_Skipped.p0.w1]
noncomputable def armplanref6_Skipped.p0.un (x : Tup armplanref6_Skipped.p0.inS) : Int × Int × Int × List ((ByteArray × (Int × (Int × ((Int × (Int × Int)) × (Int × (Int × (Int × (Int × (Int × Int)))))))))) × List ((Int × (Int × (Int × (Int × Int))))) × List ((Int × (Int × List ((Int × (Int × Int)))))) × List ((Int × Int)) := (x.1.1, x.1.2.1, x.1.2.2.2.1, x.2.1.1, x.2.1.2.1, x.2.1.2.2.1, x.2.1.2.2.2.1)
noncomputable def armplanref6_Skipped.p0.lp : LProc := { inS := armplanref6_Skipped.p0.inS, outs := armplanref6_Skipped.p0.outs, F := fun x => loopF armplanref6_Skipped.p0.step (armplanref6_Skipped.p0.un x) }
noncomputable def armplanref6_Skipped.F0 (a0 : List ((ByteArray × (Int × (Int × ((Int × (Int × Int)) × (Int × (Int × (Int × (Int × (Int × Int))))))))))) (a1 : List ((Int × (Int × (Int × (Int × Int)))))) (a2 : List ((Int × (Int × List ((Int × (Int × Int))))))) (a3 : List ((Int × Int))) (a4 : Int) (a5 : Int) : Option (Bool) :=
  ((loopF armplanref6_Skipped.p0.step (a4, a5, (0 : Int), a0, a1, a2, a3)).bind fun y1 => (Sum.elim (fun y2 => some y2) (fun z3 => some false) y1))
noncomputable def armplanref6_Skipped.F : (List ((ByteArray × (Int × (Int × ((Int × (Int × Int)) × (Int × (Int × (Int × (Int × (Int × Int))))))))))) → (List ((Int × (Int × (Int × (Int × Int)))))) → (List ((Int × (Int × List ((Int × (Int × Int))))))) → (List ((Int × Int))) → Int → Int → Option (Bool) := lock armplanref6_Skipped.F0
theorem armplanref6_Skipped.F_eq : armplanref6_Skipped.F = armplanref6_Skipped.F0 := lock_eq _
noncomputable def armplanref6_Skipped.p : Proc := { nargs := 3, inS := ⟨[(0, .ag [.dat tyJ, .dat tyM, .dat tyS, .dat tyK]), (1, .lf (.sc (.int .i64))), (2, .lf (.sc (.int .i64)))], []⟩, outS := ⟨[(0, .lf (.sc .bool))], []⟩, n0 := 0, R := Bool, F := fun x => armplanref6_Skipped.F x.1.1.1 x.1.1.2.1 x.1.1.2.2.1 x.1.1.2.2.2.1 x.1.2.1 x.1.2.2.1, post := fun r => ((r, ()), ()), un := fun x => x.1.1 }
noncomputable def armplanref6_Skipped.E : Env := { P := Try.prog, ty := tyTab [], glob := glob0, proc := procTab [], lproc := lprocTab [(0, armplanref6_Skipped.p0.lp)], n0 := 0, ntmps := 43 }
theorem armplanref6_Skipped.ok : ProcsOk armplanref6_Skipped.E := AllSound.ok (l := []) (by kernel_rfl) rfl trivial
noncomputable def armplanref6_Skipped.body0 : Code := (match Try.f54.body with | some c => c | none => .skip)
noncomputable def armplanref6_Skipped.p0.c : Code := ((codeAt armplanref6_Skipped.body0 [.r, .l, .r, .b, .b]).getD .skip)
noncomputable def armplanref6_Skipped.p0.ann : Ann := .z
set_option maxRecDepth 100000 in
theorem armplanref6_Skipped.p0.eq (x : Tup armplanref6_Skipped.p0.inS) : peRound armplanref6_Skipped.E armplanref6_Skipped.p0.c armplanref6_Skipped.p0.ann _ armplanref6_Skipped.p0.inS armplanref6_Skipped.p0.un armplanref6_Skipped.p0.outs x = armplanref6_Skipped.p0.step (armplanref6_Skipped.p0.un x) := by
  kernel_rfl
set_option maxRecDepth 100000 in
theorem armplanref6_Skipped.p0.sound : LProcSound armplanref6_Skipped.E (.loop armplanref6_Skipped.p0.c) armplanref6_Skipped.p0.lp :=
  loop_sound (c := armplanref6_Skipped.p0.c) (ann := armplanref6_Skipped.p0.ann) armplanref6_Skipped.ok ((SubsOk_z _ _) : SubsOk armplanref6_Skipped.E armplanref6_Skipped.p0.c armplanref6_Skipped.p0.ann) (by intro a ha; simp only [armplanref6_Skipped.p0.outs, List.mem_cons, List.not_mem_nil, or_false] at ha; rcases ha with rfl | rfl <;> exact fun _ => rfl) armplanref6_Skipped.p0.eq
noncomputable def armplanref6_Skipped.ann : Ann := .s (.z) (.s (.s (.z) (.b (.sub 0))) (.z))
set_option maxRecDepth 100000 in
theorem armplanref6_Skipped.eq (x : Tup armplanref6_Skipped.p.inS) : peFn armplanref6_Skipped.E Try.f54 armplanref6_Skipped.ann armplanref6_Skipped.p x = armplanref6_Skipped.p.F x := by
  have h : peFn armplanref6_Skipped.E Try.f54 armplanref6_Skipped.ann armplanref6_Skipped.p x = armplanref6_Skipped.F0 x.1.1.1 x.1.1.2.1 x.1.1.2.2.1 x.1.1.2.2.2.1 x.1.2.1 x.1.2.2.1 := by kernel_rfl
  exact h.trans (by show _ = armplanref6_Skipped.F x.1.1.1 x.1.1.2.1 x.1.1.2.2.1 x.1.1.2.2.2.1 x.1.2.1 x.1.2.2.1; rw [armplanref6_Skipped.F_eq])
set_option maxRecDepth 100000 in
theorem armplanref6_Skipped.sound : ProcSound Try.prog glob0 54 armplanref6_Skipped.p :=
  fn_sound (E := armplanref6_Skipped.E) (c := armplanref6_Skipped.body0) (ann := armplanref6_Skipped.ann) armplanref6_Skipped.ok Try.func54 (of_decide_eq_true (by kernel_rfl)) rfl rfl rfl (by decide +kernel) (⟨(SubsOk_z _ _), ⟨⟨(SubsOk_z _ _), (sub_of rfl armplanref6_Skipped.p0.sound)⟩, (SubsOk_z _ _)⟩⟩ : SubsOk armplanref6_Skipped.E armplanref6_Skipped.body0 armplanref6_Skipped.ann) (fun _ => rfl) rfl armplanref6_Skipped.eq

/-! ### armplan/armplanref32.raised: function 55 -/
noncomputable def armplanref32_raised.F0 (a0 : Int) (a1 : Int) : Option (Int) :=
  (bif (a0 == (-1 : Int)) then some a0 else some (IntKind.wrap .i64 (a0 + a1)))
noncomputable def armplanref32_raised.F : Int → Int → Option (Int) := lock armplanref32_raised.F0
theorem armplanref32_raised.F_eq : armplanref32_raised.F = armplanref32_raised.F0 := lock_eq _
noncomputable def armplanref32_raised.p : Proc := { nargs := 2, inS := ⟨[(0, .lf (.sc (.int .i64))), (1, .lf (.sc (.int .i64)))], []⟩, outS := ⟨[(0, .lf (.sc (.int .i64)))], []⟩, n0 := 0, R := Int, F := fun x => armplanref32_raised.F x.1.1 x.1.2.1, post := fun r => ((r, ()), ()), un := fun x => x.1.1 }
noncomputable def armplanref32_raised.E : Env := { P := Try.prog, ty := tyTab [], glob := glob0, proc := procTab [], lproc := lprocTab [], n0 := 0, ntmps := 11 }
theorem armplanref32_raised.ok : ProcsOk armplanref32_raised.E := AllSound.ok (l := []) (by kernel_rfl) rfl trivial
noncomputable def armplanref32_raised.body0 : Code := (match Try.f55.body with | some c => c | none => .skip)
noncomputable def armplanref32_raised.ann : Ann := .z
set_option maxRecDepth 100000 in
theorem armplanref32_raised.eq (x : Tup armplanref32_raised.p.inS) : peFn armplanref32_raised.E Try.f55 armplanref32_raised.ann armplanref32_raised.p x = armplanref32_raised.p.F x := by
  have h : peFn armplanref32_raised.E Try.f55 armplanref32_raised.ann armplanref32_raised.p x = armplanref32_raised.F0 x.1.1 x.1.2.1 := by kernel_rfl
  exact h.trans (by show _ = armplanref32_raised.F x.1.1 x.1.2.1; rw [armplanref32_raised.F_eq])
set_option maxRecDepth 100000 in
theorem armplanref32_raised.sound : ProcSound Try.prog glob0 55 armplanref32_raised.p :=
  fn_sound (E := armplanref32_raised.E) (c := armplanref32_raised.body0) (ann := armplanref32_raised.ann) armplanref32_raised.ok Try.func55 (of_decide_eq_true (by kernel_rfl)) rfl rfl rfl (by decide +kernel) ((SubsOk_z _ _) : SubsOk armplanref32_raised.E armplanref32_raised.body0 armplanref32_raised.ann) (fun _ => rfl) rfl armplanref32_raised.eq

/-! ### armplan/armplanref32.shifted: function 56 -/
noncomputable def armplanref32_shifted.p0.round (v0 : Int) (v1 : Int) (v2 : Int) (v3 : List ((Int × (Int × Int)))) (v4 : Int) (v5 : Int) (v6 : Int) (v7 : Int) (v8 : Int) (v9 : Int) (v10 : Int) (v11 : List ((Int × (Int × Int)))) : Option ((Int × Int × Int × List ((Int × (Int × Int))) × Int × Int × Int × Int × Int × Int × Int × List ((Int × (Int × Int)))) ⊕ ((Int × Int × Int × Int × List ((Int × (Int × Int)))))) :=
  (bif decide (v0 < (v3.length : Int)) then (bif decide (0 ≤ v0) then (bif decide (v0 < (v3.length : Int)) then (bif decide (v11.length + ([((IntKind.wrap .i64 ((v3.getD v0.toNat ((0 : Int), ((0 : Int), (0 : Int)))).1 + v4)), ((IntKind.wrap .i64 (((v3.getD v0.toNat ((0 : Int), ((0 : Int), (0 : Int)))).2).1 + v5)), (IntKind.wrap .i64 (((v3.getD v0.toNat ((0 : Int), ((0 : Int), (0 : Int)))).2).2 + v6))))] : List ((Int × (Int × Int)))).length < 5864062014805) then some (.inl ((IntKind.wrap .i64 (v0 + (1 : Int))), v1, v2, v3, v4, v5, v6, v7, v8, v9, v10, (v11 ++ ([((IntKind.wrap .i64 ((v3.getD v0.toNat ((0 : Int), ((0 : Int), (0 : Int)))).1 + v4)), ((IntKind.wrap .i64 (((v3.getD v0.toNat ((0 : Int), ((0 : Int), (0 : Int)))).2).1 + v5)), (IntKind.wrap .i64 (((v3.getD v0.toNat ((0 : Int), ((0 : Int), (0 : Int)))).2).2 + v6))))] : List ((Int × (Int × Int))))))) else none) else none) else none) else some (.inr (v7, v8, v9, v10, v11)))
noncomputable def armplanref32_shifted.p0.step (s : Int × Int × Int × List ((Int × (Int × Int))) × Int × Int × Int × Int × Int × Int × Int × List ((Int × (Int × Int)))) : Option ((Int × Int × Int × List ((Int × (Int × Int))) × Int × Int × Int × Int × Int × Int × Int × List ((Int × (Int × Int)))) ⊕ ((Int × Int × Int × Int × List ((Int × (Int × Int)))))) := armplanref32_shifted.p0.round s.1 s.2.1 s.2.2.1 s.2.2.2.1 s.2.2.2.2.1 s.2.2.2.2.2.1 s.2.2.2.2.2.2.1 s.2.2.2.2.2.2.2.1 s.2.2.2.2.2.2.2.2.1 s.2.2.2.2.2.2.2.2.2.1 s.2.2.2.2.2.2.2.2.2.2.1 s.2.2.2.2.2.2.2.2.2.2.2
noncomputable def armplanref32_shifted.p0.inS : Shape := ⟨[(3, .lf (.bp 0 0)), (5, .lf (.bp 1 0)), (6, .lf (.bp 2 0)), (7, .lf (.bp 3 0)), (8, .lf (.sc (.int .i64)))], [.box [.sc (.int .i64), .sc (.int .i64), .dat tyV], .box [.sc (.int .i64), .sc (.int .i64), .sc (.int .i64)], .box [.sc (.int .i64), .sc (.int .i64), .cst (.slice none 0 0)], .box [.sc (.int .i64), .sc (.int .i64), .own 4], .row 31 tyV]⟩
noncomputable def armplanref32_shifted.p0.w0 : Way := { ex := (.ex 0), S := ⟨[(6, .lf (.bp 0 0)), (7, .lf (.bp 1 0))], [.box [.sc (.int .i64), .sc (.int .i64), .cst (.slice none 0 0)], .box [.sc (.int .i64), .sc (.int .i64), .own 2], .row 31 tyV]⟩, R := Int × Int × Int × Int × List ((Int × (Int × Int))), post := fun r => (((), ((), ())), ((r.1, (r.2.1, ((), ()))), ((r.2.2.1, (r.2.2.2.1, ((), ()))), (r.2.2.2.2, ())))), un := fun x => (x.2.1.1, x.2.1.2.1, x.2.2.1.1, x.2.2.1.2.1, x.2.2.2.1) }
noncomputable def armplanref32_shifted.p0.outs : List Way := [armplanref32_shifted.p0.w0]
noncomputable def armplanref32_shifted.p0.un (x : Tup armplanref32_shifted.p0.inS) : Int × Int × Int × List ((Int × (Int × Int))) × Int × Int × Int × Int × Int × Int × Int × List ((Int × (Int × Int))) := (x.1.2.2.2.2.1, x.2.1.1, x.2.1.2.1, x.2.1.2.2.1, x.2.2.1.1, x.2.2.1.2.1, x.2.2.1.2.2.1, x.2.2.2.1.1, x.2.2.2.1.2.1, x.2.2.2.2.1.1, x.2.2.2.2.1.2.1, x.2.2.2.2.2.1)
noncomputable def armplanref32_shifted.p0.lp : LProc := { inS := armplanref32_shifted.p0.inS, outs := armplanref32_shifted.p0.outs, F := fun x => loopF armplanref32_shifted.p0.step (armplanref32_shifted.p0.un x) }
noncomputable def armplanref32_shifted.F0 (a0 : Int) (a1 : Int) (a2 : List ((Int × (Int × Int)))) (a3 : Int) (a4 : Int) (a5 : Int) (a6 : Int) : Option (Int × Int × List ((Int × (Int × Int)))) :=
  ((loopF armplanref32_shifted.p0.step ((0 : Int), a0, a1, a2, a4, a5, a6, (0 : Int), (0 : Int), a3, a1, ([] : List ((Int × (Int × Int)))))).bind fun y1 => some (y1.2.2.1, y1.2.2.2.1, y1.2.2.2.2))
noncomputable def armplanref32_shifted.F : Int → Int → (List ((Int × (Int × Int)))) → Int → Int → Int → Int → Option (Int × Int × List ((Int × (Int × Int)))) := lock armplanref32_shifted.F0
theorem armplanref32_shifted.F_eq : armplanref32_shifted.F = armplanref32_shifted.F0 := lock_eq _
noncomputable def armplanref32_shifted.p : Proc := { nargs := 3, inS := ⟨[(0, .ag [.sc (.int .i64), .sc (.int .i64), .dat tyV]), (1, .lf (.sc (.int .i64))), (2, .ag [.sc (.int .i64), .sc (.int .i64), .sc (.int .i64)])], []⟩, outS := ⟨[(0, .ag [.sc (.int .i64), .sc (.int .i64), .dat tyV])], []⟩, n0 := 0, R := Int × Int × List ((Int × (Int × Int))), F := fun x => armplanref32_shifted.F x.1.1.1 x.1.1.2.1 x.1.1.2.2.1 x.1.2.1 x.1.2.2.1.1 x.1.2.2.1.2.1 x.1.2.2.1.2.2.1, post := fun r => (((r.1, (r.2.1, (r.2.2, ()))), ()), ()), un := fun x => (x.1.1.1, x.1.1.2.1, x.1.1.2.2.1) }
noncomputable def armplanref32_shifted.E : Env := { P := Try.prog, ty := tyTab [(31, tyV)], glob := glob0, proc := procTab [], lproc := lprocTab [(0, armplanref32_shifted.p0.lp)], n0 := 0, ntmps := 48 }
theorem armplanref32_shifted.ok : ProcsOk armplanref32_shifted.E := AllSound.ok (l := []) (by kernel_rfl) rfl trivial
noncomputable def armplanref32_shifted.body0 : Code := (match Try.f56.body with | some c => c | none => .skip)
noncomputable def armplanref32_shifted.p0.c : Code := ((codeAt armplanref32_shifted.body0 [.r, .r, .l, .r, .b, .b]).getD .skip)
noncomputable def armplanref32_shifted.p0.ann : Ann := .z
set_option maxRecDepth 100000 in
theorem armplanref32_shifted.p0.eq (x : Tup armplanref32_shifted.p0.inS) : peRound armplanref32_shifted.E armplanref32_shifted.p0.c armplanref32_shifted.p0.ann _ armplanref32_shifted.p0.inS armplanref32_shifted.p0.un armplanref32_shifted.p0.outs x = armplanref32_shifted.p0.step (armplanref32_shifted.p0.un x) := by
  kernel_rfl
set_option maxRecDepth 100000 in
theorem armplanref32_shifted.p0.sound : LProcSound armplanref32_shifted.E (.loop armplanref32_shifted.p0.c) armplanref32_shifted.p0.lp :=
  loop_sound (c := armplanref32_shifted.p0.c) (ann := armplanref32_shifted.p0.ann) armplanref32_shifted.ok ((SubsOk_z _ _) : SubsOk armplanref32_shifted.E armplanref32_shifted.p0.c armplanref32_shifted.p0.ann) (by intro a ha; simp only [armplanref32_shifted.p0.outs, List.mem_cons, List.not_mem_nil, or_false] at ha; rcases ha with rfl <;> exact fun _ => rfl) armplanref32_shifted.p0.eq
noncomputable def armplanref32_shifted.ann : Ann := .s (.z) (.s (.z) (.s (.s (.z) (.b (.sub 0))) (.z)))
set_option maxRecDepth 100000 in
theorem armplanref32_shifted.eq (x : Tup armplanref32_shifted.p.inS) : peFn armplanref32_shifted.E Try.f56 armplanref32_shifted.ann armplanref32_shifted.p x = armplanref32_shifted.p.F x := by
  have h : peFn armplanref32_shifted.E Try.f56 armplanref32_shifted.ann armplanref32_shifted.p x = armplanref32_shifted.F0 x.1.1.1 x.1.1.2.1 x.1.1.2.2.1 x.1.2.1 x.1.2.2.1.1 x.1.2.2.1.2.1 x.1.2.2.1.2.2.1 := by kernel_rfl
  exact h.trans (by show _ = armplanref32_shifted.F x.1.1.1 x.1.1.2.1 x.1.1.2.2.1 x.1.2.1 x.1.2.2.1.1 x.1.2.2.1.2.1 x.1.2.2.1.2.2.1; rw [armplanref32_shifted.F_eq])
set_option maxRecDepth 100000 in
theorem armplanref32_shifted.sound : ProcSound Try.prog glob0 56 armplanref32_shifted.p :=
  fn_sound (E := armplanref32_shifted.E) (c := armplanref32_shifted.body0) (ann := armplanref32_shifted.ann) armplanref32_shifted.ok Try.func56 (of_decide_eq_true (by kernel_rfl)) rfl rfl rfl (by decide +kernel) (⟨(SubsOk_z _ _), ⟨(SubsOk_z _ _), ⟨⟨(SubsOk_z _ _), (sub_of rfl armplanref32_shifted.p0.sound)⟩, (SubsOk_z _ _)⟩⟩⟩ : SubsOk armplanref32_shifted.E armplanref32_shifted.body0 armplanref32_shifted.ann) (fun _ => rfl) rfl armplanref32_shifted.eq

/-! ### armplan/armplanmake.letter: function 62 -/
noncomputable def armplanmake_letter.F0 (a0 : Int) : Option (ByteArray) :=
  (bif decide (0 ≤ a0) then (bif decide (a0 ≤ (IntKind.wrap .i64 (a0 + (1 : Int)))) then (bif decide ((IntKind.wrap .i64 (a0 + (1 : Int))) ≤ ((⟨#[97, 98, 99, 100, 101, 102, 103, 104, 105, 106]⟩ : ByteArray).size : Int)) then some ((⟨#[97, 98, 99, 100, 101, 102, 103, 104, 105, 106]⟩ : ByteArray).extract a0.toNat (IntKind.wrap .i64 (a0 + (1 : Int))).toNat) else none) else none) else none)
noncomputable def armplanmake_letter.F : Int → Option (ByteArray) := lock armplanmake_letter.F0
theorem armplanmake_letter.F_eq : armplanmake_letter.F = armplanmake_letter.F0 := lock_eq _
noncomputable def armplanmake_letter.p : Proc := { nargs := 1, inS := ⟨[(0, .lf (.sc (.int .i64)))], []⟩, outS := ⟨[(0, .lf (.sc .str))], []⟩, n0 := 0, R := ByteArray, F := fun x => armplanmake_letter.F x.1.1, post := fun r => ((r, ()), ()), un := fun x => x.1.1 }
noncomputable def armplanmake_letter.E : Env := { P := Try.prog, ty := tyTab [], glob := glob0, proc := procTab [], lproc := lprocTab [], n0 := 0, ntmps := 7 }
theorem armplanmake_letter.ok : ProcsOk armplanmake_letter.E := AllSound.ok (l := []) (by kernel_rfl) rfl trivial
noncomputable def armplanmake_letter.body0 : Code := (match Try.f62.body with | some c => c | none => .skip)
noncomputable def armplanmake_letter.ann : Ann := .z
set_option maxRecDepth 100000 in
theorem armplanmake_letter.eq (x : Tup armplanmake_letter.p.inS) : peFn armplanmake_letter.E Try.f62 armplanmake_letter.ann armplanmake_letter.p x = armplanmake_letter.p.F x := by
  have h : peFn armplanmake_letter.E Try.f62 armplanmake_letter.ann armplanmake_letter.p x = armplanmake_letter.F0 x.1.1 := by kernel_rfl
  exact h.trans (by show _ = armplanmake_letter.F x.1.1; rw [armplanmake_letter.F_eq])
set_option maxRecDepth 100000 in
theorem armplanmake_letter.sound : ProcSound Try.prog glob0 62 armplanmake_letter.p :=
  fn_sound (E := armplanmake_letter.E) (c := armplanmake_letter.body0) (ann := armplanmake_letter.ann) armplanmake_letter.ok Try.func62 (of_decide_eq_true (by kernel_rfl)) rfl rfl rfl (by decide +kernel) ((SubsOk_z _ _) : SubsOk armplanmake_letter.E armplanmake_letter.body0 armplanmake_letter.ann) (fun _ => rfl) rfl armplanmake_letter.eq

/-! ### armplan/armplanmake.points: function 64 -/
noncomputable def armplanmake_points.p0.round (v0 : Int) (v1 : List (Int)) (v2 : Int) (v3 : Int) (v4 : Int) (v5 : Int) (v6 : List ((Int × (Int × Int)))) : Option ((Int × List (Int) × Int × Int × Int × Int × List ((Int × (Int × Int)))) ⊕ ((List (Int) × Int × List ((Int × (Int × Int)))))) :=
  (bif decide (v0 > (0 : Int)) then ((armplanmake_Source_Signed.F (3 : Int) v1 v2).bind fun r5 => ((armplanmake_Source_Signed.F (2 : Int) r5.2.1 r5.2.2).bind fun r6 => ((armplanmake_Source_Signed.F (2 : Int) r6.2.1 r6.2.2).bind fun r7 => (bif decide (v6.length + ([((IntKind.wrap .i64 (v3 + (IntKind.wrap .i64 (r5.1 * (32768 : Int))))), ((IntKind.wrap .i64 (v4 + (IntKind.wrap .i64 (r6.1 * (32768 : Int))))), (IntKind.wrap .i64 (v5 + (IntKind.wrap .i64 (r7.1 * (32768 : Int)))))))] : List ((Int × (Int × Int)))).length < 5864062014805) then some (.inl ((IntKind.wrap .i64 (v0 - (1 : Int))), r7.2.1, r7.2.2, v3, v4, v5, (v6 ++ ([((IntKind.wrap .i64 (v3 + (IntKind.wrap .i64 (r5.1 * (32768 : Int))))), ((IntKind.wrap .i64 (v4 + (IntKind.wrap .i64 (r6.1 * (32768 : Int))))), (IntKind.wrap .i64 (v5 + (IntKind.wrap .i64 (r7.1 * (32768 : Int)))))))] : List ((Int × (Int × Int))))))) else none)))) else some (.inr (v1, v2, v6)))
noncomputable def armplanmake_points.p0.step (s : Int × List (Int) × Int × Int × Int × Int × List ((Int × (Int × Int)))) : Option ((Int × List (Int) × Int × Int × Int × Int × List ((Int × (Int × Int)))) ⊕ ((List (Int) × Int × List ((Int × (Int × Int)))))) := armplanmake_points.p0.round s.1 s.2.1 s.2.2.1 s.2.2.2.1 s.2.2.2.2.1 s.2.2.2.2.2.1 s.2.2.2.2.2.2
noncomputable def armplanmake_points.p0.inS : Shape := ⟨[(0, .lf (.bp 0 0)), (3, .lf (.bp 1 0)), (5, .lf (.own 2)), (6, .lf (.sc (.int .i64)))], [.box [.dat (.int .i64), .sc (.int .i64)], .box [.sc (.int .i64), .sc (.int .i64), .sc (.int .i64)], .row 31 tyV]⟩
noncomputable def armplanmake_points.p0.w0 : Way := { ex := (.ex 0), S := ⟨[(5, .lf (.own 1))], [.box [.dat (.int .i64), .sc (.int .i64)], .row 31 tyV]⟩, R := List (Int) × Int × List ((Int × (Int × Int))), post := fun r => (((), ()), ((r.1, (r.2.1, ())), (r.2.2, ()))), un := fun x => (x.2.1.1, x.2.1.2.1, x.2.2.1) }
noncomputable def armplanmake_points.p0.outs : List Way := [armplanmake_points.p0.w0]
noncomputable def armplanmake_points.p0.un (x : Tup armplanmake_points.p0.inS) : Int × List (Int) × Int × Int × Int × Int × List ((Int × (Int × Int))) := (x.1.2.2.2.1, x.2.1.1, x.2.1.2.1, x.2.2.1.1, x.2.2.1.2.1, x.2.2.1.2.2.1, x.2.2.2.1)
noncomputable def armplanmake_points.p0.lp : LProc := { inS := armplanmake_points.p0.inS, outs := armplanmake_points.p0.outs, F := fun x => loopF armplanmake_points.p0.step (armplanmake_points.p0.un x) }
noncomputable def armplanmake_points.F0 (a0 : Int) (a1 : Int) (a2 : Int) (a3 : List (Int)) (a4 : Int) : Option (List (Int) × Int × List ((Int × (Int × Int)))) :=
  ((armplanmake_Source_Next.F (4 : Int) a3 a4).bind fun r1 => ((loopF armplanmake_points.p0.step (r1.1, r1.2.1, r1.2.2, a0, a1, a2, ([(a0, (a1, a2))] : List ((Int × (Int × Int)))))).bind fun y8 => some (y8.1, y8.2.1, y8.2.2)))
noncomputable def armplanmake_points.F : Int → Int → Int → (List (Int)) → Int → Option (List (Int) × Int × List ((Int × (Int × Int)))) := lock armplanmake_points.F0
theorem armplanmake_points.F_eq : armplanmake_points.F = armplanmake_points.F0 := lock_eq _
noncomputable def armplanmake_points.p : Proc := { nargs := 2, inS := ⟨[(0, .lf (.bp 0 0)), (1, .ag [.sc (.int .i64), .sc (.int .i64), .sc (.int .i64)])], [.box [.dat (.int .i64), .sc (.int .i64)]]⟩, outS := ⟨[(0, .lf (.own 1))], [.box [.dat (.int .i64), .sc (.int .i64)], .row 31 tyV]⟩, n0 := 1, R := List (Int) × Int × List ((Int × (Int × Int))), F := fun x => armplanmake_points.F x.1.2.1.1 x.1.2.1.2.1 x.1.2.1.2.2.1 x.2.1.1 x.2.1.2.1, post := fun r => (((), ()), ((r.1, (r.2.1, ())), (r.2.2, ()))), un := fun x => (x.2.1.1, x.2.1.2.1, x.2.2.1) }
noncomputable def armplanmake_points.E : Env := { P := Try.prog, ty := tyTab [(31, tyV)], glob := glob0, proc := procTab [(32, armplanmake_Source_Next.p), (35, armplanmake_Source_Signed.p)], lproc := lprocTab [(0, armplanmake_points.p0.lp)], n0 := 1, ntmps := 38 }
theorem armplanmake_points.ok : ProcsOk armplanmake_points.E := AllSound.ok (l := [(32, armplanmake_Source_Next.p), (35, armplanmake_Source_Signed.p)]) (by kernel_rfl) rfl ⟨armplanmake_Source_Next.sound, armplanmake_Source_Signed.sound, trivial⟩
noncomputable def armplanmake_points.body0 : Code := (match Try.f64.body with | some c => c | none => .skip)
noncomputable def armplanmake_points.p0.c : Code := ((codeAt armplanmake_points.body0 [.r, .r, .l, .r, .b, .b]).getD .skip)
noncomputable def armplanmake_points.p0.ann : Ann := .z
set_option maxRecDepth 100000 in
theorem armplanmake_points.p0.eq (x : Tup armplanmake_points.p0.inS) : peRound armplanmake_points.E armplanmake_points.p0.c armplanmake_points.p0.ann _ armplanmake_points.p0.inS armplanmake_points.p0.un armplanmake_points.p0.outs x = armplanmake_points.p0.step (armplanmake_points.p0.un x) := by
  kernel_rfl
set_option maxRecDepth 100000 in
theorem armplanmake_points.p0.sound : LProcSound armplanmake_points.E (.loop armplanmake_points.p0.c) armplanmake_points.p0.lp :=
  loop_sound (c := armplanmake_points.p0.c) (ann := armplanmake_points.p0.ann) armplanmake_points.ok ((SubsOk_z _ _) : SubsOk armplanmake_points.E armplanmake_points.p0.c armplanmake_points.p0.ann) (by intro a ha; simp only [armplanmake_points.p0.outs, List.mem_cons, List.not_mem_nil, or_false] at ha; rcases ha with rfl <;> exact fun _ => rfl) armplanmake_points.p0.eq
noncomputable def armplanmake_points.ann : Ann := .s (.z) (.s (.z) (.s (.s (.z) (.b (.sub 0))) (.z)))
set_option maxRecDepth 100000 in
theorem armplanmake_points.eq (x : Tup armplanmake_points.p.inS) : peFn armplanmake_points.E Try.f64 armplanmake_points.ann armplanmake_points.p x = armplanmake_points.p.F x := by
  have h : peFn armplanmake_points.E Try.f64 armplanmake_points.ann armplanmake_points.p x = armplanmake_points.F0 x.1.2.1.1 x.1.2.1.2.1 x.1.2.1.2.2.1 x.2.1.1 x.2.1.2.1 := by kernel_rfl
  exact h.trans (by show _ = armplanmake_points.F x.1.2.1.1 x.1.2.1.2.1 x.1.2.1.2.2.1 x.2.1.1 x.2.1.2.1; rw [armplanmake_points.F_eq])
set_option maxRecDepth 100000 in
theorem armplanmake_points.sound : ProcSound Try.prog glob0 64 armplanmake_points.p :=
  fn_sound (E := armplanmake_points.E) (c := armplanmake_points.body0) (ann := armplanmake_points.ann) armplanmake_points.ok Try.func64 (of_decide_eq_true (by kernel_rfl)) rfl rfl rfl (by decide +kernel) (⟨(SubsOk_z _ _), ⟨(SubsOk_z _ _), ⟨⟨(SubsOk_z _ _), (sub_of rfl armplanmake_points.p0.sound)⟩, (SubsOk_z _ _)⟩⟩⟩ : SubsOk armplanmake_points.E armplanmake_points.body0 armplanmake_points.ann) (fun _ => rfl) rfl armplanmake_points.eq

/-! ### armplan/armplanmake.Same[armplan/api.Skip]: function 66 -/
noncomputable def armplanmake_Same_Skip.p0.round (v0 : List ((Int × Int))) (v1 : List ((Int × Int))) (v2 : Int) : Option ((List ((Int × Int)) × List ((Int × Int)) × Int) ⊕ ((Bool) ⊕ (Unit))) :=
  (bif decide (v2 < (v0.length : Int)) then (bif decide (0 ≤ v2) then (bif decide (v2 < (v0.length : Int)) then (bif decide (0 ≤ v2) then (bif decide (v2 < (v1.length : Int)) then (bif (!(((v0.getD v2.toNat ((0 : Int), (0 : Int))).1 == (v1.getD v2.toNat ((0 : Int), (0 : Int))).1) && (((v0.getD v2.toNat ((0 : Int), (0 : Int))).2 == (v1.getD v2.toNat ((0 : Int), (0 : Int))).2) && true))) then some (.inr (.inl false)) else some (.inl (v0, v1, (IntKind.wrap .i64 (v2 + (1 : Int)))))) else none) else none) else none) else none) else some (.inr (.inr ())))
noncomputable def armplanmake_Same_Skip.p0.step (s : List ((Int × Int)) × List ((Int × Int)) × Int) : Option ((List ((Int × Int)) × List ((Int × Int)) × Int) ⊕ ((Bool) ⊕ (Unit))) := armplanmake_Same_Skip.p0.round s.1 s.2.1 s.2.2
noncomputable def armplanmake_Same_Skip.p0.inS : Shape := ⟨[(0, .lf (.dat tyK)), (1, .lf (.dat tyK)), (5, .lf (.sc (.int .i64)))], []⟩
noncomputable def armplanmake_Same_Skip.p0.w0 : Way := { ex := .rt, S := ⟨[(4, .lf (.sc .bool))], []⟩, R := Bool, post := fun r => ((r, ()), ()), un := fun x => x.1.1 }
noncomputable def armplanmake_Same_Skip.p0.w1 : Way := { ex := (.ex 0), S := ⟨[], []⟩, R := Unit, post := fun r => ((), ()), un := fun x => () }
noncomputable def armplanmake_Same_Skip.p0.outs : List Way := [armplanmake_Same_Skip.p0.w0, armplanmake_Same_Skip.p0.w1]
noncomputable def armplanmake_Same_Skip.p0.un (x : Tup armplanmake_Same_Skip.p0.inS) : List ((Int × Int)) × List ((Int × Int)) × Int := (x.1.1, x.1.2.1, x.1.2.2.1)
noncomputable def armplanmake_Same_Skip.p0.lp : LProc := { inS := armplanmake_Same_Skip.p0.inS, outs := armplanmake_Same_Skip.p0.outs, F := fun x => loopF armplanmake_Same_Skip.p0.step (armplanmake_Same_Skip.p0.un x) }
noncomputable def armplanmake_Same_Skip.F0 (a0 : List ((Int × Int))) (a1 : List ((Int × Int))) : Option (Bool) :=
  (bif ((a0.length : Int) != (a1.length : Int)) then some false else ((loopF armplanmake_Same_Skip.p0.step (a0, a1, (0 : Int))).bind fun y1 => (Sum.elim (fun y2 => some y2) (fun z3 => some true) y1)))
noncomputable def armplanmake_Same_Skip.F : (List ((Int × Int))) → (List ((Int × Int))) → Option (Bool) := lock armplanmake_Same_Skip.F0
theorem armplanmake_Same_Skip.F_eq : armplanmake_Same_Skip.F = armplanmake_Same_Skip.F0 := lock_eq _
noncomputable def armplanmake_Same_Skip.p : Proc := { nargs := 2, inS := ⟨[(0, .lf (.dat tyK)), (1, .lf (.dat tyK))], []⟩, outS := ⟨[(0, .lf (.sc .bool))], []⟩, n0 := 0, R := Bool, F := fun x => armplanmake_Same_Skip.F x.1.1 x.1.2.1, post := fun r => ((r, ()), ()), un := fun x => x.1.1 }
noncomputable def armplanmake_Same_Skip.E : Env := { P := Try.prog, ty := tyTab [], glob := glob0, proc := procTab [], lproc := lprocTab [(0, armplanmake_Same_Skip.p0.lp)], n0 := 0, ntmps := 26 }
theorem armplanmake_Same_Skip.ok : ProcsOk armplanmake_Same_Skip.E := AllSound.ok (l := []) (by kernel_rfl) rfl trivial
noncomputable def armplanmake_Same_Skip.body0 : Code := (match Try.f66.body with | some c => c | none => .skip)
noncomputable def armplanmake_Same_Skip.p0.c : Code := ((codeAt armplanmake_Same_Skip.body0 [.r, .r, .l, .r, .b, .b]).getD .skip)
noncomputable def armplanmake_Same_Skip.p0.ann : Ann := .z
set_option maxRecDepth 100000 in
theorem armplanmake_Same_Skip.p0.eq (x : Tup armplanmake_Same_Skip.p0.inS) : peRound armplanmake_Same_Skip.E armplanmake_Same_Skip.p0.c armplanmake_Same_Skip.p0.ann _ armplanmake_Same_Skip.p0.inS armplanmake_Same_Skip.p0.un armplanmake_Same_Skip.p0.outs x = armplanmake_Same_Skip.p0.step (armplanmake_Same_Skip.p0.un x) := by
  kernel_rfl
set_option maxRecDepth 100000 in
theorem armplanmake_Same_Skip.p0.sound : LProcSound armplanmake_Same_Skip.E (.loop armplanmake_Same_Skip.p0.c) armplanmake_Same_Skip.p0.lp :=
  loop_sound (c := armplanmake_Same_Skip.p0.c) (ann := armplanmake_Same_Skip.p0.ann) armplanmake_Same_Skip.ok ((SubsOk_z _ _) : SubsOk armplanmake_Same_Skip.E armplanmake_Same_Skip.p0.c armplanmake_Same_Skip.p0.ann) (by intro a ha; simp only [armplanmake_Same_Skip.p0.outs, List.mem_cons, List.not_mem_nil, or_false] at ha; rcases ha with rfl | rfl <;> exact fun _ => rfl) armplanmake_Same_Skip.p0.eq
noncomputable def armplanmake_Same_Skip.ann : Ann := .s (.z) (.s (.z) (.s (.s (.z) (.b (.sub 0))) (.z)))
set_option maxRecDepth 100000 in
theorem armplanmake_Same_Skip.eq (x : Tup armplanmake_Same_Skip.p.inS) : peFn armplanmake_Same_Skip.E Try.f66 armplanmake_Same_Skip.ann armplanmake_Same_Skip.p x = armplanmake_Same_Skip.p.F x := by
  have h : peFn armplanmake_Same_Skip.E Try.f66 armplanmake_Same_Skip.ann armplanmake_Same_Skip.p x = armplanmake_Same_Skip.F0 x.1.1 x.1.2.1 := by kernel_rfl
  exact h.trans (by show _ = armplanmake_Same_Skip.F x.1.1 x.1.2.1; rw [armplanmake_Same_Skip.F_eq])
set_option maxRecDepth 100000 in
theorem armplanmake_Same_Skip.sound : ProcSound Try.prog glob0 66 armplanmake_Same_Skip.p :=
  fn_sound (E := armplanmake_Same_Skip.E) (c := armplanmake_Same_Skip.body0) (ann := armplanmake_Same_Skip.ann) armplanmake_Same_Skip.ok Try.func66 (of_decide_eq_true (by kernel_rfl)) rfl rfl rfl (by decide +kernel) (⟨(SubsOk_z _ _), ⟨(SubsOk_z _ _), ⟨⟨(SubsOk_z _ _), (sub_of rfl armplanmake_Same_Skip.p0.sound)⟩, (SubsOk_z _ _)⟩⟩⟩ : SubsOk armplanmake_Same_Skip.E armplanmake_Same_Skip.body0 armplanmake_Same_Skip.ann) (fun _ => rfl) rfl armplanmake_Same_Skip.eq

/-! ### armplan/armplanmake.Same[armplan/api.Vec]: function 67 -/
noncomputable def armplanmake_Same_Vec.p0.round (v0 : List ((Int × (Int × Int)))) (v1 : List ((Int × (Int × Int)))) (v2 : Int) : Option ((List ((Int × (Int × Int))) × List ((Int × (Int × Int))) × Int) ⊕ ((Bool) ⊕ (Unit))) :=
  (bif decide (v2 < (v0.length : Int)) then (bif decide (0 ≤ v2) then (bif decide (v2 < (v0.length : Int)) then (bif decide (0 ≤ v2) then (bif decide (v2 < (v1.length : Int)) then (bif (!(((v0.getD v2.toNat ((0 : Int), ((0 : Int), (0 : Int)))).1 == (v1.getD v2.toNat ((0 : Int), ((0 : Int), (0 : Int)))).1) && ((((v0.getD v2.toNat ((0 : Int), ((0 : Int), (0 : Int)))).2).1 == ((v1.getD v2.toNat ((0 : Int), ((0 : Int), (0 : Int)))).2).1) && ((((v0.getD v2.toNat ((0 : Int), ((0 : Int), (0 : Int)))).2).2 == ((v1.getD v2.toNat ((0 : Int), ((0 : Int), (0 : Int)))).2).2) && true)))) then some (.inr (.inl false)) else some (.inl (v0, v1, (IntKind.wrap .i64 (v2 + (1 : Int)))))) else none) else none) else none) else none) else some (.inr (.inr ())))
noncomputable def armplanmake_Same_Vec.p0.step (s : List ((Int × (Int × Int))) × List ((Int × (Int × Int))) × Int) : Option ((List ((Int × (Int × Int))) × List ((Int × (Int × Int))) × Int) ⊕ ((Bool) ⊕ (Unit))) := armplanmake_Same_Vec.p0.round s.1 s.2.1 s.2.2
noncomputable def armplanmake_Same_Vec.p0.inS : Shape := ⟨[(0, .lf (.dat tyV)), (1, .lf (.dat tyV)), (5, .lf (.sc (.int .i64)))], []⟩
noncomputable def armplanmake_Same_Vec.p0.w0 : Way := { ex := .rt, S := ⟨[(4, .lf (.sc .bool))], []⟩, R := Bool, post := fun r => ((r, ()), ()), un := fun x => x.1.1 }
noncomputable def armplanmake_Same_Vec.p0.w1 : Way := { ex := (.ex 0), S := ⟨[], []⟩, R := Unit, post := fun r => ((), ()), un := fun x => () }
noncomputable def armplanmake_Same_Vec.p0.outs : List Way := [armplanmake_Same_Vec.p0.w0, armplanmake_Same_Vec.p0.w1]
noncomputable def armplanmake_Same_Vec.p0.un (x : Tup armplanmake_Same_Vec.p0.inS) : List ((Int × (Int × Int))) × List ((Int × (Int × Int))) × Int := (x.1.1, x.1.2.1, x.1.2.2.1)
noncomputable def armplanmake_Same_Vec.p0.lp : LProc := { inS := armplanmake_Same_Vec.p0.inS, outs := armplanmake_Same_Vec.p0.outs, F := fun x => loopF armplanmake_Same_Vec.p0.step (armplanmake_Same_Vec.p0.un x) }
noncomputable def armplanmake_Same_Vec.F0 (a0 : List ((Int × (Int × Int)))) (a1 : List ((Int × (Int × Int)))) : Option (Bool) :=
  (bif ((a0.length : Int) != (a1.length : Int)) then some false else ((loopF armplanmake_Same_Vec.p0.step (a0, a1, (0 : Int))).bind fun y1 => (Sum.elim (fun y2 => some y2) (fun z3 => some true) y1)))
noncomputable def armplanmake_Same_Vec.F : (List ((Int × (Int × Int)))) → (List ((Int × (Int × Int)))) → Option (Bool) := lock armplanmake_Same_Vec.F0
theorem armplanmake_Same_Vec.F_eq : armplanmake_Same_Vec.F = armplanmake_Same_Vec.F0 := lock_eq _
noncomputable def armplanmake_Same_Vec.p : Proc := { nargs := 2, inS := ⟨[(0, .lf (.dat tyV)), (1, .lf (.dat tyV))], []⟩, outS := ⟨[(0, .lf (.sc .bool))], []⟩, n0 := 0, R := Bool, F := fun x => armplanmake_Same_Vec.F x.1.1 x.1.2.1, post := fun r => ((r, ()), ()), un := fun x => x.1.1 }
noncomputable def armplanmake_Same_Vec.E : Env := { P := Try.prog, ty := tyTab [], glob := glob0, proc := procTab [], lproc := lprocTab [(0, armplanmake_Same_Vec.p0.lp)], n0 := 0, ntmps := 26 }
theorem armplanmake_Same_Vec.ok : ProcsOk armplanmake_Same_Vec.E := AllSound.ok (l := []) (by kernel_rfl) rfl trivial
noncomputable def armplanmake_Same_Vec.body0 : Code := (match Try.f67.body with | some c => c | none => .skip)
noncomputable def armplanmake_Same_Vec.p0.c : Code := ((codeAt armplanmake_Same_Vec.body0 [.r, .r, .l, .r, .b, .b]).getD .skip)
noncomputable def armplanmake_Same_Vec.p0.ann : Ann := .z
set_option maxRecDepth 100000 in
theorem armplanmake_Same_Vec.p0.eq (x : Tup armplanmake_Same_Vec.p0.inS) : peRound armplanmake_Same_Vec.E armplanmake_Same_Vec.p0.c armplanmake_Same_Vec.p0.ann _ armplanmake_Same_Vec.p0.inS armplanmake_Same_Vec.p0.un armplanmake_Same_Vec.p0.outs x = armplanmake_Same_Vec.p0.step (armplanmake_Same_Vec.p0.un x) := by
  kernel_rfl
set_option maxRecDepth 100000 in
theorem armplanmake_Same_Vec.p0.sound : LProcSound armplanmake_Same_Vec.E (.loop armplanmake_Same_Vec.p0.c) armplanmake_Same_Vec.p0.lp :=
  loop_sound (c := armplanmake_Same_Vec.p0.c) (ann := armplanmake_Same_Vec.p0.ann) armplanmake_Same_Vec.ok ((SubsOk_z _ _) : SubsOk armplanmake_Same_Vec.E armplanmake_Same_Vec.p0.c armplanmake_Same_Vec.p0.ann) (by intro a ha; simp only [armplanmake_Same_Vec.p0.outs, List.mem_cons, List.not_mem_nil, or_false] at ha; rcases ha with rfl | rfl <;> exact fun _ => rfl) armplanmake_Same_Vec.p0.eq
noncomputable def armplanmake_Same_Vec.ann : Ann := .s (.z) (.s (.z) (.s (.s (.z) (.b (.sub 0))) (.z)))
set_option maxRecDepth 100000 in
theorem armplanmake_Same_Vec.eq (x : Tup armplanmake_Same_Vec.p.inS) : peFn armplanmake_Same_Vec.E Try.f67 armplanmake_Same_Vec.ann armplanmake_Same_Vec.p x = armplanmake_Same_Vec.p.F x := by
  have h : peFn armplanmake_Same_Vec.E Try.f67 armplanmake_Same_Vec.ann armplanmake_Same_Vec.p x = armplanmake_Same_Vec.F0 x.1.1 x.1.2.1 := by kernel_rfl
  exact h.trans (by show _ = armplanmake_Same_Vec.F x.1.1 x.1.2.1; rw [armplanmake_Same_Vec.F_eq])
set_option maxRecDepth 100000 in
theorem armplanmake_Same_Vec.sound : ProcSound Try.prog glob0 67 armplanmake_Same_Vec.p :=
  fn_sound (E := armplanmake_Same_Vec.E) (c := armplanmake_Same_Vec.body0) (ann := armplanmake_Same_Vec.ann) armplanmake_Same_Vec.ok Try.func67 (of_decide_eq_true (by kernel_rfl)) rfl rfl rfl (by decide +kernel) (⟨(SubsOk_z _ _), ⟨(SubsOk_z _ _), ⟨⟨(SubsOk_z _ _), (sub_of rfl armplanmake_Same_Vec.p0.sound)⟩, (SubsOk_z _ _)⟩⟩⟩ : SubsOk armplanmake_Same_Vec.E armplanmake_Same_Vec.body0 armplanmake_Same_Vec.ann) (fun _ => rfl) rfl armplanmake_Same_Vec.eq

/-! ### armplan/scene.link: function 69 -/
noncomputable def scene_link.F0 (a0 : List ((ByteArray × (Int × (Int × ((Int × (Int × Int)) × (Int × (Int × (Int × (Int × (Int × Int))))))))))) (a1 : List ((Int × (Int × (Int × (Int × Int)))))) (a2 : Int) : Option (Bool) :=
  (bif decide (a2 ≥ (-1 : Int)) then some (decide (a2 < (a0.length : Int))) else some false)
noncomputable def scene_link.F : (List ((ByteArray × (Int × (Int × ((Int × (Int × Int)) × (Int × (Int × (Int × (Int × (Int × Int))))))))))) → (List ((Int × (Int × (Int × (Int × Int)))))) → Int → Option (Bool) := lock scene_link.F0
theorem scene_link.F_eq : scene_link.F = scene_link.F0 := lock_eq _
noncomputable def scene_link.p : Proc := { nargs := 2, inS := ⟨[(0, .ag [.dat tyJ, .dat tyM]), (1, .lf (.sc (.int .i64)))], []⟩, outS := ⟨[(0, .lf (.sc .bool))], []⟩, n0 := 0, R := Bool, F := fun x => scene_link.F x.1.1.1 x.1.1.2.1 x.1.2.1, post := fun r => ((r, ()), ()), un := fun x => x.1.1 }
noncomputable def scene_link.E : Env := { P := Try.prog, ty := tyTab [], glob := glob0, proc := procTab [], lproc := lprocTab [], n0 := 0, ntmps := 14 }
theorem scene_link.ok : ProcsOk scene_link.E := AllSound.ok (l := []) (by kernel_rfl) rfl trivial
noncomputable def scene_link.body0 : Code := (match Try.f69.body with | some c => c | none => .skip)
noncomputable def scene_link.ann : Ann := .z
set_option maxRecDepth 100000 in
theorem scene_link.eq (x : Tup scene_link.p.inS) : peFn scene_link.E Try.f69 scene_link.ann scene_link.p x = scene_link.p.F x := by
  have h : peFn scene_link.E Try.f69 scene_link.ann scene_link.p x = scene_link.F0 x.1.1.1 x.1.1.2.1 x.1.2.1 := by kernel_rfl
  exact h.trans (by show _ = scene_link.F x.1.1.1 x.1.1.2.1 x.1.2.1; rw [scene_link.F_eq])
set_option maxRecDepth 100000 in
theorem scene_link.sound : ProcSound Try.prog glob0 69 scene_link.p :=
  fn_sound (E := scene_link.E) (c := scene_link.body0) (ann := scene_link.ann) scene_link.ok Try.func69 (of_decide_eq_true (by kernel_rfl)) rfl rfl rfl (by decide +kernel) ((SubsOk_z _ _) : SubsOk scene_link.E scene_link.body0 scene_link.ann) (fun _ => rfl) rfl scene_link.eq

/-! ### armplan/team.plus: function 72 -/
noncomputable def team_plus.p0.round (v0 : Int) (v1 : Int) (v2 : Int) (v3 : Int) (v4 : Int) (v5 : Int) (v6 : Int) (v7 : Int) (v8 : Int) (v9 : Int) : Option ((Int × Int × Int × Int × Int × Int × Int × Int × Int × Int) ⊕ ((Int × Int × Int × Int × Int × Int))) :=
  (bif decide (v0 < (3 : Int)) then (bif (v0 == (0 : Int)) then (bif (v0 == (0 : Int)) then (bif (v0 == (0 : Int)) then some (.inl ((IntKind.wrap .i64 (v0 + (1 : Int))), (IntKind.wrap .i64 (v1 + v4)), v2, v3, v4, v5, v6, v7, v8, v9)) else (bif (v0 == (1 : Int)) then some (.inl ((IntKind.wrap .i64 (v0 + (1 : Int))), v1, (IntKind.wrap .i64 (v1 + v4)), v3, v4, v5, v6, v7, v8, v9)) else (bif (v0 == (2 : Int)) then some (.inl ((IntKind.wrap .i64 (v0 + (1 : Int))), v1, v2, (IntKind.wrap .i64 (v1 + v4)), v4, v5, v6, v7, v8, v9)) else none))) else (bif (v0 == (1 : Int)) then (bif (v0 == (0 : Int)) then some (.inl ((IntKind.wrap .i64 (v0 + (1 : Int))), (IntKind.wrap .i64 (v1 + v5)), v2, v3, v4, v5, v6, v7, v8, v9)) else (bif (v0 == (1 : Int)) then some (.inl ((IntKind.wrap .i64 (v0 + (1 : Int))), v1, (IntKind.wrap .i64 (v1 + v5)), v3, v4, v5, v6, v7, v8, v9)) else (bif (v0 == (2 : Int)) then some (.inl ((IntKind.wrap .i64 (v0 + (1 : Int))), v1, v2, (IntKind.wrap .i64 (v1 + v5)), v4, v5, v6, v7, v8, v9)) else none))) else (bif (v0 == (2 : Int)) then (bif (v0 == (0 : Int)) then some (.inl ((IntKind.wrap .i64 (v0 + (1 : Int))), (IntKind.wrap .i64 (v1 + v6)), v2, v3, v4, v5, v6, v7, v8, v9)) else (bif (v0 == (1 : Int)) then some (.inl ((IntKind.wrap .i64 (v0 + (1 : Int))), v1, (IntKind.wrap .i64 (v1 + v6)), v3, v4, v5, v6, v7, v8, v9)) else (bif (v0 == (2 : Int)) then some (.inl ((IntKind.wrap .i64 (v0 + (1 : Int))), v1, v2, (IntKind.wrap .i64 (v1 + v6)), v4, v5, v6, v7, v8, v9)) else none))) else none))) else (bif (v0 == (1 : Int)) then (bif (v0 == (0 : Int)) then (bif (v0 == (0 : Int)) then some (.inl ((IntKind.wrap .i64 (v0 + (1 : Int))), (IntKind.wrap .i64 (v2 + v4)), v2, v3, v4, v5, v6, v7, v8, v9)) else (bif (v0 == (1 : Int)) then some (.inl ((IntKind.wrap .i64 (v0 + (1 : Int))), v1, (IntKind.wrap .i64 (v2 + v4)), v3, v4, v5, v6, v7, v8, v9)) else (bif (v0 == (2 : Int)) then some (.inl ((IntKind.wrap .i64 (v0 + (1 : Int))), v1, v2, (IntKind.wrap .i64 (v2 + v4)), v4, v5, v6, v7, v8, v9)) else none))) else (bif (v0 == (1 : Int)) then (bif (v0 == (0 : Int)) then some (.inl ((IntKind.wrap .i64 (v0 + (1 : Int))), (IntKind.wrap .i64 (v2 + v5)), v2, v3, v4, v5, v6, v7, v8, v9)) else (bif (v0 == (1 : Int)) then some (.inl ((IntKind.wrap .i64 (v0 + (1 : Int))), v1, (IntKind.wrap .i64 (v2 + v5)), v3, v4, v5, v6, v7, v8, v9)) else (bif (v0 == (2 : Int)) then some (.inl ((IntKind.wrap .i64 (v0 + (1 : Int))), v1, v2, (IntKind.wrap .i64 (v2 + v5)), v4, v5, v6, v7, v8, v9)) else none))) else (bif (v0 == (2 : Int)) then (bif (v0 == (0 : Int)) then some (.inl ((IntKind.wrap .i64 (v0 + (1 : Int))), (IntKind.wrap .i64 (v2 + v6)), v2, v3, v4, v5, v6, v7, v8, v9)) else (bif (v0 == (1 : Int)) then some (.inl ((IntKind.wrap .i64 (v0 + (1 : Int))), v1, (IntKind.wrap .i64 (v2 + v6)), v3, v4, v5, v6, v7, v8, v9)) else (bif (v0 == (2 : Int)) then some (.inl ((IntKind.wrap .i64 (v0 + (1 : Int))), v1, v2, (IntKind.wrap .i64 (v2 + v6)), v4, v5, v6, v7, v8, v9)) else none))) else none))) else (bif (v0 == (2 : Int)) then (bif (v0 == (0 : Int)) then (bif (v0 == (0 : Int)) then some (.inl ((IntKind.wrap .i64 (v0 + (1 : Int))), (IntKind.wrap .i64 (v3 + v4)), v2, v3, v4, v5, v6, v7, v8, v9)) else (bif (v0 == (1 : Int)) then some (.inl ((IntKind.wrap .i64 (v0 + (1 : Int))), v1, (IntKind.wrap .i64 (v3 + v4)), v3, v4, v5, v6, v7, v8, v9)) else (bif (v0 == (2 : Int)) then some (.inl ((IntKind.wrap .i64 (v0 + (1 : Int))), v1, v2, (IntKind.wrap .i64 (v3 + v4)), v4, v5, v6, v7, v8, v9)) else none))) else (bif (v0 == (1 : Int)) then (bif (v0 == (0 : Int)) then some (.inl ((IntKind.wrap .i64 (v0 + (1 : Int))), (IntKind.wrap .i64 (v3 + v5)), v2, v3, v4, v5, v6, v7, v8, v9)) else (bif (v0 == (1 : Int)) then some (.inl ((IntKind.wrap .i64 (v0 + (1 : Int))), v1, (IntKind.wrap .i64 (v3 + v5)), v3, v4, v5, v6, v7, v8, v9)) else (bif (v0 == (2 : Int)) then some (.inl ((IntKind.wrap .i64 (v0 + (1 : Int))), v1, v2, (IntKind.wrap .i64 (v3 + v5)), v4, v5, v6, v7, v8, v9)) else none))) else (bif (v0 == (2 : Int)) then (bif (v0 == (0 : Int)) then some (.inl ((IntKind.wrap .i64 (v0 + (1 : Int))), (IntKind.wrap .i64 (v3 + v6)), v2, v3, v4, v5, v6, v7, v8, v9)) else (bif (v0 == (1 : Int)) then some (.inl ((IntKind.wrap .i64 (v0 + (1 : Int))), v1, (IntKind.wrap .i64 (v3 + v6)), v3, v4, v5, v6, v7, v8, v9)) else (bif (v0 == (2 : Int)) then some (.inl ((IntKind.wrap .i64 (v0 + (1 : Int))), v1, v2, (IntKind.wrap .i64 (v3 + v6)), v4, v5, v6, v7, v8, v9)) else none))) else none))) else none))) else some (.inr (v1, v2, v3, v7, v8, v9)))
noncomputable def team_plus.p0.step (s : Int × Int × Int × Int × Int × Int × Int × Int × Int × Int) : Option ((Int × Int × Int × Int × Int × Int × Int × Int × Int × Int) ⊕ ((Int × Int × Int × Int × Int × Int))) := team_plus.p0.round s.1 s.2.1 s.2.2.1 s.2.2.2.1 s.2.2.2.2.1 s.2.2.2.2.2.1 s.2.2.2.2.2.2.1 s.2.2.2.2.2.2.2.1 s.2.2.2.2.2.2.2.2.1 s.2.2.2.2.2.2.2.2.2
noncomputable def team_plus.p0.inS : Shape := ⟨[(2, .lf (.bp 0 0)), (3, .lf (.bp 1 0)), (4, .lf (.bp 2 0)), (6, .lf (.sc (.int .i64)))], [.box [.sc (.int .i64), .sc (.int .i64), .sc (.int .i64)], .box [.sc (.int .i64), .sc (.int .i64), .sc (.int .i64)], .box [.sc (.int .i64), .sc (.int .i64), .sc (.int .i64)]]⟩
noncomputable def team_plus.p0.w0 : Way := { ex := (.ex 0), S := ⟨[(2, .lf (.bp 0 0)), (4, .lf (.bp 1 0))], [.box [.sc (.int .i64), .sc (.int .i64), .sc (.int .i64)], .box [.sc (.int .i64), .sc (.int .i64), .sc (.int .i64)]]⟩, R := Int × Int × Int × Int × Int × Int, post := fun r => (((), ((), ())), ((r.1, (r.2.1, (r.2.2.1, ()))), ((r.2.2.2.1, (r.2.2.2.2.1, (r.2.2.2.2.2, ()))), ()))), un := fun x => (x.2.1.1, x.2.1.2.1, x.2.1.2.2.1, x.2.2.1.1, x.2.2.1.2.1, x.2.2.1.2.2.1) }
noncomputable def team_plus.p0.outs : List Way := [team_plus.p0.w0]
noncomputable def team_plus.p0.un (x : Tup team_plus.p0.inS) : Int × Int × Int × Int × Int × Int × Int × Int × Int × Int := (x.1.2.2.2.1, x.2.1.1, x.2.1.2.1, x.2.1.2.2.1, x.2.2.1.1, x.2.2.1.2.1, x.2.2.1.2.2.1, x.2.2.2.1.1, x.2.2.2.1.2.1, x.2.2.2.1.2.2.1)
noncomputable def team_plus.p0.lp : LProc := { inS := team_plus.p0.inS, outs := team_plus.p0.outs, F := fun x => loopF team_plus.p0.step (team_plus.p0.un x) }
noncomputable def team_plus.F0 (a0 : Int) (a1 : Int) (a2 : Int) (a3 : Int) (a4 : Int) (a5 : Int) : Option (Int × Int × Int) :=
  ((loopF team_plus.p0.step ((0 : Int), a0, a1, a2, a3, a4, a5, (0 : Int), (0 : Int), (0 : Int))).bind fun y1 => some (y1.1, y1.2.1, y1.2.2.1))
noncomputable def team_plus.F : Int → Int → Int → Int → Int → Int → Option (Int × Int × Int) := lock team_plus.F0
theorem team_plus.F_eq : team_plus.F = team_plus.F0 := lock_eq _
noncomputable def team_plus.p : Proc := { nargs := 2, inS := ⟨[(0, .ag [.sc (.int .i64), .sc (.int .i64), .sc (.int .i64)]), (1, .ag [.sc (.int .i64), .sc (.int .i64), .sc (.int .i64)])], []⟩, outS := ⟨[(0, .ag [.sc (.int .i64), .sc (.int .i64), .sc (.int .i64)])], []⟩, n0 := 0, R := Int × Int × Int, F := fun x => team_plus.F x.1.1.1 x.1.1.2.1 x.1.1.2.2.1 x.1.2.1.1 x.1.2.1.2.1 x.1.2.1.2.2.1, post := fun r => (((r.1, (r.2.1, (r.2.2, ()))), ()), ()), un := fun x => (x.1.1.1, x.1.1.2.1, x.1.1.2.2.1) }
noncomputable def team_plus.E : Env := { P := Try.prog, ty := tyTab [], glob := glob0, proc := procTab [], lproc := lprocTab [(0, team_plus.p0.lp)], n0 := 0, ntmps := 19 }
theorem team_plus.ok : ProcsOk team_plus.E := AllSound.ok (l := []) (by kernel_rfl) rfl trivial
noncomputable def team_plus.body0 : Code := (match Try.f72.body with | some c => c | none => .skip)
noncomputable def team_plus.p0.c : Code := ((codeAt team_plus.body0 [.r, .l, .r, .b, .b]).getD .skip)
noncomputable def team_plus.p0.ann : Ann := .z
set_option maxRecDepth 100000 in
theorem team_plus.p0.eq (x : Tup team_plus.p0.inS) : peRound team_plus.E team_plus.p0.c team_plus.p0.ann _ team_plus.p0.inS team_plus.p0.un team_plus.p0.outs x = team_plus.p0.step (team_plus.p0.un x) := by
  kernel_rfl
set_option maxRecDepth 100000 in
theorem team_plus.p0.sound : LProcSound team_plus.E (.loop team_plus.p0.c) team_plus.p0.lp :=
  loop_sound (c := team_plus.p0.c) (ann := team_plus.p0.ann) team_plus.ok ((SubsOk_z _ _) : SubsOk team_plus.E team_plus.p0.c team_plus.p0.ann) (by intro a ha; simp only [team_plus.p0.outs, List.mem_cons, List.not_mem_nil, or_false] at ha; rcases ha with rfl <;> exact fun _ => rfl) team_plus.p0.eq
noncomputable def team_plus.ann : Ann := .s (.z) (.s (.s (.z) (.b (.sub 0))) (.z))
set_option maxRecDepth 100000 in
theorem team_plus.eq (x : Tup team_plus.p.inS) : peFn team_plus.E Try.f72 team_plus.ann team_plus.p x = team_plus.p.F x := by
  have h : peFn team_plus.E Try.f72 team_plus.ann team_plus.p x = team_plus.F0 x.1.1.1 x.1.1.2.1 x.1.1.2.2.1 x.1.2.1.1 x.1.2.1.2.1 x.1.2.1.2.2.1 := by kernel_rfl
  exact h.trans (by show _ = team_plus.F x.1.1.1 x.1.1.2.1 x.1.1.2.2.1 x.1.2.1.1 x.1.2.1.2.1 x.1.2.1.2.2.1; rw [team_plus.F_eq])
set_option maxRecDepth 100000 in
theorem team_plus.sound : ProcSound Try.prog glob0 72 team_plus.p :=
  fn_sound (E := team_plus.E) (c := team_plus.body0) (ann := team_plus.ann) team_plus.ok Try.func72 (of_decide_eq_true (by kernel_rfl)) rfl rfl rfl (by decide +kernel) (⟨(SubsOk_z _ _), ⟨⟨(SubsOk_z _ _), (sub_of rfl team_plus.p0.sound)⟩, (SubsOk_z _ _)⟩⟩ : SubsOk team_plus.E team_plus.body0 team_plus.ann) (fun _ => rfl) rfl team_plus.eq

/-! ### armplan/team.renumber: function 73 -/
noncomputable def team_renumber.F0 (a0 : Int) (a1 : Int) : Option (Int) :=
  (bif (a0 == (-1 : Int)) then some a0 else some (IntKind.wrap .i64 (a0 + a1)))
noncomputable def team_renumber.F : Int → Int → Option (Int) := lock team_renumber.F0
theorem team_renumber.F_eq : team_renumber.F = team_renumber.F0 := lock_eq _
noncomputable def team_renumber.p : Proc := { nargs := 2, inS := ⟨[(0, .lf (.sc (.int .i64))), (1, .lf (.sc (.int .i64)))], []⟩, outS := ⟨[(0, .lf (.sc (.int .i64)))], []⟩, n0 := 0, R := Int, F := fun x => team_renumber.F x.1.1 x.1.2.1, post := fun r => ((r, ()), ()), un := fun x => x.1.1 }
noncomputable def team_renumber.E : Env := { P := Try.prog, ty := tyTab [], glob := glob0, proc := procTab [], lproc := lprocTab [], n0 := 0, ntmps := 11 }
theorem team_renumber.ok : ProcsOk team_renumber.E := AllSound.ok (l := []) (by kernel_rfl) rfl trivial
noncomputable def team_renumber.body0 : Code := (match Try.f73.body with | some c => c | none => .skip)
noncomputable def team_renumber.ann : Ann := .z
set_option maxRecDepth 100000 in
theorem team_renumber.eq (x : Tup team_renumber.p.inS) : peFn team_renumber.E Try.f73 team_renumber.ann team_renumber.p x = team_renumber.p.F x := by
  have h : peFn team_renumber.E Try.f73 team_renumber.ann team_renumber.p x = team_renumber.F0 x.1.1 x.1.2.1 := by kernel_rfl
  exact h.trans (by show _ = team_renumber.F x.1.1 x.1.2.1; rw [team_renumber.F_eq])
set_option maxRecDepth 100000 in
theorem team_renumber.sound : ProcSound Try.prog glob0 73 team_renumber.p :=
  fn_sound (E := team_renumber.E) (c := team_renumber.body0) (ann := team_renumber.ann) team_renumber.ok Try.func73 (of_decide_eq_true (by kernel_rfl)) rfl rfl rfl (by decide +kernel) ((SubsOk_z _ _) : SubsOk team_renumber.E team_renumber.body0 team_renumber.ann) (fun _ => rfl) rfl team_renumber.eq

/-! ### slices.Clone[[]armplan/api.Vec,armplan/api.Vec]: function 74 -/
noncomputable def slices_Clone_Vec.F0 (a0 : List ((Int × (Int × Int)))) : Option (List ((Int × (Int × Int)))) :=
  (bif decide (0 < a0.length) then (bif decide (([] : List ((Int × (Int × Int)))).length + a0.length < 5864062014805) then some (([] : List ((Int × (Int × Int)))) ++ a0) else none) else none)
noncomputable def slices_Clone_Vec.F : (List ((Int × (Int × Int)))) → Option (List ((Int × (Int × Int)))) := lock slices_Clone_Vec.F0
theorem slices_Clone_Vec.F_eq : slices_Clone_Vec.F = slices_Clone_Vec.F0 := lock_eq _
noncomputable def slices_Clone_Vec.p : Proc := { nargs := 1, inS := ⟨[(0, .lf (.dat tyV))], []⟩, outS := ⟨[(0, .lf (.own 0))], [.row 31 tyV]⟩, n0 := 0, R := List ((Int × (Int × Int))), F := fun x => slices_Clone_Vec.F x.1.1, post := fun r => (((), ()), (r, ())), un := fun x => x.2.1 }
noncomputable def slices_Clone_Vec.E : Env := { P := Try.prog, ty := tyTab [(31, tyV)], glob := glob0, proc := procTab [], lproc := lprocTab [], n0 := 0, ntmps := 8 }
theorem slices_Clone_Vec.ok : ProcsOk slices_Clone_Vec.E := AllSound.ok (l := []) (by kernel_rfl) rfl trivial
noncomputable def slices_Clone_Vec.body0 : Code := (match Try.f74.body with | some c => c | none => .skip)
noncomputable def slices_Clone_Vec.ann : Ann := .z
set_option maxRecDepth 100000 in
theorem slices_Clone_Vec.eq (x : Tup slices_Clone_Vec.p.inS) : peFn slices_Clone_Vec.E Try.f74 slices_Clone_Vec.ann slices_Clone_Vec.p x = slices_Clone_Vec.p.F x := by
  have h : peFn slices_Clone_Vec.E Try.f74 slices_Clone_Vec.ann slices_Clone_Vec.p x = slices_Clone_Vec.F0 x.1.1 := by kernel_rfl
  exact h.trans (by show _ = slices_Clone_Vec.F x.1.1; rw [slices_Clone_Vec.F_eq])
set_option maxRecDepth 100000 in
theorem slices_Clone_Vec.sound : ProcSound Try.prog glob0 74 slices_Clone_Vec.p :=
  fn_sound (E := slices_Clone_Vec.E) (c := slices_Clone_Vec.body0) (ann := slices_Clone_Vec.ann) slices_Clone_Vec.ok Try.func74 (of_decide_eq_true (by kernel_rfl)) rfl rfl rfl (by decide +kernel) ((SubsOk_z _ _) : SubsOk slices_Clone_Vec.E slices_Clone_Vec.body0 slices_Clone_Vec.ann) (fun _ => rfl) rfl slices_Clone_Vec.eq

/-! ### armplan/armplanref6.isLink: function 77 -/
noncomputable def armplanref6_isLink.F0 (a0 : List ((ByteArray × (Int × (Int × ((Int × (Int × Int)) × (Int × (Int × (Int × (Int × (Int × Int))))))))))) (a1 : List ((Int × (Int × (Int × (Int × Int)))))) (a2 : Int) : Option (Bool) :=
  (bif decide (a2 ≥ (-1 : Int)) then some (decide (a2 < (a0.length : Int))) else some false)
noncomputable def armplanref6_isLink.F : (List ((ByteArray × (Int × (Int × ((Int × (Int × Int)) × (Int × (Int × (Int × (Int × (Int × Int))))))))))) → (List ((Int × (Int × (Int × (Int × Int)))))) → Int → Option (Bool) := lock armplanref6_isLink.F0
theorem armplanref6_isLink.F_eq : armplanref6_isLink.F = armplanref6_isLink.F0 := lock_eq _
noncomputable def armplanref6_isLink.p : Proc := { nargs := 2, inS := ⟨[(0, .ag [.dat tyJ, .dat tyM]), (1, .lf (.sc (.int .i64)))], []⟩, outS := ⟨[(0, .lf (.sc .bool))], []⟩, n0 := 0, R := Bool, F := fun x => armplanref6_isLink.F x.1.1.1 x.1.1.2.1 x.1.2.1, post := fun r => ((r, ()), ()), un := fun x => x.1.1 }
noncomputable def armplanref6_isLink.E : Env := { P := Try.prog, ty := tyTab [], glob := glob0, proc := procTab [], lproc := lprocTab [], n0 := 0, ntmps := 14 }
theorem armplanref6_isLink.ok : ProcsOk armplanref6_isLink.E := AllSound.ok (l := []) (by kernel_rfl) rfl trivial
noncomputable def armplanref6_isLink.body0 : Code := (match Try.f77.body with | some c => c | none => .skip)
noncomputable def armplanref6_isLink.ann : Ann := .z
set_option maxRecDepth 100000 in
theorem armplanref6_isLink.eq (x : Tup armplanref6_isLink.p.inS) : peFn armplanref6_isLink.E Try.f77 armplanref6_isLink.ann armplanref6_isLink.p x = armplanref6_isLink.p.F x := by
  have h : peFn armplanref6_isLink.E Try.f77 armplanref6_isLink.ann armplanref6_isLink.p x = armplanref6_isLink.F0 x.1.1.1 x.1.1.2.1 x.1.2.1 := by kernel_rfl
  exact h.trans (by show _ = armplanref6_isLink.F x.1.1.1 x.1.1.2.1 x.1.2.1; rw [armplanref6_isLink.F_eq])
set_option maxRecDepth 100000 in
theorem armplanref6_isLink.sound : ProcSound Try.prog glob0 77 armplanref6_isLink.p :=
  fn_sound (E := armplanref6_isLink.E) (c := armplanref6_isLink.body0) (ann := armplanref6_isLink.ann) armplanref6_isLink.ok Try.func77 (of_decide_eq_true (by kernel_rfl)) rfl rfl rfl (by decide +kernel) ((SubsOk_z _ _) : SubsOk armplanref6_isLink.E armplanref6_isLink.body0 armplanref6_isLink.ann) (fun _ => rfl) rfl armplanref6_isLink.eq

/-! ### armplan/armplanref6.between: function 78 -/
noncomputable def armplanref6_between.F0 (a0 : Int) (a1 : Int) (a2 : Int) : Option (Bool) :=
  (bif decide (a1 ≤ a0) then some (decide (a0 ≤ a2)) else some false)
noncomputable def armplanref6_between.F : Int → Int → Int → Option (Bool) := lock armplanref6_between.F0
theorem armplanref6_between.F_eq : armplanref6_between.F = armplanref6_between.F0 := lock_eq _
noncomputable def armplanref6_between.p : Proc := { nargs := 3, inS := ⟨[(0, .lf (.sc (.int .i64))), (1, .lf (.sc (.int .i64))), (2, .lf (.sc (.int .i64)))], []⟩, outS := ⟨[(0, .lf (.sc .bool))], []⟩, n0 := 0, R := Bool, F := fun x => armplanref6_between.F x.1.1 x.1.2.1 x.1.2.2.1, post := fun r => ((r, ()), ()), un := fun x => x.1.1 }
noncomputable def armplanref6_between.E : Env := { P := Try.prog, ty := tyTab [], glob := glob0, proc := procTab [], lproc := lprocTab [], n0 := 0, ntmps := 15 }
theorem armplanref6_between.ok : ProcsOk armplanref6_between.E := AllSound.ok (l := []) (by kernel_rfl) rfl trivial
noncomputable def armplanref6_between.body0 : Code := (match Try.f78.body with | some c => c | none => .skip)
noncomputable def armplanref6_between.ann : Ann := .z
set_option maxRecDepth 100000 in
theorem armplanref6_between.eq (x : Tup armplanref6_between.p.inS) : peFn armplanref6_between.E Try.f78 armplanref6_between.ann armplanref6_between.p x = armplanref6_between.p.F x := by
  have h : peFn armplanref6_between.E Try.f78 armplanref6_between.ann armplanref6_between.p x = armplanref6_between.F0 x.1.1 x.1.2.1 x.1.2.2.1 := by kernel_rfl
  exact h.trans (by show _ = armplanref6_between.F x.1.1 x.1.2.1 x.1.2.2.1; rw [armplanref6_between.F_eq])
set_option maxRecDepth 100000 in
theorem armplanref6_between.sound : ProcSound Try.prog glob0 78 armplanref6_between.p :=
  fn_sound (E := armplanref6_between.E) (c := armplanref6_between.body0) (ann := armplanref6_between.ann) armplanref6_between.ok Try.func78 (of_decide_eq_true (by kernel_rfl)) rfl rfl rfl (by decide +kernel) ((SubsOk_z _ _) : SubsOk armplanref6_between.E armplanref6_between.body0 armplanref6_between.ann) (fun _ => rfl) rfl armplanref6_between.eq

/-! ### armplan/armplanref6.Near: function 79 -/
noncomputable def armplanref6_Near.p0.round (v0 : Int) (v1 : Int) (v2 : Int) (v3 : Int) (v4 : Int) : Option ((Int × Int × Int × Int × Int) ⊕ ((Bool) ⊕ (Unit))) :=
  (bif decide (v1 < (3 : Int)) then (bif (v1 == (0 : Int)) then (bif decide (v2 < (IntKind.wrap .i64 (0 - v0))) then some (.inr (.inl false)) else (bif (v1 == (0 : Int)) then (bif decide (v2 > v0) then some (.inr (.inl false)) else some (.inl (v0, (IntKind.wrap .i64 (v1 + (1 : Int))), v2, v3, v4))) else (bif (v1 == (1 : Int)) then (bif decide (v3 > v0) then some (.inr (.inl false)) else some (.inl (v0, (IntKind.wrap .i64 (v1 + (1 : Int))), v2, v3, v4))) else (bif (v1 == (2 : Int)) then (bif decide (v4 > v0) then some (.inr (.inl false)) else some (.inl (v0, (IntKind.wrap .i64 (v1 + (1 : Int))), v2, v3, v4))) else none)))) else (bif (v1 == (1 : Int)) then (bif decide (v3 < (IntKind.wrap .i64 (0 - v0))) then some (.inr (.inl false)) else (bif (v1 == (0 : Int)) then (bif decide (v2 > v0) then some (.inr (.inl false)) else some (.inl (v0, (IntKind.wrap .i64 (v1 + (1 : Int))), v2, v3, v4))) else (bif (v1 == (1 : Int)) then (bif decide (v3 > v0) then some (.inr (.inl false)) else some (.inl (v0, (IntKind.wrap .i64 (v1 + (1 : Int))), v2, v3, v4))) else (bif (v1 == (2 : Int)) then (bif decide (v4 > v0) then some (.inr (.inl false)) else some (.inl (v0, (IntKind.wrap .i64 (v1 + (1 : Int))), v2, v3, v4))) else none)))) else (bif (v1 == (2 : Int)) then (bif decide (v4 < (IntKind.wrap .i64 (0 - v0))) then some (.inr (.inl false)) else (bif (v1 == (0 : Int)) then (bif decide (v2 > v0) then some (.inr (.inl false)) else some (.inl (v0, (IntKind.wrap .i64 (v1 + (1 : Int))), v2, v3, v4))) else (bif (v1 == (1 : Int)) then (bif decide (v3 > v0) then some (.inr (.inl false)) else some (.inl (v0, (IntKind.wrap .i64 (v1 + (1 : Int))), v2, v3, v4))) else (bif (v1 == (2 : Int)) then (bif decide (v4 > v0) then some (.inr (.inl false)) else some (.inl (v0, (IntKind.wrap .i64 (v1 + (1 : Int))), v2, v3, v4))) else none)))) else none))) else some (.inr (.inr ())))
noncomputable def armplanref6_Near.p0.step (s : Int × Int × Int × Int × Int) : Option ((Int × Int × Int × Int × Int) ⊕ ((Bool) ⊕ (Unit))) := armplanref6_Near.p0.round s.1 s.2.1 s.2.2.1 s.2.2.2.1 s.2.2.2.2
noncomputable def armplanref6_Near.p0.inS : Shape := ⟨[(1, .lf (.sc (.int .i64))), (2, .lf (.bp 0 0)), (5, .lf (.sc (.int .i64)))], [.box [.sc (.int .i64), .sc (.int .i64), .sc (.int .i64)]]⟩
noncomputable def armplanref6_Near.p0.w0 : Way := { ex := .rt, S := ⟨[(4, .lf (.sc .bool))], []⟩, R := Bool, post := fun r => ((r, ()), ()), un := fun x => x.1.1 }
noncomputable def armplanref6_Near.p0.w1 : Way := { ex := (.ex 0), S := ⟨[], []⟩, R := Unit, post := fun r => ((), ()), un := fun x => () }
noncomputable def armplanref6_Near.p0.outs : List Way := [armplanref6_Near.p0.w0, armplanref6_Near.p0.w1]
noncomputable def armplanref6_Near.p0.un (x : Tup armplanref6_Near.p0.inS) : Int × Int × Int × Int × Int := (x.1.1, x.1.2.2.1, x.2.1.1, x.2.1.2.1, x.2.1.2.2.1)
noncomputable def armplanref6_Near.p0.lp : LProc := { inS := armplanref6_Near.p0.inS, outs := armplanref6_Near.p0.outs, F := fun x => loopF armplanref6_Near.p0.step (armplanref6_Near.p0.un x) }
noncomputable def armplanref6_Near.F0 (a0 : Int) (a1 : Int) (a2 : Int) (a3 : Int) : Option (Bool) :=
  ((loopF armplanref6_Near.p0.step (a3, (0 : Int), a0, a1, a2)).bind fun y1 => (Sum.elim (fun y2 => some y2) (fun z3 => some true) y1))
noncomputable def armplanref6_Near.F : Int → Int → Int → Int → Option (Bool) := lock armplanref6_Near.F0
theorem armplanref6_Near.F_eq : armplanref6_Near.F = armplanref6_Near.F0 := lock_eq _
noncomputable def armplanref6_Near.p : Proc := { nargs := 2, inS := ⟨[(0, .ag [.sc (.int .i64), .sc (.int .i64), .sc (.int .i64)]), (1, .lf (.sc (.int .i64)))], []⟩, outS := ⟨[(0, .lf (.sc .bool))], []⟩, n0 := 0, R := Bool, F := fun x => armplanref6_Near.F x.1.1.1 x.1.1.2.1 x.1.1.2.2.1 x.1.2.1, post := fun r => ((r, ()), ()), un := fun x => x.1.1 }
noncomputable def armplanref6_Near.E : Env := { P := Try.prog, ty := tyTab [], glob := glob0, proc := procTab [], lproc := lprocTab [(0, armplanref6_Near.p0.lp)], n0 := 0, ntmps := 23 }
theorem armplanref6_Near.ok : ProcsOk armplanref6_Near.E := AllSound.ok (l := []) (by kernel_rfl) rfl trivial
noncomputable def armplanref6_Near.body0 : Code := (match Try.f79.body with | some c => c | none => .skip)
noncomputable def armplanref6_Near.p0.c : Code := ((codeAt armplanref6_Near.body0 [.r, .l, .r, .b, .b]).getD .skip)
noncomputable def armplanref6_Near.p0.ann : Ann := .z
set_option maxRecDepth 100000 in
theorem armplanref6_Near.p0.eq (x : Tup armplanref6_Near.p0.inS) : peRound armplanref6_Near.E armplanref6_Near.p0.c armplanref6_Near.p0.ann _ armplanref6_Near.p0.inS armplanref6_Near.p0.un armplanref6_Near.p0.outs x = armplanref6_Near.p0.step (armplanref6_Near.p0.un x) := by
  kernel_rfl
set_option maxRecDepth 100000 in
theorem armplanref6_Near.p0.sound : LProcSound armplanref6_Near.E (.loop armplanref6_Near.p0.c) armplanref6_Near.p0.lp :=
  loop_sound (c := armplanref6_Near.p0.c) (ann := armplanref6_Near.p0.ann) armplanref6_Near.ok ((SubsOk_z _ _) : SubsOk armplanref6_Near.E armplanref6_Near.p0.c armplanref6_Near.p0.ann) (by intro a ha; simp only [armplanref6_Near.p0.outs, List.mem_cons, List.not_mem_nil, or_false] at ha; rcases ha with rfl | rfl <;> exact fun _ => rfl) armplanref6_Near.p0.eq
noncomputable def armplanref6_Near.ann : Ann := .s (.z) (.s (.s (.z) (.b (.sub 0))) (.z))
set_option maxRecDepth 100000 in
theorem armplanref6_Near.eq (x : Tup armplanref6_Near.p.inS) : peFn armplanref6_Near.E Try.f79 armplanref6_Near.ann armplanref6_Near.p x = armplanref6_Near.p.F x := by
  have h : peFn armplanref6_Near.E Try.f79 armplanref6_Near.ann armplanref6_Near.p x = armplanref6_Near.F0 x.1.1.1 x.1.1.2.1 x.1.1.2.2.1 x.1.2.1 := by kernel_rfl
  exact h.trans (by show _ = armplanref6_Near.F x.1.1.1 x.1.1.2.1 x.1.1.2.2.1 x.1.2.1; rw [armplanref6_Near.F_eq])
set_option maxRecDepth 100000 in
theorem armplanref6_Near.sound : ProcSound Try.prog glob0 79 armplanref6_Near.p :=
  fn_sound (E := armplanref6_Near.E) (c := armplanref6_Near.body0) (ann := armplanref6_Near.ann) armplanref6_Near.ok Try.func79 (of_decide_eq_true (by kernel_rfl)) rfl rfl rfl (by decide +kernel) (⟨(SubsOk_z _ _), ⟨⟨(SubsOk_z _ _), (sub_of rfl armplanref6_Near.p0.sound)⟩, (SubsOk_z _ _)⟩⟩ : SubsOk armplanref6_Near.E armplanref6_Near.body0 armplanref6_Near.ann) (fun _ => rfl) rfl armplanref6_Near.eq

/-! ### slices.Clone[[]int64,int64]: function 87 -/
noncomputable def slices_Clone_int64.F0 (a0 : List (Int)) : Option (List (Int)) :=
  (bif decide (0 < a0.length) then (bif decide (([] : List (Int)).length + a0.length < 17592186044416) then some (([] : List (Int)) ++ a0) else none) else none)
noncomputable def slices_Clone_int64.F : (List (Int)) → Option (List (Int)) := lock slices_Clone_int64.F0
theorem slices_Clone_int64.F_eq : slices_Clone_int64.F = slices_Clone_int64.F0 := lock_eq _
noncomputable def slices_Clone_int64.p : Proc := { nargs := 1, inS := ⟨[(0, .lf (.dat (.int .i64)))], []⟩, outS := ⟨[(0, .lf (.own 0))], [.row 2 (.int .i64)]⟩, n0 := 0, R := List (Int), F := fun x => slices_Clone_int64.F x.1.1, post := fun r => (((), ()), (r, ())), un := fun x => x.2.1 }
noncomputable def slices_Clone_int64.E : Env := { P := Try.prog, ty := tyTab [(2, (.int .i64))], glob := glob0, proc := procTab [], lproc := lprocTab [], n0 := 0, ntmps := 8 }
theorem slices_Clone_int64.ok : ProcsOk slices_Clone_int64.E := AllSound.ok (l := []) (by kernel_rfl) rfl trivial
noncomputable def slices_Clone_int64.body0 : Code := (match Try.f87.body with | some c => c | none => .skip)
noncomputable def slices_Clone_int64.ann : Ann := .z
set_option maxRecDepth 100000 in
theorem slices_Clone_int64.eq (x : Tup slices_Clone_int64.p.inS) : peFn slices_Clone_int64.E Try.f87 slices_Clone_int64.ann slices_Clone_int64.p x = slices_Clone_int64.p.F x := by
  have h : peFn slices_Clone_int64.E Try.f87 slices_Clone_int64.ann slices_Clone_int64.p x = slices_Clone_int64.F0 x.1.1 := by kernel_rfl
  exact h.trans (by show _ = slices_Clone_int64.F x.1.1; rw [slices_Clone_int64.F_eq])
set_option maxRecDepth 100000 in
theorem slices_Clone_int64.sound : ProcSound Try.prog glob0 87 slices_Clone_int64.p :=
  fn_sound (E := slices_Clone_int64.E) (c := slices_Clone_int64.body0) (ann := slices_Clone_int64.ann) slices_Clone_int64.ok Try.func87 (of_decide_eq_true (by kernel_rfl)) rfl rfl rfl (by decide +kernel) ((SubsOk_z _ _) : SubsOk slices_Clone_int64.E slices_Clone_int64.body0 slices_Clone_int64.ann) (fun _ => rfl) rfl slices_Clone_int64.eq

/-! ### armplan/scene.Skipped$1: function 111 -/
noncomputable def scene_Skipped_1.F0 (a0 : Int) (a1 : Int) (a2 : Int) (a3 : Int) : Option (Bool × Int × Int) :=
  (bif ((a0 == a2) && ((a1 == a3) && true)) then some (true, a2, a3) else some (((a0 == a3) && ((a1 == a2) && true)), a2, a3))
noncomputable def scene_Skipped_1.F : Int → Int → Int → Int → Option (Bool × Int × Int) := lock scene_Skipped_1.F0
theorem scene_Skipped_1.F_eq : scene_Skipped_1.F = scene_Skipped_1.F0 := lock_eq _
noncomputable def scene_Skipped_1.p : Proc := { nargs := 3, inS := ⟨[(0, .ag [.sc (.int .i64), .sc (.int .i64)]), (1, .lf (.bp 0 0)), (2, .lf (.bp 1 0))], [.box [.sc (.int .i64)], .box [.sc (.int .i64)]]⟩, outS := ⟨[(0, .lf (.sc .bool))], [.box [.sc (.int .i64)], .box [.sc (.int .i64)]]⟩, n0 := 2, R := Bool × Int × Int, F := fun x => scene_Skipped_1.F x.1.1.1 x.1.1.2.1 x.2.1.1 x.2.2.1.1, post := fun r => ((r.1, ()), ((r.2.1, ()), ((r.2.2, ()), ()))), un := fun x => (x.1.1, x.2.1.1, x.2.2.1.1) }
noncomputable def scene_Skipped_1.E : Env := { P := Try.prog, ty := tyTab [], glob := glob0, proc := procTab [], lproc := lprocTab [], n0 := 2, ntmps := 17 }
theorem scene_Skipped_1.ok : ProcsOk scene_Skipped_1.E := AllSound.ok (l := []) (by kernel_rfl) rfl trivial
noncomputable def scene_Skipped_1.body0 : Code := (match Try.f111.body with | some c => c | none => .skip)
noncomputable def scene_Skipped_1.ann : Ann := .z
set_option maxRecDepth 100000 in
theorem scene_Skipped_1.eq (x : Tup scene_Skipped_1.p.inS) : peFn scene_Skipped_1.E Try.f111 scene_Skipped_1.ann scene_Skipped_1.p x = scene_Skipped_1.p.F x := by
  have h : peFn scene_Skipped_1.E Try.f111 scene_Skipped_1.ann scene_Skipped_1.p x = scene_Skipped_1.F0 x.1.1.1 x.1.1.2.1 x.2.1.1 x.2.2.1.1 := by kernel_rfl
  exact h.trans (by show _ = scene_Skipped_1.F x.1.1.1 x.1.1.2.1 x.2.1.1 x.2.2.1.1; rw [scene_Skipped_1.F_eq])
set_option maxRecDepth 100000 in
theorem scene_Skipped_1.sound : ProcSound Try.prog glob0 111 scene_Skipped_1.p :=
  fn_sound (E := scene_Skipped_1.E) (c := scene_Skipped_1.body0) (ann := scene_Skipped_1.ann) scene_Skipped_1.ok Try.func111 (of_decide_eq_true (by kernel_rfl)) rfl rfl rfl (by decide +kernel) ((SubsOk_z _ _) : SubsOk scene_Skipped_1.E scene_Skipped_1.body0 scene_Skipped_1.ann) (fun _ => rfl) rfl scene_Skipped_1.eq

/-! ### slices.IndexFunc[[]armplan/api.Skip,armplan/api.Skip]: function 128 -/
noncomputable def slices_IndexFunc_Skip__scene_Skipped_1.p0.round (v0 : List ((Int × Int))) (v1 : Int) (v2 : Int) (v3 : Int) (v4 : Int) : Option ((List ((Int × Int)) × Int × Int × Int × Int) ⊕ ((Int × Int × Int) ⊕ (Int × Int))) :=
  (bif decide (v2 < v1) then (bif decide (0 ≤ v2) then (bif decide (v2 < (v0.length : Int)) then ((scene_Skipped_1.F (v0.getD v2.toNat ((0 : Int), (0 : Int))).1 (v0.getD v2.toNat ((0 : Int), (0 : Int))).2 v3 v4).bind fun r2 => (bif r2.1 then some (.inr (.inl (v2, r2.2.1, r2.2.2))) else some (.inl (v0, v1, (IntKind.wrap .i64 (v2 + (1 : Int))), r2.2.1, r2.2.2)))) else none) else none) else some (.inr (.inr (v3, v4))))
noncomputable def slices_IndexFunc_Skip__scene_Skipped_1.p0.step (s : List ((Int × Int)) × Int × Int × Int × Int) : Option ((List ((Int × Int)) × Int × Int × Int × Int) ⊕ ((Int × Int × Int) ⊕ (Int × Int))) := slices_IndexFunc_Skip__scene_Skipped_1.p0.round s.1 s.2.1 s.2.2.1 s.2.2.2.1 s.2.2.2.2
noncomputable def slices_IndexFunc_Skip__scene_Skipped_1.p0.inS : Shape := ⟨[(0, .lf (.dat tyK)), (1, .lf (.fn 111 [0, 1])), (7, .lf (.sc (.int .i64))), (8, .lf (.sc (.int .i64)))], [.box [.sc (.int .i64)], .box [.sc (.int .i64)]]⟩
noncomputable def slices_IndexFunc_Skip__scene_Skipped_1.p0.w0 : Way := { ex := .rt, S := ⟨[(4, .lf (.sc (.int .i64)))], [.box [.sc (.int .i64)], .box [.sc (.int .i64)]]⟩, R := Int × Int × Int, post := fun r => ((r.1, ()), ((r.2.1, ()), ((r.2.2, ()), ()))), un := fun x => (x.1.1, x.2.1.1, x.2.2.1.1) }
noncomputable def slices_IndexFunc_Skip__scene_Skipped_1.p0.w1 : Way := { ex := (.ex 0), S := ⟨[], [.box [.sc (.int .i64)], .box [.sc (.int .i64)]]⟩, R := Int × Int, post := fun r => ((), ((r.1, ()), ((r.2, ()), ()))), un := fun x => (x.2.1.1, x.2.2.1.1) }
noncomputable def slices_IndexFunc_Skip__scene_Skipped_1.p0.outs : List Way := [slices_IndexFunc_Skip__scene_Skipped_1.p0.w0, slices_IndexFunc_Skip__scene_Skipped_1.p0.w1]
noncomputable def slices_IndexFunc_Skip__scene_Skipped_1.p0.un (x : Tup slices_IndexFunc_Skip__scene_Skipped_1.p0.inS) : List ((Int × Int)) × Int × Int × Int × Int := (x.1.1, x.1.2.2.1, x.1.2.2.2.1, x.2.1.1, x.2.2.1.1)
noncomputable def slices_IndexFunc_Skip__scene_Skipped_1.p0.lp : LProc := { inS := slices_IndexFunc_Skip__scene_Skipped_1.p0.inS, outs := slices_IndexFunc_Skip__scene_Skipped_1.p0.outs, F := fun x => loopF slices_IndexFunc_Skip__scene_Skipped_1.p0.step (slices_IndexFunc_Skip__scene_Skipped_1.p0.un x) }
noncomputable def slices_IndexFunc_Skip__scene_Skipped_1.F0 (a0 : List ((Int × Int))) (a1 : Int) (a2 : Int) : Option (Int × Int × Int) :=
  ((loopF slices_IndexFunc_Skip__scene_Skipped_1.p0.step (a0, (a0.length : Int), (0 : Int), a1, a2)).bind fun y3 => (Sum.elim (fun y4 => some (y4.1, y4.2.1, y4.2.2)) (fun z5 => some ((-1 : Int), z5.1, z5.2)) y3))
noncomputable def slices_IndexFunc_Skip__scene_Skipped_1.F : (List ((Int × Int))) → Int → Int → Option (Int × Int × Int) := lock slices_IndexFunc_Skip__scene_Skipped_1.F0
theorem slices_IndexFunc_Skip__scene_Skipped_1.F_eq : slices_IndexFunc_Skip__scene_Skipped_1.F = slices_IndexFunc_Skip__scene_Skipped_1.F0 := lock_eq _
noncomputable def slices_IndexFunc_Skip__scene_Skipped_1.p : Proc := { nargs := 2, inS := ⟨[(0, .lf (.dat tyK)), (1, .lf (.fn 111 [0, 1]))], [.box [.sc (.int .i64)], .box [.sc (.int .i64)]]⟩, outS := ⟨[(0, .lf (.sc (.int .i64)))], [.box [.sc (.int .i64)], .box [.sc (.int .i64)]]⟩, n0 := 2, R := Int × Int × Int, F := fun x => slices_IndexFunc_Skip__scene_Skipped_1.F x.1.1 x.2.1.1 x.2.2.1.1, post := fun r => ((r.1, ()), ((r.2.1, ()), ((r.2.2, ()), ()))), un := fun x => (x.1.1, x.2.1.1, x.2.2.1.1) }
noncomputable def slices_IndexFunc_Skip__scene_Skipped_1.E : Env := { P := Try.prog, ty := tyTab [], glob := glob0, proc := procTab [(111, scene_Skipped_1.p)], lproc := lprocTab [(0, slices_IndexFunc_Skip__scene_Skipped_1.p0.lp)], n0 := 2, ntmps := 19 }
theorem slices_IndexFunc_Skip__scene_Skipped_1.ok : ProcsOk slices_IndexFunc_Skip__scene_Skipped_1.E := AllSound.ok (l := [(111, scene_Skipped_1.p)]) (by kernel_rfl) rfl ⟨scene_Skipped_1.sound, trivial⟩
noncomputable def slices_IndexFunc_Skip__scene_Skipped_1.body0 : Code := (match Try.f128.body with | some c => c | none => .skip)
noncomputable def slices_IndexFunc_Skip__scene_Skipped_1.p0.c : Code := ((codeAt slices_IndexFunc_Skip__scene_Skipped_1.body0 [.r, .l, .r, .b, .b]).getD .skip)
noncomputable def slices_IndexFunc_Skip__scene_Skipped_1.p0.ann : Ann := .z
set_option maxRecDepth 100000 in
theorem slices_IndexFunc_Skip__scene_Skipped_1.p0.eq (x : Tup slices_IndexFunc_Skip__scene_Skipped_1.p0.inS) : peRound slices_IndexFunc_Skip__scene_Skipped_1.E slices_IndexFunc_Skip__scene_Skipped_1.p0.c slices_IndexFunc_Skip__scene_Skipped_1.p0.ann _ slices_IndexFunc_Skip__scene_Skipped_1.p0.inS slices_IndexFunc_Skip__scene_Skipped_1.p0.un slices_IndexFunc_Skip__scene_Skipped_1.p0.outs x = slices_IndexFunc_Skip__scene_Skipped_1.p0.step (slices_IndexFunc_Skip__scene_Skipped_1.p0.un x) := by
  kernel_rfl
set_option maxRecDepth 100000 in
theorem slices_IndexFunc_Skip__scene_Skipped_1.p0.sound : LProcSound slices_IndexFunc_Skip__scene_Skipped_1.E (.loop slices_IndexFunc_Skip__scene_Skipped_1.p0.c) slices_IndexFunc_Skip__scene_Skipped_1.p0.lp :=
  loop_sound (c := slices_IndexFunc_Skip__scene_Skipped_1.p0.c) (ann := slices_IndexFunc_Skip__scene_Skipped_1.p0.ann) slices_IndexFunc_Skip__scene_Skipped_1.ok ((SubsOk_z _ _) : SubsOk slices_IndexFunc_Skip__scene_Skipped_1.E slices_IndexFunc_Skip__scene_Skipped_1.p0.c slices_IndexFunc_Skip__scene_Skipped_1.p0.ann) (by intro a ha; simp only [slices_IndexFunc_Skip__scene_Skipped_1.p0.outs, List.mem_cons, List.not_mem_nil, or_false] at ha; rcases ha with rfl | rfl <;> exact fun _ => rfl) slices_IndexFunc_Skip__scene_Skipped_1.p0.eq
noncomputable def slices_IndexFunc_Skip__scene_Skipped_1.ann : Ann := .s (.z) (.s (.s (.z) (.b (.sub 0))) (.z))
set_option maxRecDepth 100000 in
theorem slices_IndexFunc_Skip__scene_Skipped_1.eq (x : Tup slices_IndexFunc_Skip__scene_Skipped_1.p.inS) : peFn slices_IndexFunc_Skip__scene_Skipped_1.E Try.f128 slices_IndexFunc_Skip__scene_Skipped_1.ann slices_IndexFunc_Skip__scene_Skipped_1.p x = slices_IndexFunc_Skip__scene_Skipped_1.p.F x := by
  have h : peFn slices_IndexFunc_Skip__scene_Skipped_1.E Try.f128 slices_IndexFunc_Skip__scene_Skipped_1.ann slices_IndexFunc_Skip__scene_Skipped_1.p x = slices_IndexFunc_Skip__scene_Skipped_1.F0 x.1.1 x.2.1.1 x.2.2.1.1 := by kernel_rfl
  exact h.trans (by show _ = slices_IndexFunc_Skip__scene_Skipped_1.F x.1.1 x.2.1.1 x.2.2.1.1; rw [slices_IndexFunc_Skip__scene_Skipped_1.F_eq])
set_option maxRecDepth 100000 in
theorem slices_IndexFunc_Skip__scene_Skipped_1.sound : ProcSound Try.prog glob0 128 slices_IndexFunc_Skip__scene_Skipped_1.p :=
  fn_sound (E := slices_IndexFunc_Skip__scene_Skipped_1.E) (c := slices_IndexFunc_Skip__scene_Skipped_1.body0) (ann := slices_IndexFunc_Skip__scene_Skipped_1.ann) slices_IndexFunc_Skip__scene_Skipped_1.ok Try.func128 (of_decide_eq_true (by kernel_rfl)) rfl rfl rfl (by decide +kernel) (⟨(SubsOk_z _ _), ⟨⟨(SubsOk_z _ _), (sub_of rfl slices_IndexFunc_Skip__scene_Skipped_1.p0.sound)⟩, (SubsOk_z _ _)⟩⟩ : SubsOk slices_IndexFunc_Skip__scene_Skipped_1.E slices_IndexFunc_Skip__scene_Skipped_1.body0 slices_IndexFunc_Skip__scene_Skipped_1.ann) (fun _ => rfl) rfl slices_IndexFunc_Skip__scene_Skipped_1.eq

/-! ### slices.ContainsFunc[[]armplan/api.Skip,armplan/api.Skip]: function 110 -/
noncomputable def slices_ContainsFunc_Skip__scene_Skipped_1.F0 (a0 : List ((Int × Int))) (a1 : Int) (a2 : Int) : Option (Bool × Int × Int) :=
  ((slices_IndexFunc_Skip__scene_Skipped_1.F a0 a1 a2).bind fun r1 => some (decide (r1.1 ≥ (0 : Int)), r1.2.1, r1.2.2))
noncomputable def slices_ContainsFunc_Skip__scene_Skipped_1.F : (List ((Int × Int))) → Int → Int → Option (Bool × Int × Int) := lock slices_ContainsFunc_Skip__scene_Skipped_1.F0
theorem slices_ContainsFunc_Skip__scene_Skipped_1.F_eq : slices_ContainsFunc_Skip__scene_Skipped_1.F = slices_ContainsFunc_Skip__scene_Skipped_1.F0 := lock_eq _
noncomputable def slices_ContainsFunc_Skip__scene_Skipped_1.p : Proc := { nargs := 2, inS := ⟨[(0, .lf (.dat tyK)), (1, .lf (.fn 111 [0, 1]))], [.box [.sc (.int .i64)], .box [.sc (.int .i64)]]⟩, outS := ⟨[(0, .lf (.sc .bool))], [.box [.sc (.int .i64)], .box [.sc (.int .i64)]]⟩, n0 := 2, R := Bool × Int × Int, F := fun x => slices_ContainsFunc_Skip__scene_Skipped_1.F x.1.1 x.2.1.1 x.2.2.1.1, post := fun r => ((r.1, ()), ((r.2.1, ()), ((r.2.2, ()), ()))), un := fun x => (x.1.1, x.2.1.1, x.2.2.1.1) }
noncomputable def slices_ContainsFunc_Skip__scene_Skipped_1.E : Env := { P := Try.prog, ty := tyTab [(112, tyK)], glob := glob0, proc := procTab [(128, slices_IndexFunc_Skip__scene_Skipped_1.p)], lproc := lprocTab [], n0 := 2, ntmps := 9 }
theorem slices_ContainsFunc_Skip__scene_Skipped_1.ok : ProcsOk slices_ContainsFunc_Skip__scene_Skipped_1.E := AllSound.ok (l := [(128, slices_IndexFunc_Skip__scene_Skipped_1.p)]) (by kernel_rfl) rfl ⟨slices_IndexFunc_Skip__scene_Skipped_1.sound, trivial⟩
noncomputable def slices_ContainsFunc_Skip__scene_Skipped_1.body0 : Code := (match Try.f110.body with | some c => c | none => .skip)
noncomputable def slices_ContainsFunc_Skip__scene_Skipped_1.ann : Ann := .z
set_option maxRecDepth 100000 in
theorem slices_ContainsFunc_Skip__scene_Skipped_1.eq (x : Tup slices_ContainsFunc_Skip__scene_Skipped_1.p.inS) : peFn slices_ContainsFunc_Skip__scene_Skipped_1.E Try.f110 slices_ContainsFunc_Skip__scene_Skipped_1.ann slices_ContainsFunc_Skip__scene_Skipped_1.p x = slices_ContainsFunc_Skip__scene_Skipped_1.p.F x := by
  have h : peFn slices_ContainsFunc_Skip__scene_Skipped_1.E Try.f110 slices_ContainsFunc_Skip__scene_Skipped_1.ann slices_ContainsFunc_Skip__scene_Skipped_1.p x = slices_ContainsFunc_Skip__scene_Skipped_1.F0 x.1.1 x.2.1.1 x.2.2.1.1 := by kernel_rfl
  exact h.trans (by show _ = slices_ContainsFunc_Skip__scene_Skipped_1.F x.1.1 x.2.1.1 x.2.2.1.1; rw [slices_ContainsFunc_Skip__scene_Skipped_1.F_eq])
set_option maxRecDepth 100000 in
theorem slices_ContainsFunc_Skip__scene_Skipped_1.sound : ProcSound Try.prog glob0 110 slices_ContainsFunc_Skip__scene_Skipped_1.p :=
  fn_sound (E := slices_ContainsFunc_Skip__scene_Skipped_1.E) (c := slices_ContainsFunc_Skip__scene_Skipped_1.body0) (ann := slices_ContainsFunc_Skip__scene_Skipped_1.ann) slices_ContainsFunc_Skip__scene_Skipped_1.ok Try.func110 (of_decide_eq_true (by kernel_rfl)) rfl rfl rfl (by decide +kernel) ((SubsOk_z _ _) : SubsOk slices_ContainsFunc_Skip__scene_Skipped_1.E slices_ContainsFunc_Skip__scene_Skipped_1.body0 slices_ContainsFunc_Skip__scene_Skipped_1.ann) (fun _ => rfl) rfl slices_ContainsFunc_Skip__scene_Skipped_1.eq

/-! ### armplan/scene.Skipped: function 89 -/
noncomputable def scene_Skipped.F0 (a0 : List ((ByteArray × (Int × (Int × ((Int × (Int × Int)) × (Int × (Int × (Int × (Int × (Int × Int))))))))))) (a1 : List ((Int × (Int × (Int × (Int × Int)))))) (a2 : List ((Int × (Int × List ((Int × (Int × Int))))))) (a3 : List ((Int × Int))) (a4 : Int) (a5 : Int) : Option (Bool) :=
  ((slices_ContainsFunc_Skip__scene_Skipped_1.F a3 a4 a5).bind fun r1 => some r1.1)
noncomputable def scene_Skipped.F : (List ((ByteArray × (Int × (Int × ((Int × (Int × Int)) × (Int × (Int × (Int × (Int × (Int × Int))))))))))) → (List ((Int × (Int × (Int × (Int × Int)))))) → (List ((Int × (Int × List ((Int × (Int × Int))))))) → (List ((Int × Int))) → Int → Int → Option (Bool) := lock scene_Skipped.F0
theorem scene_Skipped.F_eq : scene_Skipped.F = scene_Skipped.F0 := lock_eq _
noncomputable def scene_Skipped.p : Proc := { nargs := 3, inS := ⟨[(0, .ag [.dat tyJ, .dat tyM, .dat tyS, .dat tyK]), (1, .lf (.sc (.int .i64))), (2, .lf (.sc (.int .i64)))], []⟩, outS := ⟨[(0, .lf (.sc .bool))], []⟩, n0 := 0, R := Bool, F := fun x => scene_Skipped.F x.1.1.1 x.1.1.2.1 x.1.1.2.2.1 x.1.1.2.2.2.1 x.1.2.1 x.1.2.2.1, post := fun r => ((r, ()), ()), un := fun x => x.1.1 }
noncomputable def scene_Skipped.E : Env := { P := Try.prog, ty := tyTab [(112, tyK)], glob := glob0, proc := procTab [(110, slices_ContainsFunc_Skip__scene_Skipped_1.p)], lproc := lprocTab [], n0 := 0, ntmps := 11 }
theorem scene_Skipped.ok : ProcsOk scene_Skipped.E := AllSound.ok (l := [(110, slices_ContainsFunc_Skip__scene_Skipped_1.p)]) (by kernel_rfl) rfl ⟨slices_ContainsFunc_Skip__scene_Skipped_1.sound, trivial⟩
noncomputable def scene_Skipped.body0 : Code := (match Try.f89.body with | some c => c | none => .skip)
noncomputable def scene_Skipped.ann : Ann := .z
set_option maxRecDepth 100000 in
theorem scene_Skipped.eq (x : Tup scene_Skipped.p.inS) : peFn scene_Skipped.E Try.f89 scene_Skipped.ann scene_Skipped.p x = scene_Skipped.p.F x := by
  have h : peFn scene_Skipped.E Try.f89 scene_Skipped.ann scene_Skipped.p x = scene_Skipped.F0 x.1.1.1 x.1.1.2.1 x.1.1.2.2.1 x.1.1.2.2.2.1 x.1.2.1 x.1.2.2.1 := by kernel_rfl
  exact h.trans (by show _ = scene_Skipped.F x.1.1.1 x.1.1.2.1 x.1.1.2.2.1 x.1.1.2.2.2.1 x.1.2.1 x.1.2.2.1; rw [scene_Skipped.F_eq])
set_option maxRecDepth 100000 in
theorem scene_Skipped.sound : ProcSound Try.prog glob0 89 scene_Skipped.p :=
  fn_sound (E := scene_Skipped.E) (c := scene_Skipped.body0) (ann := scene_Skipped.ann) scene_Skipped.ok Try.func89 (of_decide_eq_true (by kernel_rfl)) rfl rfl rfl (by decide +kernel) ((SubsOk_z _ _) : SubsOk scene_Skipped.E scene_Skipped.body0 scene_Skipped.ann) (fun _ => rfl) rfl scene_Skipped.eq

/-! ### armplan/armplanmake.joint: function 93 -/
noncomputable def armplanmake_joint.F0 (a0 : Int) (a1 : List (Int)) (a2 : Int) : Option (ByteArray × Int × Int × Int × Int × Int × Int × Int × Int × Int × Int × Int × List (Int) × Int) :=
  ((armplanmake_letter.F a0).bind fun r1 => ((armplanmake_Source_Next.F (4 : Int) a1 a2).bind fun r2 => ((armplanmake_Source_Next.F (3 : Int) r2.2.1 r2.2.2).bind fun r3 => ((armplanmake_Source_Next.F (8 : Int) r3.2.1 r3.2.2).bind fun r4 => (bif decide (0 ≤ r4.1) then (bif decide (r4.1 < (8 : Int)) then ((armplanmake_Source_Next.F (4 : Int) r4.2.1 r4.2.2).bind fun r5 => (bif (r5.1 == (1 : Int)) then (bif decide (a0 > (0 : Int)) then ((armplanmake_Source_Signed.F (2 : Int) r5.2.1 r5.2.2).bind fun r6 => ((armplanmake_Source_Signed.F (1 : Int) r6.2.1 r6.2.2).bind fun r7 => (bif ((([(3 : Int), (3 : Int), (1 : Int), (2 : Int), (4 : Int), (5 : Int), (3 : Int), (0 : Int)] : List Int).getD r4.1.toNat 0) == (0 : Int)) then some (r1, (([(3 : Int), (3 : Int), (1 : Int), (2 : Int), (4 : Int), (5 : Int), (3 : Int), (0 : Int)] : List Int).getD r4.1.toNat 0), (-1 : Int), (131072 : Int), (IntKind.wrap .i64 (r6.1 * (32768 : Int))), (IntKind.wrap .i64 (r7.1 * (32768 : Int))), (0 : Int), (0 : Int), (IntKind.wrap .i64 ((1 : Int) + r2.1)), (65536 : Int), (IntKind.wrap .i64 ((65536 : Int) + r3.1)), (327680 : Int), r7.2.1, r7.2.2) else (bif ((([(3 : Int), (3 : Int), (1 : Int), (2 : Int), (4 : Int), (5 : Int), (3 : Int), (0 : Int)] : List Int).getD r4.1.toNat 0) == (4 : Int)) then ((armplanmake_Source_Next.F (3 : Int) r7.2.1 r7.2.2).bind fun r8 => ((armplanmake_Source_Next.F (4 : Int) r8.2.1 r8.2.2).bind fun r9 => some (r1, (([(3 : Int), (3 : Int), (1 : Int), (2 : Int), (4 : Int), (5 : Int), (3 : Int), (0 : Int)] : List Int).getD r4.1.toNat 0), (-1 : Int), (131072 : Int), (IntKind.wrap .i64 (r6.1 * (32768 : Int))), (IntKind.wrap .i64 (r7.1 * (32768 : Int))), (IntKind.wrap .i64 ((IntKind.wrap .i64 (0 - r8.1)) * (65536 : Int))), (IntKind.wrap .i64 (r9.1 * (32768 : Int))), (IntKind.wrap .i64 ((1 : Int) + r2.1)), (65536 : Int), (IntKind.wrap .i64 ((65536 : Int) + r3.1)), (327680 : Int), r9.2.1, r9.2.2))) else (bif ((([(3 : Int), (3 : Int), (1 : Int), (2 : Int), (4 : Int), (5 : Int), (3 : Int), (0 : Int)] : List Int).getD r4.1.toNat 0) == (5 : Int)) then ((armplanmake_Source_Next.F (3 : Int) r7.2.1 r7.2.2).bind fun r10 => ((armplanmake_Source_Next.F (4 : Int) r10.2.1 r10.2.2).bind fun r11 => some (r1, (([(3 : Int), (3 : Int), (1 : Int), (2 : Int), (4 : Int), (5 : Int), (3 : Int), (0 : Int)] : List Int).getD r4.1.toNat 0), (-1 : Int), (131072 : Int), (IntKind.wrap .i64 (r6.1 * (32768 : Int))), (IntKind.wrap .i64 (r7.1 * (32768 : Int))), (IntKind.wrap .i64 ((IntKind.wrap .i64 (0 - r10.1)) * (65536 : Int))), (IntKind.wrap .i64 (r11.1 * (32768 : Int))), (IntKind.wrap .i64 ((1 : Int) + r2.1)), (65536 : Int), (IntKind.wrap .i64 ((65536 : Int) + r3.1)), (327680 : Int), r11.2.1, r11.2.2))) else ((armplanmake_Source_Next.F (5 : Int) r7.2.1 r7.2.2).bind fun r12 => ((armplanmake_Source_Next.F (4 : Int) r12.2.1 r12.2.2).bind fun r13 => ((armplanmake_Source_Next.F (3 : Int) r13.2.1 r13.2.2).bind fun r14 => some (r1, (([(3 : Int), (3 : Int), (1 : Int), (2 : Int), (4 : Int), (5 : Int), (3 : Int), (0 : Int)] : List Int).getD r4.1.toNat 0), (-1 : Int), (131072 : Int), (IntKind.wrap .i64 (r6.1 * (32768 : Int))), (IntKind.wrap .i64 (r7.1 * (32768 : Int))), (IntKind.wrap .i64 ((IntKind.wrap .i64 ((IntKind.wrap .i64 (0 - r12.1)) * (65536 : Int))).tdiv (8 : Int))), (IntKind.wrap .i64 ((IntKind.wrap .i64 ((IntKind.wrap .i64 ((IntKind.wrap .i64 ((1 : Int) + r13.1)) * (65536 : Int))).tdiv (8 : Int))) + r14.1)), (IntKind.wrap .i64 ((1 : Int) + r2.1)), (65536 : Int), (IntKind.wrap .i64 ((65536 : Int) + r3.1)), (327680 : Int), r14.2.1, r14.2.2))))))))) else (bif ((([(3 : Int), (3 : Int), (1 : Int), (2 : Int), (4 : Int), (5 : Int), (3 : Int), (0 : Int)] : List Int).getD r4.1.toNat 0) == (0 : Int)) then some (r1, (([(3 : Int), (3 : Int), (1 : Int), (2 : Int), (4 : Int), (5 : Int), (3 : Int), (0 : Int)] : List Int).getD r4.1.toNat 0), (-1 : Int), (0 : Int), (0 : Int), (0 : Int), (0 : Int), (0 : Int), (IntKind.wrap .i64 ((1 : Int) + r2.1)), (65536 : Int), (IntKind.wrap .i64 ((65536 : Int) + r3.1)), (327680 : Int), r5.2.1, r5.2.2) else (bif ((([(3 : Int), (3 : Int), (1 : Int), (2 : Int), (4 : Int), (5 : Int), (3 : Int), (0 : Int)] : List Int).getD r4.1.toNat 0) == (4 : Int)) then ((armplanmake_Source_Next.F (3 : Int) r5.2.1 r5.2.2).bind fun r15 => ((armplanmake_Source_Next.F (4 : Int) r15.2.1 r15.2.2).bind fun r16 => some (r1, (([(3 : Int), (3 : Int), (1 : Int), (2 : Int), (4 : Int), (5 : Int), (3 : Int), (0 : Int)] : List Int).getD r4.1.toNat 0), (-1 : Int), (0 : Int), (0 : Int), (0 : Int), (IntKind.wrap .i64 ((IntKind.wrap .i64 (0 - r15.1)) * (65536 : Int))), (IntKind.wrap .i64 (r16.1 * (32768 : Int))), (IntKind.wrap .i64 ((1 : Int) + r2.1)), (65536 : Int), (IntKind.wrap .i64 ((65536 : Int) + r3.1)), (327680 : Int), r16.2.1, r16.2.2))) else (bif ((([(3 : Int), (3 : Int), (1 : Int), (2 : Int), (4 : Int), (5 : Int), (3 : Int), (0 : Int)] : List Int).getD r4.1.toNat 0) == (5 : Int)) then ((armplanmake_Source_Next.F (3 : Int) r5.2.1 r5.2.2).bind fun r17 => ((armplanmake_Source_Next.F (4 : Int) r17.2.1 r17.2.2).bind fun r18 => some (r1, (([(3 : Int), (3 : Int), (1 : Int), (2 : Int), (4 : Int), (5 : Int), (3 : Int), (0 : Int)] : List Int).getD r4.1.toNat 0), (-1 : Int), (0 : Int), (0 : Int), (0 : Int), (IntKind.wrap .i64 ((IntKind.wrap .i64 (0 - r17.1)) * (65536 : Int))), (IntKind.wrap .i64 (r18.1 * (32768 : Int))), (IntKind.wrap .i64 ((1 : Int) + r2.1)), (65536 : Int), (IntKind.wrap .i64 ((65536 : Int) + r3.1)), (327680 : Int), r18.2.1, r18.2.2))) else ((armplanmake_Source_Next.F (5 : Int) r5.2.1 r5.2.2).bind fun r19 => ((armplanmake_Source_Next.F (4 : Int) r19.2.1 r19.2.2).bind fun r20 => ((armplanmake_Source_Next.F (3 : Int) r20.2.1 r20.2.2).bind fun r21 => some (r1, (([(3 : Int), (3 : Int), (1 : Int), (2 : Int), (4 : Int), (5 : Int), (3 : Int), (0 : Int)] : List Int).getD r4.1.toNat 0), (-1 : Int), (0 : Int), (0 : Int), (0 : Int), (IntKind.wrap .i64 ((IntKind.wrap .i64 ((IntKind.wrap .i64 (0 - r19.1)) * (65536 : Int))).tdiv (8 : Int))), (IntKind.wrap .i64 ((IntKind.wrap .i64 ((IntKind.wrap .i64 ((IntKind.wrap .i64 ((1 : Int) + r20.1)) * (65536 : Int))).tdiv (8 : Int))) + r21.1)), (IntKind.wrap .i64 ((1 : Int) + r2.1)), (65536 : Int), (IntKind.wrap .i64 ((65536 : Int) + r3.1)), (327680 : Int), r21.2.1, r21.2.2)))))))) else (bif decide (a0 > (0 : Int)) then ((armplanmake_Source_Signed.F (2 : Int) r5.2.1 r5.2.2).bind fun r22 => ((armplanmake_Source_Signed.F (1 : Int) r22.2.1 r22.2.2).bind fun r23 => (bif ((([(3 : Int), (3 : Int), (1 : Int), (2 : Int), (4 : Int), (5 : Int), (3 : Int), (0 : Int)] : List Int).getD r4.1.toNat 0) == (0 : Int)) then some (r1, (([(3 : Int), (3 : Int), (1 : Int), (2 : Int), (4 : Int), (5 : Int), (3 : Int), (0 : Int)] : List Int).getD r4.1.toNat 0), (IntKind.wrap .i64 (a0 - (1 : Int))), (131072 : Int), (IntKind.wrap .i64 (r22.1 * (32768 : Int))), (IntKind.wrap .i64 (r23.1 * (32768 : Int))), (0 : Int), (0 : Int), (IntKind.wrap .i64 ((1 : Int) + r2.1)), (65536 : Int), (IntKind.wrap .i64 ((65536 : Int) + r3.1)), (327680 : Int), r23.2.1, r23.2.2) else (bif ((([(3 : Int), (3 : Int), (1 : Int), (2 : Int), (4 : Int), (5 : Int), (3 : Int), (0 : Int)] : List Int).getD r4.1.toNat 0) == (4 : Int)) then ((armplanmake_Source_Next.F (3 : Int) r23.2.1 r23.2.2).bind fun r24 => ((armplanmake_Source_Next.F (4 : Int) r24.2.1 r24.2.2).bind fun r25 => some (r1, (([(3 : Int), (3 : Int), (1 : Int), (2 : Int), (4 : Int), (5 : Int), (3 : Int), (0 : Int)] : List Int).getD r4.1.toNat 0), (IntKind.wrap .i64 (a0 - (1 : Int))), (131072 : Int), (IntKind.wrap .i64 (r22.1 * (32768 : Int))), (IntKind.wrap .i64 (r23.1 * (32768 : Int))), (IntKind.wrap .i64 ((IntKind.wrap .i64 (0 - r24.1)) * (65536 : Int))), (IntKind.wrap .i64 (r25.1 * (32768 : Int))), (IntKind.wrap .i64 ((1 : Int) + r2.1)), (65536 : Int), (IntKind.wrap .i64 ((65536 : Int) + r3.1)), (327680 : Int), r25.2.1, r25.2.2))) else (bif ((([(3 : Int), (3 : Int), (1 : Int), (2 : Int), (4 : Int), (5 : Int), (3 : Int), (0 : Int)] : List Int).getD r4.1.toNat 0) == (5 : Int)) then ((armplanmake_Source_Next.F (3 : Int) r23.2.1 r23.2.2).bind fun r26 => ((armplanmake_Source_Next.F (4 : Int) r26.2.1 r26.2.2).bind fun r27 => some (r1, (([(3 : Int), (3 : Int), (1 : Int), (2 : Int), (4 : Int), (5 : Int), (3 : Int), (0 : Int)] : List Int).getD r4.1.toNat 0), (IntKind.wrap .i64 (a0 - (1 : Int))), (131072 : Int), (IntKind.wrap .i64 (r22.1 * (32768 : Int))), (IntKind.wrap .i64 (r23.1 * (32768 : Int))), (IntKind.wrap .i64 ((IntKind.wrap .i64 (0 - r26.1)) * (65536 : Int))), (IntKind.wrap .i64 (r27.1 * (32768 : Int))), (IntKind.wrap .i64 ((1 : Int) + r2.1)), (65536 : Int), (IntKind.wrap .i64 ((65536 : Int) + r3.1)), (327680 : Int), r27.2.1, r27.2.2))) else ((armplanmake_Source_Next.F (5 : Int) r23.2.1 r23.2.2).bind fun r28 => ((armplanmake_Source_Next.F (4 : Int) r28.2.1 r28.2.2).bind fun r29 => ((armplanmake_Source_Next.F (3 : Int) r29.2.1 r29.2.2).bind fun r30 => some (r1, (([(3 : Int), (3 : Int), (1 : Int), (2 : Int), (4 : Int), (5 : Int), (3 : Int), (0 : Int)] : List Int).getD r4.1.toNat 0), (IntKind.wrap .i64 (a0 - (1 : Int))), (131072 : Int), (IntKind.wrap .i64 (r22.1 * (32768 : Int))), (IntKind.wrap .i64 (r23.1 * (32768 : Int))), (IntKind.wrap .i64 ((IntKind.wrap .i64 ((IntKind.wrap .i64 (0 - r28.1)) * (65536 : Int))).tdiv (8 : Int))), (IntKind.wrap .i64 ((IntKind.wrap .i64 ((IntKind.wrap .i64 ((IntKind.wrap .i64 ((1 : Int) + r29.1)) * (65536 : Int))).tdiv (8 : Int))) + r30.1)), (IntKind.wrap .i64 ((1 : Int) + r2.1)), (65536 : Int), (IntKind.wrap .i64 ((65536 : Int) + r3.1)), (327680 : Int), r30.2.1, r30.2.2))))))))) else (bif ((([(3 : Int), (3 : Int), (1 : Int), (2 : Int), (4 : Int), (5 : Int), (3 : Int), (0 : Int)] : List Int).getD r4.1.toNat 0) == (0 : Int)) then some (r1, (([(3 : Int), (3 : Int), (1 : Int), (2 : Int), (4 : Int), (5 : Int), (3 : Int), (0 : Int)] : List Int).getD r4.1.toNat 0), (IntKind.wrap .i64 (a0 - (1 : Int))), (0 : Int), (0 : Int), (0 : Int), (0 : Int), (0 : Int), (IntKind.wrap .i64 ((1 : Int) + r2.1)), (65536 : Int), (IntKind.wrap .i64 ((65536 : Int) + r3.1)), (327680 : Int), r5.2.1, r5.2.2) else (bif ((([(3 : Int), (3 : Int), (1 : Int), (2 : Int), (4 : Int), (5 : Int), (3 : Int), (0 : Int)] : List Int).getD r4.1.toNat 0) == (4 : Int)) then ((armplanmake_Source_Next.F (3 : Int) r5.2.1 r5.2.2).bind fun r31 => ((armplanmake_Source_Next.F (4 : Int) r31.2.1 r31.2.2).bind fun r32 => some (r1, (([(3 : Int), (3 : Int), (1 : Int), (2 : Int), (4 : Int), (5 : Int), (3 : Int), (0 : Int)] : List Int).getD r4.1.toNat 0), (IntKind.wrap .i64 (a0 - (1 : Int))), (0 : Int), (0 : Int), (0 : Int), (IntKind.wrap .i64 ((IntKind.wrap .i64 (0 - r31.1)) * (65536 : Int))), (IntKind.wrap .i64 (r32.1 * (32768 : Int))), (IntKind.wrap .i64 ((1 : Int) + r2.1)), (65536 : Int), (IntKind.wrap .i64 ((65536 : Int) + r3.1)), (327680 : Int), r32.2.1, r32.2.2))) else (bif ((([(3 : Int), (3 : Int), (1 : Int), (2 : Int), (4 : Int), (5 : Int), (3 : Int), (0 : Int)] : List Int).getD r4.1.toNat 0) == (5 : Int)) then ((armplanmake_Source_Next.F (3 : Int) r5.2.1 r5.2.2).bind fun r33 => ((armplanmake_Source_Next.F (4 : Int) r33.2.1 r33.2.2).bind fun r34 => some (r1, (([(3 : Int), (3 : Int), (1 : Int), (2 : Int), (4 : Int), (5 : Int), (3 : Int), (0 : Int)] : List Int).getD r4.1.toNat 0), (IntKind.wrap .i64 (a0 - (1 : Int))), (0 : Int), (0 : Int), (0 : Int), (IntKind.wrap .i64 ((IntKind.wrap .i64 (0 - r33.1)) * (65536 : Int))), (IntKind.wrap .i64 (r34.1 * (32768 : Int))), (IntKind.wrap .i64 ((1 : Int) + r2.1)), (65536 : Int), (IntKind.wrap .i64 ((65536 : Int) + r3.1)), (327680 : Int), r34.2.1, r34.2.2))) else ((armplanmake_Source_Next.F (5 : Int) r5.2.1 r5.2.2).bind fun r35 => ((armplanmake_Source_Next.F (4 : Int) r35.2.1 r35.2.2).bind fun r36 => ((armplanmake_Source_Next.F (3 : Int) r36.2.1 r36.2.2).bind fun r37 => some (r1, (([(3 : Int), (3 : Int), (1 : Int), (2 : Int), (4 : Int), (5 : Int), (3 : Int), (0 : Int)] : List Int).getD r4.1.toNat 0), (IntKind.wrap .i64 (a0 - (1 : Int))), (0 : Int), (0 : Int), (0 : Int), (IntKind.wrap .i64 ((IntKind.wrap .i64 ((IntKind.wrap .i64 (0 - r35.1)) * (65536 : Int))).tdiv (8 : Int))), (IntKind.wrap .i64 ((IntKind.wrap .i64 ((IntKind.wrap .i64 ((IntKind.wrap .i64 ((1 : Int) + r36.1)) * (65536 : Int))).tdiv (8 : Int))) + r37.1)), (IntKind.wrap .i64 ((1 : Int) + r2.1)), (65536 : Int), (IntKind.wrap .i64 ((65536 : Int) + r3.1)), (327680 : Int), r37.2.1, r37.2.2)))))))))) else none) else none)))))
noncomputable def armplanmake_joint.F : Int → (List (Int)) → Int → Option (ByteArray × Int × Int × Int × Int × Int × Int × Int × Int × Int × Int × Int × List (Int) × Int) := lock armplanmake_joint.F0
theorem armplanmake_joint.F_eq : armplanmake_joint.F = armplanmake_joint.F0 := lock_eq _
noncomputable def armplanmake_joint.p : Proc := { nargs := 2, inS := ⟨[(0, .lf (.bp 0 0)), (1, .lf (.sc (.int .i64)))], [.box [.dat (.int .i64), .sc (.int .i64)]]⟩, outS := ⟨[(0, .ag [.sc .str, .sc (.int .i64), .sc (.int .i64), .sc (.int .i64), .sc (.int .i64), .sc (.int .i64), .sc (.int .i64), .sc (.int .i64), .sc (.int .i64), .sc (.int .i64), .sc (.int .i64), .sc (.int .i64)])], [.box [.dat (.int .i64), .sc (.int .i64)]]⟩, n0 := 1, R := ByteArray × Int × Int × Int × Int × Int × Int × Int × Int × Int × Int × Int × List (Int) × Int, F := fun x => armplanmake_joint.F x.1.2.1 x.2.1.1 x.2.1.2.1, post := fun r => (((r.1, (r.2.1, (r.2.2.1, (r.2.2.2.1, (r.2.2.2.2.1, (r.2.2.2.2.2.1, (r.2.2.2.2.2.2.1, (r.2.2.2.2.2.2.2.1, (r.2.2.2.2.2.2.2.2.1, (r.2.2.2.2.2.2.2.2.2.1, (r.2.2.2.2.2.2.2.2.2.2.1, (r.2.2.2.2.2.2.2.2.2.2.2.1, ())))))))))))), ()), ((r.2.2.2.2.2.2.2.2.2.2.2.2.1, (r.2.2.2.2.2.2.2.2.2.2.2.2.2, ())), ())), un := fun x => (x.1.1.1, x.1.1.2.1, x.1.1.2.2.1, x.1.1.2.2.2.1, x.1.1.2.2.2.2.1, x.1.1.2.2.2.2.2.1, x.1.1.2.2.2.2.2.2.1, x.1.1.2.2.2.2.2.2.2.1, x.1.1.2.2.2.2.2.2.2.2.1, x.1.1.2.2.2.2.2.2.2.2.2.1, x.1.1.2.2.2.2.2.2.2.2.2.2.1, x.1.1.2.2.2.2.2.2.2.2.2.2.2.1, x.2.1.1, x.2.1.2.1) }
noncomputable def armplanmake_joint.E : Env := { P := Try.prog, ty := tyTab [], glob := glob0, proc := procTab [(62, armplanmake_letter.p), (32, armplanmake_Source_Next.p), (35, armplanmake_Source_Signed.p)], lproc := lprocTab [], n0 := 1, ntmps := 68 }
theorem armplanmake_joint.ok : ProcsOk armplanmake_joint.E := AllSound.ok (l := [(62, armplanmake_letter.p), (32, armplanmake_Source_Next.p), (35, armplanmake_Source_Signed.p)]) (by kernel_rfl) rfl ⟨armplanmake_letter.sound, armplanmake_Source_Next.sound, armplanmake_Source_Signed.sound, trivial⟩
noncomputable def armplanmake_joint.body0 : Code := (match Try.f93.body with | some c => c | none => .skip)
noncomputable def armplanmake_joint.ann : Ann := .z
set_option maxRecDepth 100000 in
theorem armplanmake_joint.eq (x : Tup armplanmake_joint.p.inS) : peFn armplanmake_joint.E Try.f93 armplanmake_joint.ann armplanmake_joint.p x = armplanmake_joint.p.F x := by
  have h : peFn armplanmake_joint.E Try.f93 armplanmake_joint.ann armplanmake_joint.p x = armplanmake_joint.F0 x.1.2.1 x.2.1.1 x.2.1.2.1 := by kernel_rfl
  exact h.trans (by show _ = armplanmake_joint.F x.1.2.1 x.2.1.1 x.2.1.2.1; rw [armplanmake_joint.F_eq])
set_option maxRecDepth 100000 in
theorem armplanmake_joint.sound : ProcSound Try.prog glob0 93 armplanmake_joint.p :=
  fn_sound (E := armplanmake_joint.E) (c := armplanmake_joint.body0) (ann := armplanmake_joint.ann) armplanmake_joint.ok Try.func93 (of_decide_eq_true (by kernel_rfl)) rfl rfl rfl (by decide +kernel) ((SubsOk_z _ _) : SubsOk armplanmake_joint.E armplanmake_joint.body0 armplanmake_joint.ann) (fun _ => rfl) rfl armplanmake_joint.eq

/-! ### armplan/armplanmake.Same[armplan/api.Joint]: function 94 -/
noncomputable def armplanmake_Same_Joint.p0.round (v0 : List ((ByteArray × (Int × (Int × ((Int × (Int × Int)) × (Int × (Int × (Int × (Int × (Int × Int))))))))))) (v1 : List ((ByteArray × (Int × (Int × ((Int × (Int × Int)) × (Int × (Int × (Int × (Int × (Int × Int))))))))))) (v2 : Int) : Option ((List ((ByteArray × (Int × (Int × ((Int × (Int × Int)) × (Int × (Int × (Int × (Int × (Int × Int)))))))))) × List ((ByteArray × (Int × (Int × ((Int × (Int × Int)) × (Int × (Int × (Int × (Int × (Int × Int)))))))))) × Int) ⊕ ((Bool) ⊕ (Unit))) :=
  (bif decide (v2 < (v0.length : Int)) then (bif decide (0 ≤ v2) then (bif decide (v2 < (v0.length : Int)) then (bif decide (0 ≤ v2) then (bif decide (v2 < (v1.length : Int)) then (bif (!((eqS (v0.getD v2.toNat ((⟨#[]⟩ : ByteArray), ((0 : Int), ((0 : Int), (((0 : Int), ((0 : Int), (0 : Int))), ((0 : Int), ((0 : Int), ((0 : Int), ((0 : Int), ((0 : Int), (0 : Int))))))))))).1 (v1.getD v2.toNat ((⟨#[]⟩ : ByteArray), ((0 : Int), ((0 : Int), (((0 : Int), ((0 : Int), (0 : Int))), ((0 : Int), ((0 : Int), ((0 : Int), ((0 : Int), ((0 : Int), (0 : Int))))))))))).1) && ((((v0.getD v2.toNat ((⟨#[]⟩ : ByteArray), ((0 : Int), ((0 : Int), (((0 : Int), ((0 : Int), (0 : Int))), ((0 : Int), ((0 : Int), ((0 : Int), ((0 : Int), ((0 : Int), (0 : Int))))))))))).2).1 == ((v1.getD v2.toNat ((⟨#[]⟩ : ByteArray), ((0 : Int), ((0 : Int), (((0 : Int), ((0 : Int), (0 : Int))), ((0 : Int), ((0 : Int), ((0 : Int), ((0 : Int), ((0 : Int), (0 : Int))))))))))).2).1) && (((((v0.getD v2.toNat ((⟨#[]⟩ : ByteArray), ((0 : Int), ((0 : Int), (((0 : Int), ((0 : Int), (0 : Int))), ((0 : Int), ((0 : Int), ((0 : Int), ((0 : Int), ((0 : Int), (0 : Int))))))))))).2).2).1 == (((v1.getD v2.toNat ((⟨#[]⟩ : ByteArray), ((0 : Int), ((0 : Int), (((0 : Int), ((0 : Int), (0 : Int))), ((0 : Int), ((0 : Int), ((0 : Int), ((0 : Int), ((0 : Int), (0 : Int))))))))))).2).2).1) && ((((((((v0.getD v2.toNat ((⟨#[]⟩ : ByteArray), ((0 : Int), ((0 : Int), (((0 : Int), ((0 : Int), (0 : Int))), ((0 : Int), ((0 : Int), ((0 : Int), ((0 : Int), ((0 : Int), (0 : Int))))))))))).2).2).2).1).1 == (((((v1.getD v2.toNat ((⟨#[]⟩ : ByteArray), ((0 : Int), ((0 : Int), (((0 : Int), ((0 : Int), (0 : Int))), ((0 : Int), ((0 : Int), ((0 : Int), ((0 : Int), ((0 : Int), (0 : Int))))))))))).2).2).2).1).1) && ((((((((v0.getD v2.toNat ((⟨#[]⟩ : ByteArray), ((0 : Int), ((0 : Int), (((0 : Int), ((0 : Int), (0 : Int))), ((0 : Int), ((0 : Int), ((0 : Int), ((0 : Int), ((0 : Int), (0 : Int))))))))))).2).2).2).1).2).1 == ((((((v1.getD v2.toNat ((⟨#[]⟩ : ByteArray), ((0 : Int), ((0 : Int), (((0 : Int), ((0 : Int), (0 : Int))), ((0 : Int), ((0 : Int), ((0 : Int), ((0 : Int), ((0 : Int), (0 : Int))))))))))).2).2).2).1).2).1) && ((((((((v0.getD v2.toNat ((⟨#[]⟩ : ByteArray), ((0 : Int), ((0 : Int), (((0 : Int), ((0 : Int), (0 : Int))), ((0 : Int), ((0 : Int), ((0 : Int), ((0 : Int), ((0 : Int), (0 : Int))))))))))).2).2).2).1).2).2 == ((((((v1.getD v2.toNat ((⟨#[]⟩ : ByteArray), ((0 : Int), ((0 : Int), (((0 : Int), ((0 : Int), (0 : Int))), ((0 : Int), ((0 : Int), ((0 : Int), ((0 : Int), ((0 : Int), (0 : Int))))))))))).2).2).2).1).2).2) && true))) && (((((((v0.getD v2.toNat ((⟨#[]⟩ : ByteArray), ((0 : Int), ((0 : Int), (((0 : Int), ((0 : Int), (0 : Int))), ((0 : Int), ((0 : Int), ((0 : Int), ((0 : Int), ((0 : Int), (0 : Int))))))))))).2).2).2).2).1 == (((((v1.getD v2.toNat ((⟨#[]⟩ : ByteArray), ((0 : Int), ((0 : Int), (((0 : Int), ((0 : Int), (0 : Int))), ((0 : Int), ((0 : Int), ((0 : Int), ((0 : Int), ((0 : Int), (0 : Int))))))))))).2).2).2).2).1) && ((((((((v0.getD v2.toNat ((⟨#[]⟩ : ByteArray), ((0 : Int), ((0 : Int), (((0 : Int), ((0 : Int), (0 : Int))), ((0 : Int), ((0 : Int), ((0 : Int), ((0 : Int), ((0 : Int), (0 : Int))))))))))).2).2).2).2).2).1 == ((((((v1.getD v2.toNat ((⟨#[]⟩ : ByteArray), ((0 : Int), ((0 : Int), (((0 : Int), ((0 : Int), (0 : Int))), ((0 : Int), ((0 : Int), ((0 : Int), ((0 : Int), ((0 : Int), (0 : Int))))))))))).2).2).2).2).2).1) && (((((((((v0.getD v2.toNat ((⟨#[]⟩ : ByteArray), ((0 : Int), ((0 : Int), (((0 : Int), ((0 : Int), (0 : Int))), ((0 : Int), ((0 : Int), ((0 : Int), ((0 : Int), ((0 : Int), (0 : Int))))))))))).2).2).2).2).2).2).1 == (((((((v1.getD v2.toNat ((⟨#[]⟩ : ByteArray), ((0 : Int), ((0 : Int), (((0 : Int), ((0 : Int), (0 : Int))), ((0 : Int), ((0 : Int), ((0 : Int), ((0 : Int), ((0 : Int), (0 : Int))))))))))).2).2).2).2).2).2).1) && ((((((((((v0.getD v2.toNat ((⟨#[]⟩ : ByteArray), ((0 : Int), ((0 : Int), (((0 : Int), ((0 : Int), (0 : Int))), ((0 : Int), ((0 : Int), ((0 : Int), ((0 : Int), ((0 : Int), (0 : Int))))))))))).2).2).2).2).2).2).2).1 == ((((((((v1.getD v2.toNat ((⟨#[]⟩ : ByteArray), ((0 : Int), ((0 : Int), (((0 : Int), ((0 : Int), (0 : Int))), ((0 : Int), ((0 : Int), ((0 : Int), ((0 : Int), ((0 : Int), (0 : Int))))))))))).2).2).2).2).2).2).2).1) && (((((((((((v0.getD v2.toNat ((⟨#[]⟩ : ByteArray), ((0 : Int), ((0 : Int), (((0 : Int), ((0 : Int), (0 : Int))), ((0 : Int), ((0 : Int), ((0 : Int), ((0 : Int), ((0 : Int), (0 : Int))))))))))).2).2).2).2).2).2).2).2).1 == (((((((((v1.getD v2.toNat ((⟨#[]⟩ : ByteArray), ((0 : Int), ((0 : Int), (((0 : Int), ((0 : Int), (0 : Int))), ((0 : Int), ((0 : Int), ((0 : Int), ((0 : Int), ((0 : Int), (0 : Int))))))))))).2).2).2).2).2).2).2).2).1) && (((((((((((v0.getD v2.toNat ((⟨#[]⟩ : ByteArray), ((0 : Int), ((0 : Int), (((0 : Int), ((0 : Int), (0 : Int))), ((0 : Int), ((0 : Int), ((0 : Int), ((0 : Int), ((0 : Int), (0 : Int))))))))))).2).2).2).2).2).2).2).2).2 == (((((((((v1.getD v2.toNat ((⟨#[]⟩ : ByteArray), ((0 : Int), ((0 : Int), (((0 : Int), ((0 : Int), (0 : Int))), ((0 : Int), ((0 : Int), ((0 : Int), ((0 : Int), ((0 : Int), (0 : Int))))))))))).2).2).2).2).2).2).2).2).2) && true))))))))))) then some (.inr (.inl false)) else some (.inl (v0, v1, (IntKind.wrap .i64 (v2 + (1 : Int)))))) else none) else none) else none) else none) else some (.inr (.inr ())))
noncomputable def armplanmake_Same_Joint.p0.step (s : List ((ByteArray × (Int × (Int × ((Int × (Int × Int)) × (Int × (Int × (Int × (Int × (Int × Int)))))))))) × List ((ByteArray × (Int × (Int × ((Int × (Int × Int)) × (Int × (Int × (Int × (Int × (Int × Int)))))))))) × Int) : Option ((List ((ByteArray × (Int × (Int × ((Int × (Int × Int)) × (Int × (Int × (Int × (Int × (Int × Int)))))))))) × List ((ByteArray × (Int × (Int × ((Int × (Int × Int)) × (Int × (Int × (Int × (Int × (Int × Int)))))))))) × Int) ⊕ ((Bool) ⊕ (Unit))) := armplanmake_Same_Joint.p0.round s.1 s.2.1 s.2.2
noncomputable def armplanmake_Same_Joint.p0.inS : Shape := ⟨[(0, .lf (.dat tyJ)), (1, .lf (.dat tyJ)), (5, .lf (.sc (.int .i64)))], []⟩
noncomputable def armplanmake_Same_Joint.p0.w0 : Way := { ex := .rt, S := ⟨[(4, .lf (.sc .bool))], []⟩, R := Bool, post := fun r => ((r, ()), ()), un := fun x => x.1.1 }
noncomputable def armplanmake_Same_Joint.p0.w1 : Way := { ex := (.ex 0), S := ⟨[], []⟩, R := Unit, post := fun r => ((), ()), un := fun x => () }
noncomputable def armplanmake_Same_Joint.p0.outs : List Way := [armplanmake_Same_Joint.p0.w0, armplanmake_Same_Joint.p0.w1]
noncomputable def armplanmake_Same_Joint.p0.un (x : Tup armplanmake_Same_Joint.p0.inS) : List ((ByteArray × (Int × (Int × ((Int × (Int × Int)) × (Int × (Int × (Int × (Int × (Int × Int)))))))))) × List ((ByteArray × (Int × (Int × ((Int × (Int × Int)) × (Int × (Int × (Int × (Int × (Int × Int)))))))))) × Int := (x.1.1, x.1.2.1, x.1.2.2.1)
noncomputable def armplanmake_Same_Joint.p0.lp : LProc := { inS := armplanmake_Same_Joint.p0.inS, outs := armplanmake_Same_Joint.p0.outs, F := fun x => loopF armplanmake_Same_Joint.p0.step (armplanmake_Same_Joint.p0.un x) }
noncomputable def armplanmake_Same_Joint.F0 (a0 : List ((ByteArray × (Int × (Int × ((Int × (Int × Int)) × (Int × (Int × (Int × (Int × (Int × Int))))))))))) (a1 : List ((ByteArray × (Int × (Int × ((Int × (Int × Int)) × (Int × (Int × (Int × (Int × (Int × Int))))))))))) : Option (Bool) :=
  (bif ((a0.length : Int) != (a1.length : Int)) then some false else ((loopF armplanmake_Same_Joint.p0.step (a0, a1, (0 : Int))).bind fun y1 => (Sum.elim (fun y2 => some y2) (fun z3 => some true) y1)))
noncomputable def armplanmake_Same_Joint.F : (List ((ByteArray × (Int × (Int × ((Int × (Int × Int)) × (Int × (Int × (Int × (Int × (Int × Int))))))))))) → (List ((ByteArray × (Int × (Int × ((Int × (Int × Int)) × (Int × (Int × (Int × (Int × (Int × Int))))))))))) → Option (Bool) := lock armplanmake_Same_Joint.F0
theorem armplanmake_Same_Joint.F_eq : armplanmake_Same_Joint.F = armplanmake_Same_Joint.F0 := lock_eq _
noncomputable def armplanmake_Same_Joint.p : Proc := { nargs := 2, inS := ⟨[(0, .lf (.dat tyJ)), (1, .lf (.dat tyJ))], []⟩, outS := ⟨[(0, .lf (.sc .bool))], []⟩, n0 := 0, R := Bool, F := fun x => armplanmake_Same_Joint.F x.1.1 x.1.2.1, post := fun r => ((r, ()), ()), un := fun x => x.1.1 }
noncomputable def armplanmake_Same_Joint.E : Env := { P := Try.prog, ty := tyTab [], glob := glob0, proc := procTab [], lproc := lprocTab [(0, armplanmake_Same_Joint.p0.lp)], n0 := 0, ntmps := 26 }
theorem armplanmake_Same_Joint.ok : ProcsOk armplanmake_Same_Joint.E := AllSound.ok (l := []) (by kernel_rfl) rfl trivial
noncomputable def armplanmake_Same_Joint.body0 : Code := (match Try.f94.body with | some c => c | none => .skip)
noncomputable def armplanmake_Same_Joint.p0.c : Code := ((codeAt armplanmake_Same_Joint.body0 [.r, .r, .l, .r, .b, .b]).getD .skip)
noncomputable def armplanmake_Same_Joint.p0.ann : Ann := .z
set_option maxRecDepth 100000 in
theorem armplanmake_Same_Joint.p0.eq (x : Tup armplanmake_Same_Joint.p0.inS) : peRound armplanmake_Same_Joint.E armplanmake_Same_Joint.p0.c armplanmake_Same_Joint.p0.ann _ armplanmake_Same_Joint.p0.inS armplanmake_Same_Joint.p0.un armplanmake_Same_Joint.p0.outs x = armplanmake_Same_Joint.p0.step (armplanmake_Same_Joint.p0.un x) := by
  kernel_rfl
set_option maxRecDepth 100000 in
theorem armplanmake_Same_Joint.p0.sound : LProcSound armplanmake_Same_Joint.E (.loop armplanmake_Same_Joint.p0.c) armplanmake_Same_Joint.p0.lp :=
  loop_sound (c := armplanmake_Same_Joint.p0.c) (ann := armplanmake_Same_Joint.p0.ann) armplanmake_Same_Joint.ok ((SubsOk_z _ _) : SubsOk armplanmake_Same_Joint.E armplanmake_Same_Joint.p0.c armplanmake_Same_Joint.p0.ann) (by intro a ha; simp only [armplanmake_Same_Joint.p0.outs, List.mem_cons, List.not_mem_nil, or_false] at ha; rcases ha with rfl | rfl <;> exact fun _ => rfl) armplanmake_Same_Joint.p0.eq
noncomputable def armplanmake_Same_Joint.ann : Ann := .s (.z) (.s (.z) (.s (.s (.z) (.b (.sub 0))) (.z)))
set_option maxRecDepth 100000 in
theorem armplanmake_Same_Joint.eq (x : Tup armplanmake_Same_Joint.p.inS) : peFn armplanmake_Same_Joint.E Try.f94 armplanmake_Same_Joint.ann armplanmake_Same_Joint.p x = armplanmake_Same_Joint.p.F x := by
  have h : peFn armplanmake_Same_Joint.E Try.f94 armplanmake_Same_Joint.ann armplanmake_Same_Joint.p x = armplanmake_Same_Joint.F0 x.1.1 x.1.2.1 := by kernel_rfl
  exact h.trans (by show _ = armplanmake_Same_Joint.F x.1.1 x.1.2.1; rw [armplanmake_Same_Joint.F_eq])
set_option maxRecDepth 100000 in
theorem armplanmake_Same_Joint.sound : ProcSound Try.prog glob0 94 armplanmake_Same_Joint.p :=
  fn_sound (E := armplanmake_Same_Joint.E) (c := armplanmake_Same_Joint.body0) (ann := armplanmake_Same_Joint.ann) armplanmake_Same_Joint.ok Try.func94 (of_decide_eq_true (by kernel_rfl)) rfl rfl rfl (by decide +kernel) (⟨(SubsOk_z _ _), ⟨(SubsOk_z _ _), ⟨⟨(SubsOk_z _ _), (sub_of rfl armplanmake_Same_Joint.p0.sound)⟩, (SubsOk_z _ _)⟩⟩⟩ : SubsOk armplanmake_Same_Joint.E armplanmake_Same_Joint.body0 armplanmake_Same_Joint.ann) (fun _ => rfl) rfl armplanmake_Same_Joint.eq

/-! ### armplan/armplanmake.Same[armplan/api.Mass]: function 95 -/
noncomputable def armplanmake_Same_Mass.p0.round (v0 : List ((Int × (Int × (Int × (Int × Int)))))) (v1 : List ((Int × (Int × (Int × (Int × Int)))))) (v2 : Int) : Option ((List ((Int × (Int × (Int × (Int × Int))))) × List ((Int × (Int × (Int × (Int × Int))))) × Int) ⊕ ((Bool) ⊕ (Unit))) :=
  (bif decide (v2 < (v0.length : Int)) then (bif decide (0 ≤ v2) then (bif decide (v2 < (v0.length : Int)) then (bif decide (0 ≤ v2) then (bif decide (v2 < (v1.length : Int)) then (bif (!(((v0.getD v2.toNat ((0 : Int), ((0 : Int), ((0 : Int), ((0 : Int), (0 : Int)))))).1 == (v1.getD v2.toNat ((0 : Int), ((0 : Int), ((0 : Int), ((0 : Int), (0 : Int)))))).1) && ((((v0.getD v2.toNat ((0 : Int), ((0 : Int), ((0 : Int), ((0 : Int), (0 : Int)))))).2).1 == ((v1.getD v2.toNat ((0 : Int), ((0 : Int), ((0 : Int), ((0 : Int), (0 : Int)))))).2).1) && ((((((v0.getD v2.toNat ((0 : Int), ((0 : Int), ((0 : Int), ((0 : Int), (0 : Int)))))).2).2).1 == (((v1.getD v2.toNat ((0 : Int), ((0 : Int), ((0 : Int), ((0 : Int), (0 : Int)))))).2).2).1) && ((((((v0.getD v2.toNat ((0 : Int), ((0 : Int), ((0 : Int), ((0 : Int), (0 : Int)))))).2).2).2).1 == ((((v1.getD v2.toNat ((0 : Int), ((0 : Int), ((0 : Int), ((0 : Int), (0 : Int)))))).2).2).2).1) && ((((((v0.getD v2.toNat ((0 : Int), ((0 : Int), ((0 : Int), ((0 : Int), (0 : Int)))))).2).2).2).2 == ((((v1.getD v2.toNat ((0 : Int), ((0 : Int), ((0 : Int), ((0 : Int), (0 : Int)))))).2).2).2).2) && true))) && true)))) then some (.inr (.inl false)) else some (.inl (v0, v1, (IntKind.wrap .i64 (v2 + (1 : Int)))))) else none) else none) else none) else none) else some (.inr (.inr ())))
noncomputable def armplanmake_Same_Mass.p0.step (s : List ((Int × (Int × (Int × (Int × Int))))) × List ((Int × (Int × (Int × (Int × Int))))) × Int) : Option ((List ((Int × (Int × (Int × (Int × Int))))) × List ((Int × (Int × (Int × (Int × Int))))) × Int) ⊕ ((Bool) ⊕ (Unit))) := armplanmake_Same_Mass.p0.round s.1 s.2.1 s.2.2
noncomputable def armplanmake_Same_Mass.p0.inS : Shape := ⟨[(0, .lf (.dat tyM)), (1, .lf (.dat tyM)), (5, .lf (.sc (.int .i64)))], []⟩
noncomputable def armplanmake_Same_Mass.p0.w0 : Way := { ex := .rt, S := ⟨[(4, .lf (.sc .bool))], []⟩, R := Bool, post := fun r => ((r, ()), ()), un := fun x => x.1.1 }
noncomputable def armplanmake_Same_Mass.p0.w1 : Way := { ex := (.ex 0), S := ⟨[], []⟩, R := Unit, post := fun r => ((), ()), un := fun x => () }
noncomputable def armplanmake_Same_Mass.p0.outs : List Way := [armplanmake_Same_Mass.p0.w0, armplanmake_Same_Mass.p0.w1]
noncomputable def armplanmake_Same_Mass.p0.un (x : Tup armplanmake_Same_Mass.p0.inS) : List ((Int × (Int × (Int × (Int × Int))))) × List ((Int × (Int × (Int × (Int × Int))))) × Int := (x.1.1, x.1.2.1, x.1.2.2.1)
noncomputable def armplanmake_Same_Mass.p0.lp : LProc := { inS := armplanmake_Same_Mass.p0.inS, outs := armplanmake_Same_Mass.p0.outs, F := fun x => loopF armplanmake_Same_Mass.p0.step (armplanmake_Same_Mass.p0.un x) }
noncomputable def armplanmake_Same_Mass.F0 (a0 : List ((Int × (Int × (Int × (Int × Int)))))) (a1 : List ((Int × (Int × (Int × (Int × Int)))))) : Option (Bool) :=
  (bif ((a0.length : Int) != (a1.length : Int)) then some false else ((loopF armplanmake_Same_Mass.p0.step (a0, a1, (0 : Int))).bind fun y1 => (Sum.elim (fun y2 => some y2) (fun z3 => some true) y1)))
noncomputable def armplanmake_Same_Mass.F : (List ((Int × (Int × (Int × (Int × Int)))))) → (List ((Int × (Int × (Int × (Int × Int)))))) → Option (Bool) := lock armplanmake_Same_Mass.F0
theorem armplanmake_Same_Mass.F_eq : armplanmake_Same_Mass.F = armplanmake_Same_Mass.F0 := lock_eq _
noncomputable def armplanmake_Same_Mass.p : Proc := { nargs := 2, inS := ⟨[(0, .lf (.dat tyM)), (1, .lf (.dat tyM))], []⟩, outS := ⟨[(0, .lf (.sc .bool))], []⟩, n0 := 0, R := Bool, F := fun x => armplanmake_Same_Mass.F x.1.1 x.1.2.1, post := fun r => ((r, ()), ()), un := fun x => x.1.1 }
noncomputable def armplanmake_Same_Mass.E : Env := { P := Try.prog, ty := tyTab [], glob := glob0, proc := procTab [], lproc := lprocTab [(0, armplanmake_Same_Mass.p0.lp)], n0 := 0, ntmps := 26 }
theorem armplanmake_Same_Mass.ok : ProcsOk armplanmake_Same_Mass.E := AllSound.ok (l := []) (by kernel_rfl) rfl trivial
noncomputable def armplanmake_Same_Mass.body0 : Code := (match Try.f95.body with | some c => c | none => .skip)
noncomputable def armplanmake_Same_Mass.p0.c : Code := ((codeAt armplanmake_Same_Mass.body0 [.r, .r, .l, .r, .b, .b]).getD .skip)
noncomputable def armplanmake_Same_Mass.p0.ann : Ann := .z
set_option maxRecDepth 100000 in
theorem armplanmake_Same_Mass.p0.eq (x : Tup armplanmake_Same_Mass.p0.inS) : peRound armplanmake_Same_Mass.E armplanmake_Same_Mass.p0.c armplanmake_Same_Mass.p0.ann _ armplanmake_Same_Mass.p0.inS armplanmake_Same_Mass.p0.un armplanmake_Same_Mass.p0.outs x = armplanmake_Same_Mass.p0.step (armplanmake_Same_Mass.p0.un x) := by
  kernel_rfl
set_option maxRecDepth 100000 in
theorem armplanmake_Same_Mass.p0.sound : LProcSound armplanmake_Same_Mass.E (.loop armplanmake_Same_Mass.p0.c) armplanmake_Same_Mass.p0.lp :=
  loop_sound (c := armplanmake_Same_Mass.p0.c) (ann := armplanmake_Same_Mass.p0.ann) armplanmake_Same_Mass.ok ((SubsOk_z _ _) : SubsOk armplanmake_Same_Mass.E armplanmake_Same_Mass.p0.c armplanmake_Same_Mass.p0.ann) (by intro a ha; simp only [armplanmake_Same_Mass.p0.outs, List.mem_cons, List.not_mem_nil, or_false] at ha; rcases ha with rfl | rfl <;> exact fun _ => rfl) armplanmake_Same_Mass.p0.eq
noncomputable def armplanmake_Same_Mass.ann : Ann := .s (.z) (.s (.z) (.s (.s (.z) (.b (.sub 0))) (.z)))
set_option maxRecDepth 100000 in
theorem armplanmake_Same_Mass.eq (x : Tup armplanmake_Same_Mass.p.inS) : peFn armplanmake_Same_Mass.E Try.f95 armplanmake_Same_Mass.ann armplanmake_Same_Mass.p x = armplanmake_Same_Mass.p.F x := by
  have h : peFn armplanmake_Same_Mass.E Try.f95 armplanmake_Same_Mass.ann armplanmake_Same_Mass.p x = armplanmake_Same_Mass.F0 x.1.1 x.1.2.1 := by kernel_rfl
  exact h.trans (by show _ = armplanmake_Same_Mass.F x.1.1 x.1.2.1; rw [armplanmake_Same_Mass.F_eq])
set_option maxRecDepth 100000 in
theorem armplanmake_Same_Mass.sound : ProcSound Try.prog glob0 95 armplanmake_Same_Mass.p :=
  fn_sound (E := armplanmake_Same_Mass.E) (c := armplanmake_Same_Mass.body0) (ann := armplanmake_Same_Mass.ann) armplanmake_Same_Mass.ok Try.func95 (of_decide_eq_true (by kernel_rfl)) rfl rfl rfl (by decide +kernel) (⟨(SubsOk_z _ _), ⟨(SubsOk_z _ _), ⟨⟨(SubsOk_z _ _), (sub_of rfl armplanmake_Same_Mass.p0.sound)⟩, (SubsOk_z _ _)⟩⟩⟩ : SubsOk armplanmake_Same_Mass.E armplanmake_Same_Mass.body0 armplanmake_Same_Mass.ann) (fun _ => rfl) rfl armplanmake_Same_Mass.eq

/-! ### armplan/robot.between: function 97 -/
noncomputable def robot_between.F0 (a0 : Int) (a1 : Int) (a2 : Int) : Option (Bool) :=
  (bif decide (a0 ≤ a1) then some (decide (a1 ≤ a2)) else some false)
noncomputable def robot_between.F : Int → Int → Int → Option (Bool) := lock robot_between.F0
theorem robot_between.F_eq : robot_between.F = robot_between.F0 := lock_eq _
noncomputable def robot_between.p : Proc := { nargs := 3, inS := ⟨[(0, .lf (.sc (.int .i64))), (1, .lf (.sc (.int .i64))), (2, .lf (.sc (.int .i64)))], []⟩, outS := ⟨[(0, .lf (.sc .bool))], []⟩, n0 := 0, R := Bool, F := fun x => robot_between.F x.1.1 x.1.2.1 x.1.2.2.1, post := fun r => ((r, ()), ()), un := fun x => x.1.1 }
noncomputable def robot_between.E : Env := { P := Try.prog, ty := tyTab [], glob := glob0, proc := procTab [], lproc := lprocTab [], n0 := 0, ntmps := 15 }
theorem robot_between.ok : ProcsOk robot_between.E := AllSound.ok (l := []) (by kernel_rfl) rfl trivial
noncomputable def robot_between.body0 : Code := (match Try.f97.body with | some c => c | none => .skip)
noncomputable def robot_between.ann : Ann := .z
set_option maxRecDepth 100000 in
theorem robot_between.eq (x : Tup robot_between.p.inS) : peFn robot_between.E Try.f97 robot_between.ann robot_between.p x = robot_between.p.F x := by
  have h : peFn robot_between.E Try.f97 robot_between.ann robot_between.p x = robot_between.F0 x.1.1 x.1.2.1 x.1.2.2.1 := by kernel_rfl
  exact h.trans (by show _ = robot_between.F x.1.1 x.1.2.1 x.1.2.2.1; rw [robot_between.F_eq])
set_option maxRecDepth 100000 in
theorem robot_between.sound : ProcSound Try.prog glob0 97 robot_between.p :=
  fn_sound (E := robot_between.E) (c := robot_between.body0) (ann := robot_between.ann) robot_between.ok Try.func97 (of_decide_eq_true (by kernel_rfl)) rfl rfl rfl (by decide +kernel) ((SubsOk_z _ _) : SubsOk robot_between.E robot_between.body0 robot_between.ann) (fun _ => rfl) rfl robot_between.eq

/-! ### armplan/robot.long: function 98 -/
noncomputable def robot_long.p0.round (v0 : Int) (v1 : Int) (v2 : Int) (v3 : Int) : Option ((Int × Int × Int × Int) ⊕ ((Bool) ⊕ (Unit))) :=
  (bif decide (v3 < (3 : Int)) then (bif decide (0 ≤ v3) then (bif decide (v3 < (3 : Int)) then (bif decide ((([v0, v1, v2] : List Int).getD v3.toNat 0) < (-4194304 : Int)) then some (.inr (.inl true)) else (bif decide ((([v0, v1, v2] : List Int).getD v3.toNat 0) > (4194304 : Int)) then some (.inr (.inl true)) else some (.inl (v0, v1, v2, (IntKind.wrap .i64 (v3 + (1 : Int))))))) else none) else none) else some (.inr (.inr ())))
noncomputable def robot_long.p0.step (s : Int × Int × Int × Int) : Option ((Int × Int × Int × Int) ⊕ ((Bool) ⊕ (Unit))) := robot_long.p0.round s.1 s.2.1 s.2.2.1 s.2.2.2
noncomputable def robot_long.p0.inS : Shape := ⟨[(5, .ag [.sc (.int .i64), .sc (.int .i64), .sc (.int .i64)]), (6, .lf (.sc (.int .i64)))], []⟩
noncomputable def robot_long.p0.w0 : Way := { ex := .rt, S := ⟨[(2, .lf (.sc .bool))], []⟩, R := Bool, post := fun r => ((r, ()), ()), un := fun x => x.1.1 }
noncomputable def robot_long.p0.w1 : Way := { ex := (.ex 0), S := ⟨[], []⟩, R := Unit, post := fun r => ((), ()), un := fun x => () }
noncomputable def robot_long.p0.outs : List Way := [robot_long.p0.w0, robot_long.p0.w1]
noncomputable def robot_long.p0.un (x : Tup robot_long.p0.inS) : Int × Int × Int × Int := (x.1.1.1, x.1.1.2.1, x.1.1.2.2.1, x.1.2.1)
noncomputable def robot_long.p0.lp : LProc := { inS := robot_long.p0.inS, outs := robot_long.p0.outs, F := fun x => loopF robot_long.p0.step (robot_long.p0.un x) }
noncomputable def robot_long.F0 (a0 : Int) (a1 : Int) (a2 : Int) : Option (Bool) :=
  ((loopF robot_long.p0.step (a0, a1, a2, (0 : Int))).bind fun y1 => (Sum.elim (fun y2 => some y2) (fun z3 => some false) y1))
noncomputable def robot_long.F : Int → Int → Int → Option (Bool) := lock robot_long.F0
theorem robot_long.F_eq : robot_long.F = robot_long.F0 := lock_eq _
noncomputable def robot_long.p : Proc := { nargs := 1, inS := ⟨[(0, .ag [.sc (.int .i64), .sc (.int .i64), .sc (.int .i64)])], []⟩, outS := ⟨[(0, .lf (.sc .bool))], []⟩, n0 := 0, R := Bool, F := fun x => robot_long.F x.1.1.1 x.1.1.2.1 x.1.1.2.2.1, post := fun r => ((r, ()), ()), un := fun x => x.1.1 }
noncomputable def robot_long.E : Env := { P := Try.prog, ty := tyTab [], glob := glob0, proc := procTab [], lproc := lprocTab [(0, robot_long.p0.lp)], n0 := 0, ntmps := 16 }
theorem robot_long.ok : ProcsOk robot_long.E := AllSound.ok (l := []) (by kernel_rfl) rfl trivial
noncomputable def robot_long.body0 : Code := (match Try.f98.body with | some c => c | none => .skip)
noncomputable def robot_long.p0.c : Code := ((codeAt robot_long.body0 [.r, .l, .r, .b, .b]).getD .skip)
noncomputable def robot_long.p0.ann : Ann := .z
set_option maxRecDepth 100000 in
theorem robot_long.p0.eq (x : Tup robot_long.p0.inS) : peRound robot_long.E robot_long.p0.c robot_long.p0.ann _ robot_long.p0.inS robot_long.p0.un robot_long.p0.outs x = robot_long.p0.step (robot_long.p0.un x) := by
  kernel_rfl
set_option maxRecDepth 100000 in
theorem robot_long.p0.sound : LProcSound robot_long.E (.loop robot_long.p0.c) robot_long.p0.lp :=
  loop_sound (c := robot_long.p0.c) (ann := robot_long.p0.ann) robot_long.ok ((SubsOk_z _ _) : SubsOk robot_long.E robot_long.p0.c robot_long.p0.ann) (by intro a ha; simp only [robot_long.p0.outs, List.mem_cons, List.not_mem_nil, or_false] at ha; rcases ha with rfl | rfl <;> exact fun _ => rfl) robot_long.p0.eq
noncomputable def robot_long.ann : Ann := .s (.z) (.s (.s (.z) (.b (.sub 0))) (.z))
set_option maxRecDepth 100000 in
theorem robot_long.eq (x : Tup robot_long.p.inS) : peFn robot_long.E Try.f98 robot_long.ann robot_long.p x = robot_long.p.F x := by
  have h : peFn robot_long.E Try.f98 robot_long.ann robot_long.p x = robot_long.F0 x.1.1.1 x.1.1.2.1 x.1.1.2.2.1 := by kernel_rfl
  exact h.trans (by show _ = robot_long.F x.1.1.1 x.1.1.2.1 x.1.1.2.2.1; rw [robot_long.F_eq])
set_option maxRecDepth 100000 in
theorem robot_long.sound : ProcSound Try.prog glob0 98 robot_long.p :=
  fn_sound (E := robot_long.E) (c := robot_long.body0) (ann := robot_long.ann) robot_long.ok Try.func98 (of_decide_eq_true (by kernel_rfl)) rfl rfl rfl (by decide +kernel) (⟨(SubsOk_z _ _), ⟨⟨(SubsOk_z _ _), (sub_of rfl robot_long.p0.sound)⟩, (SubsOk_z _ _)⟩⟩ : SubsOk robot_long.E robot_long.body0 robot_long.ann) (fun _ => rfl) rfl robot_long.eq

/-! ### armplan/scene.long$1: function 101 -/
noncomputable def scene_long_1.F0 (a0 : Int) : Option (Bool) :=
  (bif decide (a0 < (-4194304 : Int)) then some true else some (decide (a0 > (4194304 : Int))))
noncomputable def scene_long_1.F : Int → Option (Bool) := lock scene_long_1.F0
theorem scene_long_1.F_eq : scene_long_1.F = scene_long_1.F0 := lock_eq _
noncomputable def scene_long_1.p : Proc := { nargs := 1, inS := ⟨[(0, .lf (.sc (.int .i64)))], []⟩, outS := ⟨[(0, .lf (.sc .bool))], []⟩, n0 := 0, R := Bool, F := fun x => scene_long_1.F x.1.1, post := fun r => ((r, ()), ()), un := fun x => x.1.1 }
noncomputable def scene_long_1.E : Env := { P := Try.prog, ty := tyTab [], glob := glob0, proc := procTab [], lproc := lprocTab [], n0 := 0, ntmps := 9 }
theorem scene_long_1.ok : ProcsOk scene_long_1.E := AllSound.ok (l := []) (by kernel_rfl) rfl trivial
noncomputable def scene_long_1.body0 : Code := (match Try.f101.body with | some c => c | none => .skip)
noncomputable def scene_long_1.ann : Ann := .z
set_option maxRecDepth 100000 in
theorem scene_long_1.eq (x : Tup scene_long_1.p.inS) : peFn scene_long_1.E Try.f101 scene_long_1.ann scene_long_1.p x = scene_long_1.p.F x := by
  have h : peFn scene_long_1.E Try.f101 scene_long_1.ann scene_long_1.p x = scene_long_1.F0 x.1.1 := by kernel_rfl
  exact h.trans (by show _ = scene_long_1.F x.1.1; rw [scene_long_1.F_eq])
set_option maxRecDepth 100000 in
theorem scene_long_1.sound : ProcSound Try.prog glob0 101 scene_long_1.p :=
  fn_sound (E := scene_long_1.E) (c := scene_long_1.body0) (ann := scene_long_1.ann) scene_long_1.ok Try.func101 (of_decide_eq_true (by kernel_rfl)) rfl rfl rfl (by decide +kernel) ((SubsOk_z _ _) : SubsOk scene_long_1.E scene_long_1.body0 scene_long_1.ann) (fun _ => rfl) rfl scene_long_1.eq

/-! ### armplan/armplanref6.member: function 117 -/
noncomputable def armplanref6_member.p0.round (v0 : List (Int)) (v1 : Int) (v2 : Int) : Option ((List (Int) × Int × Int) ⊕ ((Bool) ⊕ (Unit))) :=
  (bif decide (v2 < (v0.length : Int)) then (bif decide (0 ≤ v2) then (bif decide (v2 < (v0.length : Int)) then (bif ((v0.getD v2.toNat (0 : Int)) == v1) then some (.inr (.inl true)) else some (.inl (v0, v1, (IntKind.wrap .i64 (v2 + (1 : Int)))))) else none) else none) else some (.inr (.inr ())))
noncomputable def armplanref6_member.p0.step (s : List (Int) × Int × Int) : Option ((List (Int) × Int × Int) ⊕ ((Bool) ⊕ (Unit))) := armplanref6_member.p0.round s.1 s.2.1 s.2.2
noncomputable def armplanref6_member.p0.inS : Shape := ⟨[(0, .lf (.dat (.int .i64))), (1, .lf (.sc (.int .i64))), (5, .lf (.sc (.int .i64)))], []⟩
noncomputable def armplanref6_member.p0.w0 : Way := { ex := .rt, S := ⟨[(4, .lf (.sc .bool))], []⟩, R := Bool, post := fun r => ((r, ()), ()), un := fun x => x.1.1 }
noncomputable def armplanref6_member.p0.w1 : Way := { ex := (.ex 0), S := ⟨[], []⟩, R := Unit, post := fun r => ((), ()), un := fun x => () }
noncomputable def armplanref6_member.p0.outs : List Way := [armplanref6_member.p0.w0, armplanref6_member.p0.w1]
noncomputable def armplanref6_member.p0.un (x : Tup armplanref6_member.p0.inS) : List (Int) × Int × Int := (x.1.1, x.1.2.1, x.1.2.2.1)
noncomputable def armplanref6_member.p0.lp : LProc := { inS := armplanref6_member.p0.inS, outs := armplanref6_member.p0.outs, F := fun x => loopF armplanref6_member.p0.step (armplanref6_member.p0.un x) }
noncomputable def armplanref6_member.F0 (a0 : List (Int)) (a1 : Int) : Option (Bool) :=
  ((loopF armplanref6_member.p0.step (a0, a1, (0 : Int))).bind fun y1 => (Sum.elim (fun y2 => some y2) (fun z3 => some false) y1))
noncomputable def armplanref6_member.F : (List (Int)) → Int → Option (Bool) := lock armplanref6_member.F0
theorem armplanref6_member.F_eq : armplanref6_member.F = armplanref6_member.F0 := lock_eq _
noncomputable def armplanref6_member.p : Proc := { nargs := 2, inS := ⟨[(0, .lf (.dat (.int .i64))), (1, .lf (.sc (.int .i64)))], []⟩, outS := ⟨[(0, .lf (.sc .bool))], []⟩, n0 := 0, R := Bool, F := fun x => armplanref6_member.F x.1.1 x.1.2.1, post := fun r => ((r, ()), ()), un := fun x => x.1.1 }
noncomputable def armplanref6_member.E : Env := { P := Try.prog, ty := tyTab [], glob := glob0, proc := procTab [], lproc := lprocTab [(0, armplanref6_member.p0.lp)], n0 := 0, ntmps := 18 }
theorem armplanref6_member.ok : ProcsOk armplanref6_member.E := AllSound.ok (l := []) (by kernel_rfl) rfl trivial
noncomputable def armplanref6_member.body0 : Code := (match Try.f117.body with | some c => c | none => .skip)
noncomputable def armplanref6_member.p0.c : Code := ((codeAt armplanref6_member.body0 [.r, .l, .r, .b, .b]).getD .skip)
noncomputable def armplanref6_member.p0.ann : Ann := .z
set_option maxRecDepth 100000 in
theorem armplanref6_member.p0.eq (x : Tup armplanref6_member.p0.inS) : peRound armplanref6_member.E armplanref6_member.p0.c armplanref6_member.p0.ann _ armplanref6_member.p0.inS armplanref6_member.p0.un armplanref6_member.p0.outs x = armplanref6_member.p0.step (armplanref6_member.p0.un x) := by
  kernel_rfl
set_option maxRecDepth 100000 in
theorem armplanref6_member.p0.sound : LProcSound armplanref6_member.E (.loop armplanref6_member.p0.c) armplanref6_member.p0.lp :=
  loop_sound (c := armplanref6_member.p0.c) (ann := armplanref6_member.p0.ann) armplanref6_member.ok ((SubsOk_z _ _) : SubsOk armplanref6_member.E armplanref6_member.p0.c armplanref6_member.p0.ann) (by intro a ha; simp only [armplanref6_member.p0.outs, List.mem_cons, List.not_mem_nil, or_false] at ha; rcases ha with rfl | rfl <;> exact fun _ => rfl) armplanref6_member.p0.eq
noncomputable def armplanref6_member.ann : Ann := .s (.z) (.s (.s (.z) (.b (.sub 0))) (.z))
set_option maxRecDepth 100000 in
theorem armplanref6_member.eq (x : Tup armplanref6_member.p.inS) : peFn armplanref6_member.E Try.f117 armplanref6_member.ann armplanref6_member.p x = armplanref6_member.p.F x := by
  have h : peFn armplanref6_member.E Try.f117 armplanref6_member.ann armplanref6_member.p x = armplanref6_member.F0 x.1.1 x.1.2.1 := by kernel_rfl
  exact h.trans (by show _ = armplanref6_member.F x.1.1 x.1.2.1; rw [armplanref6_member.F_eq])
set_option maxRecDepth 100000 in
theorem armplanref6_member.sound : ProcSound Try.prog glob0 117 armplanref6_member.p :=
  fn_sound (E := armplanref6_member.E) (c := armplanref6_member.body0) (ann := armplanref6_member.ann) armplanref6_member.ok Try.func117 (of_decide_eq_true (by kernel_rfl)) rfl rfl rfl (by decide +kernel) (⟨(SubsOk_z _ _), ⟨⟨(SubsOk_z _ _), (sub_of rfl armplanref6_member.p0.sound)⟩, (SubsOk_z _ _)⟩⟩ : SubsOk armplanref6_member.E armplanref6_member.body0 armplanref6_member.ann) (fun _ => rfl) rfl armplanref6_member.eq

/-! ### armplan/robot.bound: function 118 -/
noncomputable def robot_bound.F0 (a0 : Int) : Option (Int) :=
  (bif (a0 == (0 : Int)) then some (0 : Int) else (bif (a0 == (1 : Int)) then some (524288 : Int) else (bif (a0 == (2 : Int)) then some (524288 : Int) else (bif (a0 == (3 : Int)) then some (524288 : Int) else some (4194304 : Int)))))
noncomputable def robot_bound.F : Int → Option (Int) := lock robot_bound.F0
theorem robot_bound.F_eq : robot_bound.F = robot_bound.F0 := lock_eq _
noncomputable def robot_bound.p : Proc := { nargs := 1, inS := ⟨[(0, .lf (.sc (.int .i64)))], []⟩, outS := ⟨[(0, .lf (.sc (.int .i64)))], []⟩, n0 := 0, R := Int, F := fun x => robot_bound.F x.1.1, post := fun r => ((r, ()), ()), un := fun x => x.1.1 }
noncomputable def robot_bound.E : Env := { P := Try.prog, ty := tyTab [], glob := glob0, proc := procTab [], lproc := lprocTab [], n0 := 0, ntmps := 10 }
theorem robot_bound.ok : ProcsOk robot_bound.E := AllSound.ok (l := []) (by kernel_rfl) rfl trivial
noncomputable def robot_bound.body0 : Code := (match Try.f118.body with | some c => c | none => .skip)
noncomputable def robot_bound.ann : Ann := .z
set_option maxRecDepth 100000 in
theorem robot_bound.eq (x : Tup robot_bound.p.inS) : peFn robot_bound.E Try.f118 robot_bound.ann robot_bound.p x = robot_bound.p.F x := by
  have h : peFn robot_bound.E Try.f118 robot_bound.ann robot_bound.p x = robot_bound.F0 x.1.1 := by kernel_rfl
  exact h.trans (by show _ = robot_bound.F x.1.1; rw [robot_bound.F_eq])
set_option maxRecDepth 100000 in
theorem robot_bound.sound : ProcSound Try.prog glob0 118 robot_bound.p :=
  fn_sound (E := robot_bound.E) (c := robot_bound.body0) (ann := robot_bound.ann) robot_bound.ok Try.func118 (of_decide_eq_true (by kernel_rfl)) rfl rfl rfl (by decide +kernel) ((SubsOk_z _ _) : SubsOk robot_bound.E robot_bound.body0 robot_bound.ann) (fun _ => rfl) rfl robot_bound.eq

/-! ### armplan/token.Name: function 119 -/
noncomputable def token_Name.p0.round (v0 : ByteArray) (v1 : ByteArray) (v2 : Int) : Option ((ByteArray × ByteArray × Int) ⊕ ((Bool) ⊕ (ByteArray))) :=
  (bif decide (v2 < (v1.size : Int)) then (bif decide ((rnC v1 v2) ≥ (97 : Int)) then (bif (!decide ((rnC v1 v2) ≤ (122 : Int))) then (bif (v2 == (0 : Int)) then some (.inr (.inl false)) else (bif ((rnC v1 v2) != (95 : Int)) then (bif decide ((rnC v1 v2) < (48 : Int)) then some (.inr (.inl false)) else (bif decide ((rnC v1 v2) > (57 : Int)) then some (.inr (.inl false)) else some (.inl (v0, v1, (v2 + rnW v1 v2))))) else some (.inl (v0, v1, (v2 + rnW v1 v2))))) else some (.inl (v0, v1, (v2 + rnW v1 v2)))) else (bif (v2 == (0 : Int)) then some (.inr (.inl false)) else (bif ((rnC v1 v2) != (95 : Int)) then (bif decide ((rnC v1 v2) < (48 : Int)) then some (.inr (.inl false)) else (bif decide ((rnC v1 v2) > (57 : Int)) then some (.inr (.inl false)) else some (.inl (v0, v1, (v2 + rnW v1 v2))))) else some (.inl (v0, v1, (v2 + rnW v1 v2)))))) else some (.inr (.inr v0)))
noncomputable def token_Name.p0.step (s : ByteArray × ByteArray × Int) : Option ((ByteArray × ByteArray × Int) ⊕ ((Bool) ⊕ (ByteArray))) := token_Name.p0.round s.1 s.2.1 s.2.2
noncomputable def token_Name.p0.inS : Shape := ⟨[(0, .lf (.sc .str)), (7, .lf (.bp 0 0))], [.iter]⟩
noncomputable def token_Name.p0.w0 : Way := { ex := .rt, S := ⟨[(2, .lf (.sc .bool))], []⟩, R := Bool, post := fun r => ((r, ()), ()), un := fun x => x.1.1 }
noncomputable def token_Name.p0.w1 : Way := { ex := (.ex 0), S := ⟨[(0, .lf (.sc .str))], []⟩, R := ByteArray, post := fun r => ((r, ()), ()), un := fun x => x.1.1 }
noncomputable def token_Name.p0.outs : List Way := [token_Name.p0.w0, token_Name.p0.w1]
noncomputable def token_Name.p0.un (x : Tup token_Name.p0.inS) : ByteArray × ByteArray × Int := (x.1.1, x.2.1.1, x.2.1.2)
noncomputable def token_Name.p0.lp : LProc := { inS := token_Name.p0.inS, outs := token_Name.p0.outs, F := fun x => loopF token_Name.p0.step (token_Name.p0.un x) }
noncomputable def token_Name.F0 (a0 : ByteArray) : Option (Bool) :=
  ((loopF token_Name.p0.step (a0, a0, (0 : Int))).bind fun y1 => (Sum.elim (fun y2 => some y2) (fun z3 => (bif decide ((z3.size : Int) ≥ (1 : Int)) then (bif decide ((z3.size : Int) ≤ (16 : Int)) then some (!(eqS z3 (⟨#[119, 111, 114, 108, 100]⟩ : ByteArray))) else some false) else some false)) y1))
noncomputable def token_Name.F : ByteArray → Option (Bool) := lock token_Name.F0
theorem token_Name.F_eq : token_Name.F = token_Name.F0 := lock_eq _
noncomputable def token_Name.p : Proc := { nargs := 1, inS := ⟨[(0, .lf (.sc .str))], []⟩, outS := ⟨[(0, .lf (.sc .bool))], []⟩, n0 := 0, R := Bool, F := fun x => token_Name.F x.1.1, post := fun r => ((r, ()), ()), un := fun x => x.1.1 }
noncomputable def token_Name.E : Env := { P := Try.prog, ty := tyTab [], glob := glob0, proc := procTab [], lproc := lprocTab [(0, token_Name.p0.lp)], n0 := 0, ntmps := 48 }
theorem token_Name.ok : ProcsOk token_Name.E := AllSound.ok (l := []) (by kernel_rfl) rfl trivial
noncomputable def token_Name.body0 : Code := (match Try.f119.body with | some c => c | none => .skip)
noncomputable def token_Name.p0.c : Code := ((codeAt token_Name.body0 [.r, .l, .r, .b, .b]).getD .skip)
noncomputable def token_Name.p0.ann : Ann := .z
set_option maxRecDepth 100000 in
theorem token_Name.p0.eq (x : Tup token_Name.p0.inS) : peRound token_Name.E token_Name.p0.c token_Name.p0.ann _ token_Name.p0.inS token_Name.p0.un token_Name.p0.outs x = token_Name.p0.step (token_Name.p0.un x) := by
  kernel_rfl
set_option maxRecDepth 100000 in
theorem token_Name.p0.sound : LProcSound token_Name.E (.loop token_Name.p0.c) token_Name.p0.lp :=
  loop_sound (c := token_Name.p0.c) (ann := token_Name.p0.ann) token_Name.ok ((SubsOk_z _ _) : SubsOk token_Name.E token_Name.p0.c token_Name.p0.ann) (by intro a ha; simp only [token_Name.p0.outs, List.mem_cons, List.not_mem_nil, or_false] at ha; rcases ha with rfl | rfl <;> exact fun _ => rfl) token_Name.p0.eq
noncomputable def token_Name.ann : Ann := .s (.z) (.s (.s (.z) (.b (.sub 0))) (.z))
set_option maxRecDepth 100000 in
theorem token_Name.eq (x : Tup token_Name.p.inS) : peFn token_Name.E Try.f119 token_Name.ann token_Name.p x = token_Name.p.F x := by
  have h : peFn token_Name.E Try.f119 token_Name.ann token_Name.p x = token_Name.F0 x.1.1 := by kernel_rfl
  exact h.trans (by show _ = token_Name.F x.1.1; rw [token_Name.F_eq])
set_option maxRecDepth 100000 in
theorem token_Name.sound : ProcSound Try.prog glob0 119 token_Name.p :=
  fn_sound (E := token_Name.E) (c := token_Name.body0) (ann := token_Name.ann) token_Name.ok Try.func119 (of_decide_eq_true (by kernel_rfl)) rfl rfl rfl (by decide +kernel) (⟨(SubsOk_z _ _), ⟨⟨(SubsOk_z _ _), (sub_of rfl token_Name.p0.sound)⟩, (SubsOk_z _ _)⟩⟩ : SubsOk token_Name.E token_Name.body0 token_Name.ann) (fun _ => rfl) rfl token_Name.eq

/-! ### armplan/robot.place$1: function 133 -/
noncomputable def robot_place_1.F0 (a0 : ByteArray) (a1 : Int) (a2 : Int) (a3 : Int) (a4 : Int) (a5 : Int) (a6 : Int) (a7 : Int) (a8 : Int) (a9 : Int) (a10 : Int) (a11 : Int) (a12 : ByteArray) : Option (Bool × ByteArray) :=
  some ((eqS a0 a12), a12)
noncomputable def robot_place_1.F : ByteArray → Int → Int → Int → Int → Int → Int → Int → Int → Int → Int → Int → ByteArray → Option (Bool × ByteArray) := lock robot_place_1.F0
theorem robot_place_1.F_eq : robot_place_1.F = robot_place_1.F0 := lock_eq _
noncomputable def robot_place_1.p : Proc := { nargs := 2, inS := ⟨[(0, .ag [.sc .str, .sc (.int .i64), .sc (.int .i64), .sc (.int .i64), .sc (.int .i64), .sc (.int .i64), .sc (.int .i64), .sc (.int .i64), .sc (.int .i64), .sc (.int .i64), .sc (.int .i64), .sc (.int .i64)]), (1, .lf (.bp 0 0))], [.box [.sc .str]]⟩, outS := ⟨[(0, .lf (.sc .bool))], [.box [.sc .str]]⟩, n0 := 1, R := Bool × ByteArray, F := fun x => robot_place_1.F x.1.1.1 x.1.1.2.1 x.1.1.2.2.1 x.1.1.2.2.2.1 x.1.1.2.2.2.2.1 x.1.1.2.2.2.2.2.1 x.1.1.2.2.2.2.2.2.1 x.1.1.2.2.2.2.2.2.2.1 x.1.1.2.2.2.2.2.2.2.2.1 x.1.1.2.2.2.2.2.2.2.2.2.1 x.1.1.2.2.2.2.2.2.2.2.2.2.1 x.1.1.2.2.2.2.2.2.2.2.2.2.2.1 x.2.1.1, post := fun r => ((r.1, ()), ((r.2, ()), ())), un := fun x => (x.1.1, x.2.1.1) }
noncomputable def robot_place_1.E : Env := { P := Try.prog, ty := tyTab [], glob := glob0, proc := procTab [], lproc := lprocTab [], n0 := 1, ntmps := 8 }
theorem robot_place_1.ok : ProcsOk robot_place_1.E := AllSound.ok (l := []) (by kernel_rfl) rfl trivial
noncomputable def robot_place_1.body0 : Code := (match Try.f133.body with | some c => c | none => .skip)
noncomputable def robot_place_1.ann : Ann := .z
set_option maxRecDepth 100000 in
theorem robot_place_1.eq (x : Tup robot_place_1.p.inS) : peFn robot_place_1.E Try.f133 robot_place_1.ann robot_place_1.p x = robot_place_1.p.F x := by
  have h : peFn robot_place_1.E Try.f133 robot_place_1.ann robot_place_1.p x = robot_place_1.F0 x.1.1.1 x.1.1.2.1 x.1.1.2.2.1 x.1.1.2.2.2.1 x.1.1.2.2.2.2.1 x.1.1.2.2.2.2.2.1 x.1.1.2.2.2.2.2.2.1 x.1.1.2.2.2.2.2.2.2.1 x.1.1.2.2.2.2.2.2.2.2.1 x.1.1.2.2.2.2.2.2.2.2.2.1 x.1.1.2.2.2.2.2.2.2.2.2.2.1 x.1.1.2.2.2.2.2.2.2.2.2.2.2.1 x.2.1.1 := by kernel_rfl
  exact h.trans (by show _ = robot_place_1.F x.1.1.1 x.1.1.2.1 x.1.1.2.2.1 x.1.1.2.2.2.1 x.1.1.2.2.2.2.1 x.1.1.2.2.2.2.2.1 x.1.1.2.2.2.2.2.2.1 x.1.1.2.2.2.2.2.2.2.1 x.1.1.2.2.2.2.2.2.2.2.1 x.1.1.2.2.2.2.2.2.2.2.2.1 x.1.1.2.2.2.2.2.2.2.2.2.2.1 x.1.1.2.2.2.2.2.2.2.2.2.2.2.1 x.2.1.1; rw [robot_place_1.F_eq])
set_option maxRecDepth 100000 in
theorem robot_place_1.sound : ProcSound Try.prog glob0 133 robot_place_1.p :=
  fn_sound (E := robot_place_1.E) (c := robot_place_1.body0) (ann := robot_place_1.ann) robot_place_1.ok Try.func133 (of_decide_eq_true (by kernel_rfl)) rfl rfl rfl (by decide +kernel) ((SubsOk_z _ _) : SubsOk robot_place_1.E robot_place_1.body0 robot_place_1.ann) (fun _ => rfl) rfl robot_place_1.eq

/-! ### slices.IndexFunc[[]armplan/api.Joint,armplan/api.Joint]: function 132 -/
noncomputable def slices_IndexFunc_Joint__robot_place_1.p0.round (v0 : List ((ByteArray × (Int × (Int × ((Int × (Int × Int)) × (Int × (Int × (Int × (Int × (Int × Int))))))))))) (v1 : Int) (v2 : Int) (v3 : ByteArray) : Option ((List ((ByteArray × (Int × (Int × ((Int × (Int × Int)) × (Int × (Int × (Int × (Int × (Int × Int)))))))))) × Int × Int × ByteArray) ⊕ ((Int × ByteArray) ⊕ (ByteArray))) :=
  (bif decide (v2 < v1) then (bif decide (0 ≤ v2) then (bif decide (v2 < (v0.length : Int)) then ((robot_place_1.F (v0.getD v2.toNat ((⟨#[]⟩ : ByteArray), ((0 : Int), ((0 : Int), (((0 : Int), ((0 : Int), (0 : Int))), ((0 : Int), ((0 : Int), ((0 : Int), ((0 : Int), ((0 : Int), (0 : Int))))))))))).1 ((v0.getD v2.toNat ((⟨#[]⟩ : ByteArray), ((0 : Int), ((0 : Int), (((0 : Int), ((0 : Int), (0 : Int))), ((0 : Int), ((0 : Int), ((0 : Int), ((0 : Int), ((0 : Int), (0 : Int))))))))))).2).1 (((v0.getD v2.toNat ((⟨#[]⟩ : ByteArray), ((0 : Int), ((0 : Int), (((0 : Int), ((0 : Int), (0 : Int))), ((0 : Int), ((0 : Int), ((0 : Int), ((0 : Int), ((0 : Int), (0 : Int))))))))))).2).2).1 (((((v0.getD v2.toNat ((⟨#[]⟩ : ByteArray), ((0 : Int), ((0 : Int), (((0 : Int), ((0 : Int), (0 : Int))), ((0 : Int), ((0 : Int), ((0 : Int), ((0 : Int), ((0 : Int), (0 : Int))))))))))).2).2).2).1).1 ((((((v0.getD v2.toNat ((⟨#[]⟩ : ByteArray), ((0 : Int), ((0 : Int), (((0 : Int), ((0 : Int), (0 : Int))), ((0 : Int), ((0 : Int), ((0 : Int), ((0 : Int), ((0 : Int), (0 : Int))))))))))).2).2).2).1).2).1 ((((((v0.getD v2.toNat ((⟨#[]⟩ : ByteArray), ((0 : Int), ((0 : Int), (((0 : Int), ((0 : Int), (0 : Int))), ((0 : Int), ((0 : Int), ((0 : Int), ((0 : Int), ((0 : Int), (0 : Int))))))))))).2).2).2).1).2).2 (((((v0.getD v2.toNat ((⟨#[]⟩ : ByteArray), ((0 : Int), ((0 : Int), (((0 : Int), ((0 : Int), (0 : Int))), ((0 : Int), ((0 : Int), ((0 : Int), ((0 : Int), ((0 : Int), (0 : Int))))))))))).2).2).2).2).1 ((((((v0.getD v2.toNat ((⟨#[]⟩ : ByteArray), ((0 : Int), ((0 : Int), (((0 : Int), ((0 : Int), (0 : Int))), ((0 : Int), ((0 : Int), ((0 : Int), ((0 : Int), ((0 : Int), (0 : Int))))))))))).2).2).2).2).2).1 (((((((v0.getD v2.toNat ((⟨#[]⟩ : ByteArray), ((0 : Int), ((0 : Int), (((0 : Int), ((0 : Int), (0 : Int))), ((0 : Int), ((0 : Int), ((0 : Int), ((0 : Int), ((0 : Int), (0 : Int))))))))))).2).2).2).2).2).2).1 ((((((((v0.getD v2.toNat ((⟨#[]⟩ : ByteArray), ((0 : Int), ((0 : Int), (((0 : Int), ((0 : Int), (0 : Int))), ((0 : Int), ((0 : Int), ((0 : Int), ((0 : Int), ((0 : Int), (0 : Int))))))))))).2).2).2).2).2).2).2).1 (((((((((v0.getD v2.toNat ((⟨#[]⟩ : ByteArray), ((0 : Int), ((0 : Int), (((0 : Int), ((0 : Int), (0 : Int))), ((0 : Int), ((0 : Int), ((0 : Int), ((0 : Int), ((0 : Int), (0 : Int))))))))))).2).2).2).2).2).2).2).2).1 (((((((((v0.getD v2.toNat ((⟨#[]⟩ : ByteArray), ((0 : Int), ((0 : Int), (((0 : Int), ((0 : Int), (0 : Int))), ((0 : Int), ((0 : Int), ((0 : Int), ((0 : Int), ((0 : Int), (0 : Int))))))))))).2).2).2).2).2).2).2).2).2 v3).bind fun r2 => (bif r2.1 then some (.inr (.inl (v2, r2.2))) else some (.inl (v0, v1, (IntKind.wrap .i64 (v2 + (1 : Int))), r2.2)))) else none) else none) else some (.inr (.inr v3)))
noncomputable def slices_IndexFunc_Joint__robot_place_1.p0.step (s : List ((ByteArray × (Int × (Int × ((Int × (Int × Int)) × (Int × (Int × (Int × (Int × (Int × Int)))))))))) × Int × Int × ByteArray) : Option ((List ((ByteArray × (Int × (Int × ((Int × (Int × Int)) × (Int × (Int × (Int × (Int × (Int × Int)))))))))) × Int × Int × ByteArray) ⊕ ((Int × ByteArray) ⊕ (ByteArray))) := slices_IndexFunc_Joint__robot_place_1.p0.round s.1 s.2.1 s.2.2.1 s.2.2.2
noncomputable def slices_IndexFunc_Joint__robot_place_1.p0.inS : Shape := ⟨[(0, .lf (.dat tyJ)), (1, .lf (.fn 133 [0])), (7, .lf (.sc (.int .i64))), (8, .lf (.sc (.int .i64)))], [.box [.sc .str]]⟩
noncomputable def slices_IndexFunc_Joint__robot_place_1.p0.w0 : Way := { ex := .rt, S := ⟨[(4, .lf (.sc (.int .i64)))], [.box [.sc .str]]⟩, R := Int × ByteArray, post := fun r => ((r.1, ()), ((r.2, ()), ())), un := fun x => (x.1.1, x.2.1.1) }
noncomputable def slices_IndexFunc_Joint__robot_place_1.p0.w1 : Way := { ex := (.ex 0), S := ⟨[], [.box [.sc .str]]⟩, R := ByteArray, post := fun r => ((), ((r, ()), ())), un := fun x => x.2.1.1 }
noncomputable def slices_IndexFunc_Joint__robot_place_1.p0.outs : List Way := [slices_IndexFunc_Joint__robot_place_1.p0.w0, slices_IndexFunc_Joint__robot_place_1.p0.w1]
noncomputable def slices_IndexFunc_Joint__robot_place_1.p0.un (x : Tup slices_IndexFunc_Joint__robot_place_1.p0.inS) : List ((ByteArray × (Int × (Int × ((Int × (Int × Int)) × (Int × (Int × (Int × (Int × (Int × Int)))))))))) × Int × Int × ByteArray := (x.1.1, x.1.2.2.1, x.1.2.2.2.1, x.2.1.1)
noncomputable def slices_IndexFunc_Joint__robot_place_1.p0.lp : LProc := { inS := slices_IndexFunc_Joint__robot_place_1.p0.inS, outs := slices_IndexFunc_Joint__robot_place_1.p0.outs, F := fun x => loopF slices_IndexFunc_Joint__robot_place_1.p0.step (slices_IndexFunc_Joint__robot_place_1.p0.un x) }
noncomputable def slices_IndexFunc_Joint__robot_place_1.F0 (a0 : List ((ByteArray × (Int × (Int × ((Int × (Int × Int)) × (Int × (Int × (Int × (Int × (Int × Int))))))))))) (a1 : ByteArray) : Option (Int × ByteArray) :=
  ((loopF slices_IndexFunc_Joint__robot_place_1.p0.step (a0, (a0.length : Int), (0 : Int), a1)).bind fun y3 => (Sum.elim (fun y4 => some (y4.1, y4.2)) (fun z5 => some ((-1 : Int), z5)) y3))
noncomputable def slices_IndexFunc_Joint__robot_place_1.F : (List ((ByteArray × (Int × (Int × ((Int × (Int × Int)) × (Int × (Int × (Int × (Int × (Int × Int))))))))))) → ByteArray → Option (Int × ByteArray) := lock slices_IndexFunc_Joint__robot_place_1.F0
theorem slices_IndexFunc_Joint__robot_place_1.F_eq : slices_IndexFunc_Joint__robot_place_1.F = slices_IndexFunc_Joint__robot_place_1.F0 := lock_eq _
noncomputable def slices_IndexFunc_Joint__robot_place_1.p : Proc := { nargs := 2, inS := ⟨[(0, .lf (.dat tyJ)), (1, .lf (.fn 133 [0]))], [.box [.sc .str]]⟩, outS := ⟨[(0, .lf (.sc (.int .i64)))], [.box [.sc .str]]⟩, n0 := 1, R := Int × ByteArray, F := fun x => slices_IndexFunc_Joint__robot_place_1.F x.1.1 x.2.1.1, post := fun r => ((r.1, ()), ((r.2, ()), ())), un := fun x => (x.1.1, x.2.1.1) }
noncomputable def slices_IndexFunc_Joint__robot_place_1.E : Env := { P := Try.prog, ty := tyTab [], glob := glob0, proc := procTab [(133, robot_place_1.p)], lproc := lprocTab [(0, slices_IndexFunc_Joint__robot_place_1.p0.lp)], n0 := 1, ntmps := 19 }
theorem slices_IndexFunc_Joint__robot_place_1.ok : ProcsOk slices_IndexFunc_Joint__robot_place_1.E := AllSound.ok (l := [(133, robot_place_1.p)]) (by kernel_rfl) rfl ⟨robot_place_1.sound, trivial⟩
noncomputable def slices_IndexFunc_Joint__robot_place_1.body0 : Code := (match Try.f132.body with | some c => c | none => .skip)
noncomputable def slices_IndexFunc_Joint__robot_place_1.p0.c : Code := ((codeAt slices_IndexFunc_Joint__robot_place_1.body0 [.r, .l, .r, .b, .b]).getD .skip)
noncomputable def slices_IndexFunc_Joint__robot_place_1.p0.ann : Ann := .z
set_option maxRecDepth 100000 in
theorem slices_IndexFunc_Joint__robot_place_1.p0.eq (x : Tup slices_IndexFunc_Joint__robot_place_1.p0.inS) : peRound slices_IndexFunc_Joint__robot_place_1.E slices_IndexFunc_Joint__robot_place_1.p0.c slices_IndexFunc_Joint__robot_place_1.p0.ann _ slices_IndexFunc_Joint__robot_place_1.p0.inS slices_IndexFunc_Joint__robot_place_1.p0.un slices_IndexFunc_Joint__robot_place_1.p0.outs x = slices_IndexFunc_Joint__robot_place_1.p0.step (slices_IndexFunc_Joint__robot_place_1.p0.un x) := by
  kernel_rfl
set_option maxRecDepth 100000 in
theorem slices_IndexFunc_Joint__robot_place_1.p0.sound : LProcSound slices_IndexFunc_Joint__robot_place_1.E (.loop slices_IndexFunc_Joint__robot_place_1.p0.c) slices_IndexFunc_Joint__robot_place_1.p0.lp :=
  loop_sound (c := slices_IndexFunc_Joint__robot_place_1.p0.c) (ann := slices_IndexFunc_Joint__robot_place_1.p0.ann) slices_IndexFunc_Joint__robot_place_1.ok ((SubsOk_z _ _) : SubsOk slices_IndexFunc_Joint__robot_place_1.E slices_IndexFunc_Joint__robot_place_1.p0.c slices_IndexFunc_Joint__robot_place_1.p0.ann) (by intro a ha; simp only [slices_IndexFunc_Joint__robot_place_1.p0.outs, List.mem_cons, List.not_mem_nil, or_false] at ha; rcases ha with rfl | rfl <;> exact fun _ => rfl) slices_IndexFunc_Joint__robot_place_1.p0.eq
noncomputable def slices_IndexFunc_Joint__robot_place_1.ann : Ann := .s (.z) (.s (.s (.z) (.b (.sub 0))) (.z))
set_option maxRecDepth 100000 in
theorem slices_IndexFunc_Joint__robot_place_1.eq (x : Tup slices_IndexFunc_Joint__robot_place_1.p.inS) : peFn slices_IndexFunc_Joint__robot_place_1.E Try.f132 slices_IndexFunc_Joint__robot_place_1.ann slices_IndexFunc_Joint__robot_place_1.p x = slices_IndexFunc_Joint__robot_place_1.p.F x := by
  have h : peFn slices_IndexFunc_Joint__robot_place_1.E Try.f132 slices_IndexFunc_Joint__robot_place_1.ann slices_IndexFunc_Joint__robot_place_1.p x = slices_IndexFunc_Joint__robot_place_1.F0 x.1.1 x.2.1.1 := by kernel_rfl
  exact h.trans (by show _ = slices_IndexFunc_Joint__robot_place_1.F x.1.1 x.2.1.1; rw [slices_IndexFunc_Joint__robot_place_1.F_eq])
set_option maxRecDepth 100000 in
theorem slices_IndexFunc_Joint__robot_place_1.sound : ProcSound Try.prog glob0 132 slices_IndexFunc_Joint__robot_place_1.p :=
  fn_sound (E := slices_IndexFunc_Joint__robot_place_1.E) (c := slices_IndexFunc_Joint__robot_place_1.body0) (ann := slices_IndexFunc_Joint__robot_place_1.ann) slices_IndexFunc_Joint__robot_place_1.ok Try.func132 (of_decide_eq_true (by kernel_rfl)) rfl rfl rfl (by decide +kernel) (⟨(SubsOk_z _ _), ⟨⟨(SubsOk_z _ _), (sub_of rfl slices_IndexFunc_Joint__robot_place_1.p0.sound)⟩, (SubsOk_z _ _)⟩⟩ : SubsOk slices_IndexFunc_Joint__robot_place_1.E slices_IndexFunc_Joint__robot_place_1.body0 slices_IndexFunc_Joint__robot_place_1.ann) (fun _ => rfl) rfl slices_IndexFunc_Joint__robot_place_1.eq

/-! ### armplan/robot.place: function 120 -/
noncomputable def robot_place.F0 (a0 : List ((ByteArray × (Int × (Int × ((Int × (Int × Int)) × (Int × (Int × (Int × (Int × (Int × Int))))))))))) (a1 : ByteArray) : Option (Int) :=
  ((slices_IndexFunc_Joint__robot_place_1.F a0 a1).bind fun r1 => some r1.1)
noncomputable def robot_place.F : (List ((ByteArray × (Int × (Int × ((Int × (Int × Int)) × (Int × (Int × (Int × (Int × (Int × Int))))))))))) → ByteArray → Option (Int) := lock robot_place.F0
theorem robot_place.F_eq : robot_place.F = robot_place.F0 := lock_eq _
noncomputable def robot_place.p : Proc := { nargs := 2, inS := ⟨[(0, .lf (.dat tyJ)), (1, .lf (.sc .str))], []⟩, outS := ⟨[(0, .lf (.sc (.int .i64)))], []⟩, n0 := 0, R := Int, F := fun x => robot_place.F x.1.1 x.1.2.1, post := fun r => ((r, ()), ()), un := fun x => x.1.1 }
noncomputable def robot_place.E : Env := { P := Try.prog, ty := tyTab [(84, tyJ)], glob := glob0, proc := procTab [(132, slices_IndexFunc_Joint__robot_place_1.p)], lproc := lprocTab [], n0 := 0, ntmps := 8 }
theorem robot_place.ok : ProcsOk robot_place.E := AllSound.ok (l := [(132, slices_IndexFunc_Joint__robot_place_1.p)]) (by kernel_rfl) rfl ⟨slices_IndexFunc_Joint__robot_place_1.sound, trivial⟩
noncomputable def robot_place.body0 : Code := (match Try.f120.body with | some c => c | none => .skip)
noncomputable def robot_place.ann : Ann := .z
set_option maxRecDepth 100000 in
theorem robot_place.eq (x : Tup robot_place.p.inS) : peFn robot_place.E Try.f120 robot_place.ann robot_place.p x = robot_place.p.F x := by
  have h : peFn robot_place.E Try.f120 robot_place.ann robot_place.p x = robot_place.F0 x.1.1 x.1.2.1 := by kernel_rfl
  exact h.trans (by show _ = robot_place.F x.1.1 x.1.2.1; rw [robot_place.F_eq])
set_option maxRecDepth 100000 in
theorem robot_place.sound : ProcSound Try.prog glob0 120 robot_place.p :=
  fn_sound (E := robot_place.E) (c := robot_place.body0) (ann := robot_place.ann) robot_place.ok Try.func120 (of_decide_eq_true (by kernel_rfl)) rfl rfl rfl (by decide +kernel) ((SubsOk_z _ _) : SubsOk robot_place.E robot_place.body0 robot_place.ann) (fun _ => rfl) rfl robot_place.eq

/-! ### armplan/armplanref6.Name: function 122 -/
noncomputable def armplanref6_Name.p0.round (v0 : ByteArray) (v1 : Int) : Option ((ByteArray × Int) ⊕ ((Bool) ⊕ (Unit))) :=
  (bif decide (v1 < (v0.size : Int)) then (bif decide (0 ≤ v1) then (bif decide (v1 < (v0.size : Int)) then (bif decide ((btI v0 v1) ≥ (97 : Int)) then (bif decide (0 ≤ v1) then (bif decide (v1 < (v0.size : Int)) then (bif (!decide ((btI v0 v1) ≤ (122 : Int))) then (bif (v1 == (0 : Int)) then some (.inr (.inl false)) else (bif decide (0 ≤ v1) then (bif decide (v1 < (v0.size : Int)) then (bif ((btI v0 v1) != (95 : Int)) then (bif decide (0 ≤ v1) then (bif decide (v1 < (v0.size : Int)) then (bif decide ((btI v0 v1) < (48 : Int)) then some (.inr (.inl false)) else (bif decide (0 ≤ v1) then (bif decide (v1 < (v0.size : Int)) then (bif decide ((btI v0 v1) > (57 : Int)) then some (.inr (.inl false)) else some (.inl (v0, (IntKind.wrap .i64 (v1 + (1 : Int)))))) else none) else none)) else none) else none) else some (.inl (v0, (IntKind.wrap .i64 (v1 + (1 : Int)))))) else none) else none)) else some (.inl (v0, (IntKind.wrap .i64 (v1 + (1 : Int)))))) else none) else none) else (bif (v1 == (0 : Int)) then some (.inr (.inl false)) else (bif decide (0 ≤ v1) then (bif decide (v1 < (v0.size : Int)) then (bif ((btI v0 v1) != (95 : Int)) then (bif decide (0 ≤ v1) then (bif decide (v1 < (v0.size : Int)) then (bif decide ((btI v0 v1) < (48 : Int)) then some (.inr (.inl false)) else (bif decide (0 ≤ v1) then (bif decide (v1 < (v0.size : Int)) then (bif decide ((btI v0 v1) > (57 : Int)) then some (.inr (.inl false)) else some (.inl (v0, (IntKind.wrap .i64 (v1 + (1 : Int)))))) else none) else none)) else none) else none) else some (.inl (v0, (IntKind.wrap .i64 (v1 + (1 : Int)))))) else none) else none))) else none) else none) else some (.inr (.inr ())))
noncomputable def armplanref6_Name.p0.step (s : ByteArray × Int) : Option ((ByteArray × Int) ⊕ ((Bool) ⊕ (Unit))) := armplanref6_Name.p0.round s.1 s.2
noncomputable def armplanref6_Name.p0.inS : Shape := ⟨[(0, .lf (.sc .str)), (3, .lf (.sc (.int .i64)))], []⟩
noncomputable def armplanref6_Name.p0.w0 : Way := { ex := .rt, S := ⟨[(2, .lf (.sc .bool))], []⟩, R := Bool, post := fun r => ((r, ()), ()), un := fun x => x.1.1 }
noncomputable def armplanref6_Name.p0.w1 : Way := { ex := (.ex 0), S := ⟨[], []⟩, R := Unit, post := fun r => ((), ()), un := fun x => () }
noncomputable def armplanref6_Name.p0.outs : List Way := [armplanref6_Name.p0.w0, armplanref6_Name.p0.w1]
noncomputable def armplanref6_Name.p0.un (x : Tup armplanref6_Name.p0.inS) : ByteArray × Int := (x.1.1, x.1.2.1)
noncomputable def armplanref6_Name.p0.lp : LProc := { inS := armplanref6_Name.p0.inS, outs := armplanref6_Name.p0.outs, F := fun x => loopF armplanref6_Name.p0.step (armplanref6_Name.p0.un x) }
noncomputable def armplanref6_Name.F0 (a0 : ByteArray) : Option (Bool) :=
  (bif decide ((a0.size : Int) < (1 : Int)) then some false else (bif decide ((a0.size : Int) > (16 : Int)) then some false else (bif (eqS a0 (⟨#[119, 111, 114, 108, 100]⟩ : ByteArray)) then some false else ((loopF armplanref6_Name.p0.step (a0, (0 : Int))).bind fun y1 => (Sum.elim (fun y2 => some y2) (fun z3 => some true) y1)))))
noncomputable def armplanref6_Name.F : ByteArray → Option (Bool) := lock armplanref6_Name.F0
theorem armplanref6_Name.F_eq : armplanref6_Name.F = armplanref6_Name.F0 := lock_eq _
noncomputable def armplanref6_Name.p : Proc := { nargs := 1, inS := ⟨[(0, .lf (.sc .str))], []⟩, outS := ⟨[(0, .lf (.sc .bool))], []⟩, n0 := 0, R := Bool, F := fun x => armplanref6_Name.F x.1.1, post := fun r => ((r, ()), ()), un := fun x => x.1.1 }
noncomputable def armplanref6_Name.E : Env := { P := Try.prog, ty := tyTab [], glob := glob0, proc := procTab [], lproc := lprocTab [(0, armplanref6_Name.p0.lp)], n0 := 0, ntmps := 57 }
theorem armplanref6_Name.ok : ProcsOk armplanref6_Name.E := AllSound.ok (l := []) (by kernel_rfl) rfl trivial
noncomputable def armplanref6_Name.body0 : Code := (match Try.f122.body with | some c => c | none => .skip)
noncomputable def armplanref6_Name.p0.c : Code := ((codeAt armplanref6_Name.body0 [.r, .r, .l, .r, .b, .b]).getD .skip)
noncomputable def armplanref6_Name.p0.ann : Ann := .z
set_option maxRecDepth 100000 in
theorem armplanref6_Name.p0.eq (x : Tup armplanref6_Name.p0.inS) : peRound armplanref6_Name.E armplanref6_Name.p0.c armplanref6_Name.p0.ann _ armplanref6_Name.p0.inS armplanref6_Name.p0.un armplanref6_Name.p0.outs x = armplanref6_Name.p0.step (armplanref6_Name.p0.un x) := by
  kernel_rfl
set_option maxRecDepth 100000 in
theorem armplanref6_Name.p0.sound : LProcSound armplanref6_Name.E (.loop armplanref6_Name.p0.c) armplanref6_Name.p0.lp :=
  loop_sound (c := armplanref6_Name.p0.c) (ann := armplanref6_Name.p0.ann) armplanref6_Name.ok ((SubsOk_z _ _) : SubsOk armplanref6_Name.E armplanref6_Name.p0.c armplanref6_Name.p0.ann) (by intro a ha; simp only [armplanref6_Name.p0.outs, List.mem_cons, List.not_mem_nil, or_false] at ha; rcases ha with rfl | rfl <;> exact fun _ => rfl) armplanref6_Name.p0.eq
noncomputable def armplanref6_Name.ann : Ann := .s (.z) (.s (.z) (.s (.s (.z) (.b (.sub 0))) (.z)))
set_option maxRecDepth 100000 in
theorem armplanref6_Name.eq (x : Tup armplanref6_Name.p.inS) : peFn armplanref6_Name.E Try.f122 armplanref6_Name.ann armplanref6_Name.p x = armplanref6_Name.p.F x := by
  have h : peFn armplanref6_Name.E Try.f122 armplanref6_Name.ann armplanref6_Name.p x = armplanref6_Name.F0 x.1.1 := by kernel_rfl
  exact h.trans (by show _ = armplanref6_Name.F x.1.1; rw [armplanref6_Name.F_eq])
set_option maxRecDepth 100000 in
theorem armplanref6_Name.sound : ProcSound Try.prog glob0 122 armplanref6_Name.p :=
  fn_sound (E := armplanref6_Name.E) (c := armplanref6_Name.body0) (ann := armplanref6_Name.ann) armplanref6_Name.ok Try.func122 (of_decide_eq_true (by kernel_rfl)) rfl rfl rfl (by decide +kernel) (⟨(SubsOk_z _ _), ⟨(SubsOk_z _ _), ⟨⟨(SubsOk_z _ _), (sub_of rfl armplanref6_Name.p0.sound)⟩, (SubsOk_z _ _)⟩⟩⟩ : SubsOk armplanref6_Name.E armplanref6_Name.body0 armplanref6_Name.ann) (fun _ => rfl) rfl armplanref6_Name.eq

/-! ### armplan/armplanref6.reach: function 123 -/
noncomputable def armplanref6_reach.F0 (a0 : Int) : Option (Int) :=
  (bif (a0 == (0 : Int)) then some (0 : Int) else (bif (a0 == (1 : Int)) then some (524288 : Int) else (bif (a0 == (2 : Int)) then some (524288 : Int) else (bif (a0 == (3 : Int)) then some (524288 : Int) else some (4194304 : Int)))))
noncomputable def armplanref6_reach.F : Int → Option (Int) := lock armplanref6_reach.F0
theorem armplanref6_reach.F_eq : armplanref6_reach.F = armplanref6_reach.F0 := lock_eq _
noncomputable def armplanref6_reach.p : Proc := { nargs := 1, inS := ⟨[(0, .lf (.sc (.int .i64)))], []⟩, outS := ⟨[(0, .lf (.sc (.int .i64)))], []⟩, n0 := 0, R := Int, F := fun x => armplanref6_reach.F x.1.1, post := fun r => ((r, ()), ()), un := fun x => x.1.1 }
noncomputable def armplanref6_reach.E : Env := { P := Try.prog, ty := tyTab [], glob := glob0, proc := procTab [], lproc := lprocTab [], n0 := 0, ntmps := 10 }
theorem armplanref6_reach.ok : ProcsOk armplanref6_reach.E := AllSound.ok (l := []) (by kernel_rfl) rfl trivial
noncomputable def armplanref6_reach.body0 : Code := (match Try.f123.body with | some c => c | none => .skip)
noncomputable def armplanref6_reach.ann : Ann := .z
set_option maxRecDepth 100000 in
theorem armplanref6_reach.eq (x : Tup armplanref6_reach.p.inS) : peFn armplanref6_reach.E Try.f123 armplanref6_reach.ann armplanref6_reach.p x = armplanref6_reach.p.F x := by
  have h : peFn armplanref6_reach.E Try.f123 armplanref6_reach.ann armplanref6_reach.p x = armplanref6_reach.F0 x.1.1 := by kernel_rfl
  exact h.trans (by show _ = armplanref6_reach.F x.1.1; rw [armplanref6_reach.F_eq])
set_option maxRecDepth 100000 in
theorem armplanref6_reach.sound : ProcSound Try.prog glob0 123 armplanref6_reach.p :=
  fn_sound (E := armplanref6_reach.E) (c := armplanref6_reach.body0) (ann := armplanref6_reach.ann) armplanref6_reach.ok Try.func123 (of_decide_eq_true (by kernel_rfl)) rfl rfl rfl (by decide +kernel) ((SubsOk_z _ _) : SubsOk armplanref6_reach.E armplanref6_reach.body0 armplanref6_reach.ann) (fun _ => rfl) rfl armplanref6_reach.eq

/-! ### slices.Index[[]int,int]: function 140 -/
noncomputable def slices_Index_int.p0.round (v0 : List (Int)) (v1 : Int) (v2 : Int) (v3 : Int) : Option ((List (Int) × Int × Int × Int) ⊕ ((Int) ⊕ (Unit))) :=
  (bif decide (v3 < v2) then (bif decide (0 ≤ v3) then (bif decide (v3 < (v0.length : Int)) then (bif (v1 == (v0.getD v3.toNat (0 : Int))) then some (.inr (.inl v3)) else some (.inl (v0, v1, v2, (IntKind.wrap .i64 (v3 + (1 : Int)))))) else none) else none) else some (.inr (.inr ())))
noncomputable def slices_Index_int.p0.step (s : List (Int) × Int × Int × Int) : Option ((List (Int) × Int × Int × Int) ⊕ ((Int) ⊕ (Unit))) := slices_Index_int.p0.round s.1 s.2.1 s.2.2.1 s.2.2.2
noncomputable def slices_Index_int.p0.inS : Shape := ⟨[(0, .lf (.dat (.int .i64))), (1, .lf (.sc (.int .i64))), (7, .lf (.sc (.int .i64))), (8, .lf (.sc (.int .i64)))], []⟩
noncomputable def slices_Index_int.p0.w0 : Way := { ex := .rt, S := ⟨[(4, .lf (.sc (.int .i64)))], []⟩, R := Int, post := fun r => ((r, ()), ()), un := fun x => x.1.1 }
noncomputable def slices_Index_int.p0.w1 : Way := { ex := (.ex 0), S := ⟨[], []⟩, R := Unit, post := fun r => ((), ()), un := fun x => () }
noncomputable def slices_Index_int.p0.outs : List Way := [slices_Index_int.p0.w0, slices_Index_int.p0.w1]
noncomputable def slices_Index_int.p0.un (x : Tup slices_Index_int.p0.inS) : List (Int) × Int × Int × Int := (x.1.1, x.1.2.1, x.1.2.2.1, x.1.2.2.2.1)
noncomputable def slices_Index_int.p0.lp : LProc := { inS := slices_Index_int.p0.inS, outs := slices_Index_int.p0.outs, F := fun x => loopF slices_Index_int.p0.step (slices_Index_int.p0.un x) }
noncomputable def slices_Index_int.F0 (a0 : List (Int)) (a1 : Int) : Option (Int) :=
  ((loopF slices_Index_int.p0.step (a0, a1, (a0.length : Int), (0 : Int))).bind fun y1 => (Sum.elim (fun y2 => some y2) (fun z3 => some (-1 : Int)) y1))
noncomputable def slices_Index_int.F : (List (Int)) → Int → Option (Int) := lock slices_Index_int.F0
theorem slices_Index_int.F_eq : slices_Index_int.F = slices_Index_int.F0 := lock_eq _
noncomputable def slices_Index_int.p : Proc := { nargs := 2, inS := ⟨[(0, .lf (.dat (.int .i64))), (1, .lf (.sc (.int .i64)))], []⟩, outS := ⟨[(0, .lf (.sc (.int .i64)))], []⟩, n0 := 0, R := Int, F := fun x => slices_Index_int.F x.1.1 x.1.2.1, post := fun r => ((r, ()), ()), un := fun x => x.1.1 }
noncomputable def slices_Index_int.E : Env := { P := Try.prog, ty := tyTab [], glob := glob0, proc := procTab [], lproc := lprocTab [(0, slices_Index_int.p0.lp)], n0 := 0, ntmps := 19 }
theorem slices_Index_int.ok : ProcsOk slices_Index_int.E := AllSound.ok (l := []) (by kernel_rfl) rfl trivial
noncomputable def slices_Index_int.body0 : Code := (match Try.f140.body with | some c => c | none => .skip)
noncomputable def slices_Index_int.p0.c : Code := ((codeAt slices_Index_int.body0 [.r, .l, .r, .b, .b]).getD .skip)
noncomputable def slices_Index_int.p0.ann : Ann := .z
set_option maxRecDepth 100000 in
theorem slices_Index_int.p0.eq (x : Tup slices_Index_int.p0.inS) : peRound slices_Index_int.E slices_Index_int.p0.c slices_Index_int.p0.ann _ slices_Index_int.p0.inS slices_Index_int.p0.un slices_Index_int.p0.outs x = slices_Index_int.p0.step (slices_Index_int.p0.un x) := by
  kernel_rfl
set_option maxRecDepth 100000 in
theorem slices_Index_int.p0.sound : LProcSound slices_Index_int.E (.loop slices_Index_int.p0.c) slices_Index_int.p0.lp :=
  loop_sound (c := slices_Index_int.p0.c) (ann := slices_Index_int.p0.ann) slices_Index_int.ok ((SubsOk_z _ _) : SubsOk slices_Index_int.E slices_Index_int.p0.c slices_Index_int.p0.ann) (by intro a ha; simp only [slices_Index_int.p0.outs, List.mem_cons, List.not_mem_nil, or_false] at ha; rcases ha with rfl | rfl <;> exact fun _ => rfl) slices_Index_int.p0.eq
noncomputable def slices_Index_int.ann : Ann := .s (.z) (.s (.s (.z) (.b (.sub 0))) (.z))
set_option maxRecDepth 100000 in
theorem slices_Index_int.eq (x : Tup slices_Index_int.p.inS) : peFn slices_Index_int.E Try.f140 slices_Index_int.ann slices_Index_int.p x = slices_Index_int.p.F x := by
  have h : peFn slices_Index_int.E Try.f140 slices_Index_int.ann slices_Index_int.p x = slices_Index_int.F0 x.1.1 x.1.2.1 := by kernel_rfl
  exact h.trans (by show _ = slices_Index_int.F x.1.1 x.1.2.1; rw [slices_Index_int.F_eq])
set_option maxRecDepth 100000 in
theorem slices_Index_int.sound : ProcSound Try.prog glob0 140 slices_Index_int.p :=
  fn_sound (E := slices_Index_int.E) (c := slices_Index_int.body0) (ann := slices_Index_int.ann) slices_Index_int.ok Try.func140 (of_decide_eq_true (by kernel_rfl)) rfl rfl rfl (by decide +kernel) (⟨(SubsOk_z _ _), ⟨⟨(SubsOk_z _ _), (sub_of rfl slices_Index_int.p0.sound)⟩, (SubsOk_z _ _)⟩⟩ : SubsOk slices_Index_int.E slices_Index_int.body0 slices_Index_int.ann) (fun _ => rfl) rfl slices_Index_int.eq

/-! ### armplan/armplanlaw35.few: function 9 -/
noncomputable def armplanlaw35_few.p0.round (v0 : List (((List ((ByteArray × (Int × (Int × ((Int × (Int × Int)) × (Int × (Int × (Int × (Int × (Int × Int)))))))))) × List ((Int × (Int × (Int × (Int × Int)))))) × (List ((Int × (Int × List ((Int × (Int × Int)))))) × List ((Int × Int)))))) (v1 : Int) : Option ((List (((List ((ByteArray × (Int × (Int × ((Int × (Int × Int)) × (Int × (Int × (Int × (Int × (Int × Int)))))))))) × List ((Int × (Int × (Int × (Int × Int)))))) × (List ((Int × (Int × List ((Int × (Int × Int)))))) × List ((Int × Int))))) × Int) ⊕ ((Bool) ⊕ (Unit))) :=
  (bif decide (v1 < (v0.length : Int)) then (bif decide (0 ≤ v1) then (bif decide (v1 < (v0.length : Int)) then ((armplanmake_SmallScene.F ((v0.getD v1.toNat ((([] : List ((ByteArray × (Int × (Int × ((Int × (Int × Int)) × (Int × (Int × (Int × (Int × (Int × Int))))))))))), ([] : List ((Int × (Int × (Int × (Int × Int))))))), (([] : List ((Int × (Int × List ((Int × (Int × Int))))))), ([] : List ((Int × Int)))))).1).1 ((v0.getD v1.toNat ((([] : List ((ByteArray × (Int × (Int × ((Int × (Int × Int)) × (Int × (Int × (Int × (Int × (Int × Int))))))))))), ([] : List ((Int × (Int × (Int × (Int × Int))))))), (([] : List ((Int × (Int × List ((Int × (Int × Int))))))), ([] : List ((Int × Int)))))).1).2 ((v0.getD v1.toNat ((([] : List ((ByteArray × (Int × (Int × ((Int × (Int × Int)) × (Int × (Int × (Int × (Int × (Int × Int))))))))))), ([] : List ((Int × (Int × (Int × (Int × Int))))))), (([] : List ((Int × (Int × List ((Int × (Int × Int))))))), ([] : List ((Int × Int)))))).2).1 ((v0.getD v1.toNat ((([] : List ((ByteArray × (Int × (Int × ((Int × (Int × Int)) × (Int × (Int × (Int × (Int × (Int × Int))))))))))), ([] : List ((Int × (Int × (Int × (Int × Int))))))), (([] : List ((Int × (Int × List ((Int × (Int × Int))))))), ([] : List ((Int × Int)))))).2).2).bind fun r2 => (bif (!r2) then some (.inr (.inl false)) else some (.inl (v0, (IntKind.wrap .i64 (v1 + (1 : Int))))))) else none) else none) else some (.inr (.inr ())))
noncomputable def armplanlaw35_few.p0.step (s : List (((List ((ByteArray × (Int × (Int × ((Int × (Int × Int)) × (Int × (Int × (Int × (Int × (Int × Int)))))))))) × List ((Int × (Int × (Int × (Int × Int)))))) × (List ((Int × (Int × List ((Int × (Int × Int)))))) × List ((Int × Int))))) × Int) : Option ((List (((List ((ByteArray × (Int × (Int × ((Int × (Int × Int)) × (Int × (Int × (Int × (Int × (Int × Int)))))))))) × List ((Int × (Int × (Int × (Int × Int)))))) × (List ((Int × (Int × List ((Int × (Int × Int)))))) × List ((Int × Int))))) × Int) ⊕ ((Bool) ⊕ (Unit))) := armplanlaw35_few.p0.round s.1 s.2
noncomputable def armplanlaw35_few.p0.inS : Shape := ⟨[(0, .lf (.dat (.pair (.pair (.slc tyJ) (.slc tyM)) (.pair (.slc tyS) (.slc tyK))))), (5, .lf (.sc (.int .i64)))], []⟩
noncomputable def armplanlaw35_few.p0.w0 : Way := { ex := .rt, S := ⟨[(4, .lf (.sc .bool))], []⟩, R := Bool, post := fun r => ((r, ()), ()), un := fun x => x.1.1 }
noncomputable def armplanlaw35_few.p0.w1 : Way := { ex := (.ex 0), S := ⟨[], []⟩, R := Unit, post := fun r => ((), ()), un := fun x => () }
noncomputable def armplanlaw35_few.p0.outs : List Way := [armplanlaw35_few.p0.w0, armplanlaw35_few.p0.w1]
noncomputable def armplanlaw35_few.p0.un (x : Tup armplanlaw35_few.p0.inS) : List (((List ((ByteArray × (Int × (Int × ((Int × (Int × Int)) × (Int × (Int × (Int × (Int × (Int × Int)))))))))) × List ((Int × (Int × (Int × (Int × Int)))))) × (List ((Int × (Int × List ((Int × (Int × Int)))))) × List ((Int × Int))))) × Int := (x.1.1, x.1.2.1)
noncomputable def armplanlaw35_few.p0.lp : LProc := { inS := armplanlaw35_few.p0.inS, outs := armplanlaw35_few.p0.outs, F := fun x => loopF armplanlaw35_few.p0.step (armplanlaw35_few.p0.un x) }
noncomputable def armplanlaw35_few.F0 (a0 : List (((List ((ByteArray × (Int × (Int × ((Int × (Int × Int)) × (Int × (Int × (Int × (Int × (Int × Int)))))))))) × List ((Int × (Int × (Int × (Int × Int)))))) × (List ((Int × (Int × List ((Int × (Int × Int)))))) × List ((Int × Int)))))) (a1 : List ((Int × (Int × Int)))) : Option (Bool) :=
  (bif decide ((a0.length : Int) > (6 : Int)) then some false else (bif decide ((a1.length : Int) > (8 : Int)) then some false else ((loopF armplanlaw35_few.p0.step (a0, (0 : Int))).bind fun y3 => (Sum.elim (fun y4 => some y4) (fun z5 => some true) y3))))
noncomputable def armplanlaw35_few.F : (List (((List ((ByteArray × (Int × (Int × ((Int × (Int × Int)) × (Int × (Int × (Int × (Int × (Int × Int)))))))))) × List ((Int × (Int × (Int × (Int × Int)))))) × (List ((Int × (Int × List ((Int × (Int × Int)))))) × List ((Int × Int)))))) → (List ((Int × (Int × Int)))) → Option (Bool) := lock armplanlaw35_few.F0
theorem armplanlaw35_few.F_eq : armplanlaw35_few.F = armplanlaw35_few.F0 := lock_eq _
noncomputable def armplanlaw35_few.p : Proc := { nargs := 2, inS := ⟨[(0, .lf (.dat (.pair (.pair (.slc tyJ) (.slc tyM)) (.pair (.slc tyS) (.slc tyK))))), (1, .lf (.dat tyV))], []⟩, outS := ⟨[(0, .lf (.sc .bool))], []⟩, n0 := 0, R := Bool, F := fun x => armplanlaw35_few.F x.1.1 x.1.2.1, post := fun r => ((r, ()), ()), un := fun x => x.1.1 }
noncomputable def armplanlaw35_few.E : Env := { P := Try.prog, ty := tyTab [], glob := glob0, proc := procTab [(29, armplanmake_SmallScene.p)], lproc := lprocTab [(0, armplanlaw35_few.p0.lp)], n0 := 0, ntmps := 26 }
theorem armplanlaw35_few.ok : ProcsOk armplanlaw35_few.E := AllSound.ok (l := [(29, armplanmake_SmallScene.p)]) (by kernel_rfl) rfl ⟨armplanmake_SmallScene.sound, trivial⟩
noncomputable def armplanlaw35_few.body0 : Code := (match Try.f9.body with | some c => c | none => .skip)
noncomputable def armplanlaw35_few.p0.c : Code := ((codeAt armplanlaw35_few.body0 [.r, .r, .l, .r, .b, .b]).getD .skip)
noncomputable def armplanlaw35_few.p0.ann : Ann := .z
set_option maxRecDepth 100000 in
theorem armplanlaw35_few.p0.eq (x : Tup armplanlaw35_few.p0.inS) : peRound armplanlaw35_few.E armplanlaw35_few.p0.c armplanlaw35_few.p0.ann _ armplanlaw35_few.p0.inS armplanlaw35_few.p0.un armplanlaw35_few.p0.outs x = armplanlaw35_few.p0.step (armplanlaw35_few.p0.un x) := by
  kernel_rfl
set_option maxRecDepth 100000 in
theorem armplanlaw35_few.p0.sound : LProcSound armplanlaw35_few.E (.loop armplanlaw35_few.p0.c) armplanlaw35_few.p0.lp :=
  loop_sound (c := armplanlaw35_few.p0.c) (ann := armplanlaw35_few.p0.ann) armplanlaw35_few.ok ((SubsOk_z _ _) : SubsOk armplanlaw35_few.E armplanlaw35_few.p0.c armplanlaw35_few.p0.ann) (by intro a ha; simp only [armplanlaw35_few.p0.outs, List.mem_cons, List.not_mem_nil, or_false] at ha; rcases ha with rfl | rfl <;> exact fun _ => rfl) armplanlaw35_few.p0.eq
noncomputable def armplanlaw35_few.ann : Ann := .s (.z) (.s (.z) (.s (.s (.z) (.b (.sub 0))) (.z)))
set_option maxRecDepth 100000 in
theorem armplanlaw35_few.eq (x : Tup armplanlaw35_few.p.inS) : peFn armplanlaw35_few.E Try.f9 armplanlaw35_few.ann armplanlaw35_few.p x = armplanlaw35_few.p.F x := by
  have h : peFn armplanlaw35_few.E Try.f9 armplanlaw35_few.ann armplanlaw35_few.p x = armplanlaw35_few.F0 x.1.1 x.1.2.1 := by kernel_rfl
  exact h.trans (by show _ = armplanlaw35_few.F x.1.1 x.1.2.1; rw [armplanlaw35_few.F_eq])
set_option maxRecDepth 100000 in
theorem armplanlaw35_few.sound : ProcSound Try.prog glob0 9 armplanlaw35_few.p :=
  fn_sound (E := armplanlaw35_few.E) (c := armplanlaw35_few.body0) (ann := armplanlaw35_few.ann) armplanlaw35_few.ok Try.func9 (of_decide_eq_true (by kernel_rfl)) rfl rfl rfl (by decide +kernel) (⟨(SubsOk_z _ _), ⟨(SubsOk_z _ _), ⟨⟨(SubsOk_z _ _), (sub_of rfl armplanlaw35_few.p0.sound)⟩, (SubsOk_z _ _)⟩⟩⟩ : SubsOk armplanlaw35_few.E armplanlaw35_few.body0 armplanlaw35_few.ann) (fun _ => rfl) rfl armplanlaw35_few.eq

/-! ### armplan/armplanmake.Slider: function 30 -/
noncomputable def armplanmake_Slider.p0.round (v0 : Int) (v1 : Int) (v2 : Int) (v3 : List ((ByteArray × (Int × (Int × ((Int × (Int × Int)) × (Int × (Int × (Int × (Int × (Int × Int))))))))))) : Option ((Int × Int × Int × List ((ByteArray × (Int × (Int × ((Int × (Int × Int)) × (Int × (Int × (Int × (Int × (Int × Int))))))))))) ⊕ ((List ((ByteArray × (Int × (Int × ((Int × (Int × Int)) × (Int × (Int × (Int × (Int × (Int × Int))))))))))))) :=
  (bif decide (v2 < v0) then ((armplanmake_letter.F v2).bind fun r3 => (bif decide (v3.length + ([(r3, ((IntKind.wrap .i64 ((4 : Int) + (v2.tmod (2 : Int)))), ((IntKind.wrap .i64 (v2 - (1 : Int))), (((0 : Int), ((0 : Int), (0 : Int))), ((0 : Int), (v1, ((1 : Int), ((65536 : Int), ((65536 : Int), (65536 : Int))))))))))] : List ((ByteArray × (Int × (Int × ((Int × (Int × Int)) × (Int × (Int × (Int × (Int × (Int × Int))))))))))).length < 1353245080339) then some (.inl (v0, v1, (IntKind.wrap .i64 (v2 + (1 : Int))), (v3 ++ ([(r3, ((IntKind.wrap .i64 ((4 : Int) + (v2.tmod (2 : Int)))), ((IntKind.wrap .i64 (v2 - (1 : Int))), (((0 : Int), ((0 : Int), (0 : Int))), ((0 : Int), (v1, ((1 : Int), ((65536 : Int), ((65536 : Int), (65536 : Int))))))))))] : List ((ByteArray × (Int × (Int × ((Int × (Int × Int)) × (Int × (Int × (Int × (Int × (Int × Int)))))))))))))) else none)) else some (.inr v3))
noncomputable def armplanmake_Slider.p0.step (s : Int × Int × Int × List ((ByteArray × (Int × (Int × ((Int × (Int × Int)) × (Int × (Int × (Int × (Int × (Int × Int))))))))))) : Option ((Int × Int × Int × List ((ByteArray × (Int × (Int × ((Int × (Int × Int)) × (Int × (Int × (Int × (Int × (Int × Int))))))))))) ⊕ ((List ((ByteArray × (Int × (Int × ((Int × (Int × Int)) × (Int × (Int × (Int × (Int × (Int × Int))))))))))))) := armplanmake_Slider.p0.round s.1 s.2.1 s.2.2.1 s.2.2.2
noncomputable def armplanmake_Slider.p0.inS : Shape := ⟨[(0, .lf (.sc (.int .i64))), (1, .lf (.sc (.int .i64))), (4, .lf (.bp 0 0)), (5, .lf (.bp 1 0)), (6, .lf (.sc (.int .i64)))], [.box [.cst (.slice none 0 0), .cst (.slice none 0 0)], .box [.own 2, .cst (.slice none 0 0)], .row 84 tyJ]⟩
noncomputable def armplanmake_Slider.p0.w0 : Way := { ex := (.ex 0), S := ⟨[(4, .lf (.bp 0 0)), (5, .lf (.bp 1 0))], [.box [.cst (.slice none 0 0), .cst (.slice none 0 0)], .box [.own 2, .cst (.slice none 0 0)], .row 84 tyJ]⟩, R := List ((ByteArray × (Int × (Int × ((Int × (Int × Int)) × (Int × (Int × (Int × (Int × (Int × Int)))))))))), post := fun r => (((), ((), ())), (((), ((), ())), (((), ((), ())), (r, ())))), un := fun x => x.2.2.2.1 }
noncomputable def armplanmake_Slider.p0.outs : List Way := [armplanmake_Slider.p0.w0]
noncomputable def armplanmake_Slider.p0.un (x : Tup armplanmake_Slider.p0.inS) : Int × Int × Int × List ((ByteArray × (Int × (Int × ((Int × (Int × Int)) × (Int × (Int × (Int × (Int × (Int × Int)))))))))) := (x.1.1, x.1.2.1, x.1.2.2.2.2.1, x.2.2.2.1)
noncomputable def armplanmake_Slider.p0.lp : LProc := { inS := armplanmake_Slider.p0.inS, outs := armplanmake_Slider.p0.outs, F := fun x => loopF armplanmake_Slider.p0.step (armplanmake_Slider.p0.un x) }
noncomputable def armplanmake_Slider.F0 (a0 : Int) (a1 : Int) : Option (List ((ByteArray × (Int × (Int × ((Int × (Int × Int)) × (Int × (Int × (Int × (Int × (Int × Int)))))))))) × List ((Int × (Int × (Int × (Int × Int)))))) :=
  ((loopF armplanmake_Slider.p0.step (a0, a1, (0 : Int), ([] : List ((ByteArray × (Int × (Int × ((Int × (Int × Int)) × (Int × (Int × (Int × (Int × (Int × Int))))))))))))).bind fun y4 => some (y4, ([] : List ((Int × (Int × (Int × (Int × Int))))))))
noncomputable def armplanmake_Slider.F : Int → Int → Option (List ((ByteArray × (Int × (Int × ((Int × (Int × Int)) × (Int × (Int × (Int × (Int × (Int × Int)))))))))) × List ((Int × (Int × (Int × (Int × Int)))))) := lock armplanmake_Slider.F0
theorem armplanmake_Slider.F_eq : armplanmake_Slider.F = armplanmake_Slider.F0 := lock_eq _
noncomputable def armplanmake_Slider.p : Proc := { nargs := 2, inS := ⟨[(0, .lf (.sc (.int .i64))), (1, .lf (.sc (.int .i64)))], []⟩, outS := ⟨[(0, .ag [.dat tyJ, .dat tyM])], []⟩, n0 := 0, R := List ((ByteArray × (Int × (Int × ((Int × (Int × Int)) × (Int × (Int × (Int × (Int × (Int × Int)))))))))) × List ((Int × (Int × (Int × (Int × Int))))), F := fun x => armplanmake_Slider.F x.1.1 x.1.2.1, post := fun r => (((r.1, (r.2, ())), ()), ()), un := fun x => (x.1.1.1, x.1.1.2.1) }
noncomputable def armplanmake_Slider.E : Env := { P := Try.prog, ty := tyTab [(84, tyJ), (110, tyM)], glob := glob0, proc := procTab [(62, armplanmake_letter.p)], lproc := lprocTab [(0, armplanmake_Slider.p0.lp)], n0 := 0, ntmps := 27 }
theorem armplanmake_Slider.ok : ProcsOk armplanmake_Slider.E := AllSound.ok (l := [(62, armplanmake_letter.p)]) (by kernel_rfl) rfl ⟨armplanmake_letter.sound, trivial⟩
noncomputable def armplanmake_Slider.body0 : Code := (match Try.f30.body with | some c => c | none => .skip)
noncomputable def armplanmake_Slider.p0.c : Code := ((codeAt armplanmake_Slider.body0 [.r, .r, .l, .r, .b, .b]).getD .skip)
noncomputable def armplanmake_Slider.p0.ann : Ann := .z
set_option maxRecDepth 100000 in
theorem armplanmake_Slider.p0.eq (x : Tup armplanmake_Slider.p0.inS) : peRound armplanmake_Slider.E armplanmake_Slider.p0.c armplanmake_Slider.p0.ann _ armplanmake_Slider.p0.inS armplanmake_Slider.p0.un armplanmake_Slider.p0.outs x = armplanmake_Slider.p0.step (armplanmake_Slider.p0.un x) := by
  kernel_rfl
set_option maxRecDepth 100000 in
theorem armplanmake_Slider.p0.sound : LProcSound armplanmake_Slider.E (.loop armplanmake_Slider.p0.c) armplanmake_Slider.p0.lp :=
  loop_sound (c := armplanmake_Slider.p0.c) (ann := armplanmake_Slider.p0.ann) armplanmake_Slider.ok ((SubsOk_z _ _) : SubsOk armplanmake_Slider.E armplanmake_Slider.p0.c armplanmake_Slider.p0.ann) (by intro a ha; simp only [armplanmake_Slider.p0.outs, List.mem_cons, List.not_mem_nil, or_false] at ha; rcases ha with rfl <;> exact fun _ => rfl) armplanmake_Slider.p0.eq
noncomputable def armplanmake_Slider.ann : Ann := .s (.z) (.s (.z) (.s (.s (.z) (.b (.sub 0))) (.z)))
set_option maxRecDepth 100000 in
theorem armplanmake_Slider.eq (x : Tup armplanmake_Slider.p.inS) : peFn armplanmake_Slider.E Try.f30 armplanmake_Slider.ann armplanmake_Slider.p x = armplanmake_Slider.p.F x := by
  have h : peFn armplanmake_Slider.E Try.f30 armplanmake_Slider.ann armplanmake_Slider.p x = armplanmake_Slider.F0 x.1.1 x.1.2.1 := by kernel_rfl
  exact h.trans (by show _ = armplanmake_Slider.F x.1.1 x.1.2.1; rw [armplanmake_Slider.F_eq])
set_option maxRecDepth 100000 in
theorem armplanmake_Slider.sound : ProcSound Try.prog glob0 30 armplanmake_Slider.p :=
  fn_sound (E := armplanmake_Slider.E) (c := armplanmake_Slider.body0) (ann := armplanmake_Slider.ann) armplanmake_Slider.ok Try.func30 (of_decide_eq_true (by kernel_rfl)) rfl rfl rfl (by decide +kernel) (⟨(SubsOk_z _ _), ⟨(SubsOk_z _ _), ⟨⟨(SubsOk_z _ _), (sub_of rfl armplanmake_Slider.p0.sound)⟩, (SubsOk_z _ _)⟩⟩⟩ : SubsOk armplanmake_Slider.E armplanmake_Slider.body0 armplanmake_Slider.ann) (fun _ => rfl) rfl armplanmake_Slider.eq

/-! ### armplan/armplanmake.Track: function 34 -/
noncomputable def armplanmake_Track.p0.round (v0 : Int) (v1 : List (Int)) (v2 : Int) (v3 : List ((ByteArray × (Int × (Int × ((Int × (Int × Int)) × (Int × (Int × (Int × (Int × (Int × Int))))))))))) (v4 : List ((Int × (Int × (Int × (Int × Int)))))) (v5 : List ((Int × (Int × List ((Int × (Int × Int))))))) : Option ((Int × List (Int) × Int × List ((ByteArray × (Int × (Int × ((Int × (Int × Int)) × (Int × (Int × (Int × (Int × (Int × Int)))))))))) × List ((Int × (Int × (Int × (Int × Int))))) × List ((Int × (Int × List ((Int × (Int × Int))))))) ⊕ ((List ((ByteArray × (Int × (Int × ((Int × (Int × Int)) × (Int × (Int × (Int × (Int × (Int × Int)))))))))) × List ((Int × (Int × (Int × (Int × Int))))) × List ((Int × (Int × List ((Int × (Int × Int))))))))) :=
  (bif decide (v0 > (0 : Int)) then ((armplanmake_Source_Next.F (65 : Int) v1 v2).bind fun r11 => ((armplanmake_Source_Next.F (65 : Int) r11.2.1 r11.2.2).bind fun r12 => ((armplanmake_Source_Next.F (3 : Int) r12.2.1 r12.2.2).bind fun r13 => (bif (r13.1 == (0 : Int)) then ((armplanmake_Source_Next.F (9 : Int) r13.2.1 r13.2.2).bind fun r14 => (bif decide (v5.length + ([((-1 : Int), ((IntKind.wrap .i64 ((2 : Int) + r14.1)), ([(r11.1, ((-9 : Int), (0 : Int))), (r11.1, ((80 : Int), (0 : Int)))] : List ((Int × (Int × Int))))))] : List ((Int × (Int × List ((Int × (Int × Int))))))).length < 3518437208883) then some (.inl ((IntKind.wrap .i64 (v0 - (1 : Int))), r14.2.1, r14.2.2, v3, v4, (v5 ++ ([((-1 : Int), ((IntKind.wrap .i64 ((2 : Int) + r14.1)), ([(r11.1, ((-9 : Int), (0 : Int))), (r11.1, ((80 : Int), (0 : Int)))] : List ((Int × (Int × Int))))))] : List ((Int × (Int × List ((Int × (Int × Int)))))))))) else none)) else ((armplanmake_Source_Next.F (9 : Int) r13.2.1 r13.2.2).bind fun r15 => (bif decide (v5.length + ([((-1 : Int), ((IntKind.wrap .i64 ((2 : Int) + r15.1)), ([(r11.1, (r12.1, (0 : Int)))] : List ((Int × (Int × Int))))))] : List ((Int × (Int × List ((Int × (Int × Int))))))).length < 3518437208883) then some (.inl ((IntKind.wrap .i64 (v0 - (1 : Int))), r15.2.1, r15.2.2, v3, v4, (v5 ++ ([((-1 : Int), ((IntKind.wrap .i64 ((2 : Int) + r15.1)), ([(r11.1, (r12.1, (0 : Int)))] : List ((Int × (Int × Int))))))] : List ((Int × (Int × List ((Int × (Int × Int)))))))))) else none)))))) else some (.inr (v3, v4, v5)))
noncomputable def armplanmake_Track.p0.step (s : Int × List (Int) × Int × List ((ByteArray × (Int × (Int × ((Int × (Int × Int)) × (Int × (Int × (Int × (Int × (Int × Int)))))))))) × List ((Int × (Int × (Int × (Int × Int))))) × List ((Int × (Int × List ((Int × (Int × Int))))))) : Option ((Int × List (Int) × Int × List ((ByteArray × (Int × (Int × ((Int × (Int × Int)) × (Int × (Int × (Int × (Int × (Int × Int)))))))))) × List ((Int × (Int × (Int × (Int × Int))))) × List ((Int × (Int × List ((Int × (Int × Int))))))) ⊕ ((List ((ByteArray × (Int × (Int × ((Int × (Int × Int)) × (Int × (Int × (Int × (Int × (Int × Int)))))))))) × List ((Int × (Int × (Int × (Int × Int))))) × List ((Int × (Int × List ((Int × (Int × Int))))))))) := armplanmake_Track.p0.round s.1 s.2.1 s.2.2.1 s.2.2.2.1 s.2.2.2.2.1 s.2.2.2.2.2
noncomputable def armplanmake_Track.p0.inS : Shape := ⟨[(2, .lf (.bp 0 0)), (3, .lf (.bp 1 0)), (5, .lf (.bp 2 0)), (6, .lf (.sc (.int .i64)))], [.box [.cst (.slice none 0 0), .cst (.slice none 0 0), .cst (.slice none 0 0), .cst (.slice none 0 0)], .box [.dat (.int .i64), .sc (.int .i64)], .box [.dat tyJ, .dat tyM, .own 3, .cst (.slice none 0 0)], .row 82 tyS]⟩
noncomputable def armplanmake_Track.p0.w0 : Way := { ex := (.ex 0), S := ⟨[(2, .lf (.bp 0 0)), (5, .lf (.bp 1 0))], [.box [.cst (.slice none 0 0), .cst (.slice none 0 0), .cst (.slice none 0 0), .cst (.slice none 0 0)], .box [.dat tyJ, .dat tyM, .own 2, .cst (.slice none 0 0)], .row 82 tyS]⟩, R := List ((ByteArray × (Int × (Int × ((Int × (Int × Int)) × (Int × (Int × (Int × (Int × (Int × Int)))))))))) × List ((Int × (Int × (Int × (Int × Int))))) × List ((Int × (Int × List ((Int × (Int × Int)))))), post := fun r => (((), ((), ())), (((), ((), ((), ((), ())))), ((r.1, (r.2.1, ((), ((), ())))), (r.2.2, ())))), un := fun x => (x.2.2.1.1, x.2.2.1.2.1, x.2.2.2.1) }
noncomputable def armplanmake_Track.p0.outs : List Way := [armplanmake_Track.p0.w0]
noncomputable def armplanmake_Track.p0.un (x : Tup armplanmake_Track.p0.inS) : Int × List (Int) × Int × List ((ByteArray × (Int × (Int × ((Int × (Int × Int)) × (Int × (Int × (Int × (Int × (Int × Int)))))))))) × List ((Int × (Int × (Int × (Int × Int))))) × List ((Int × (Int × List ((Int × (Int × Int)))))) := (x.1.2.2.2.1, x.2.2.1.1, x.2.2.1.2.1, x.2.2.2.1.1, x.2.2.2.1.2.1, x.2.2.2.2.1)
noncomputable def armplanmake_Track.p0.lp : LProc := { inS := armplanmake_Track.p0.inS, outs := armplanmake_Track.p0.outs, F := fun x => loopF armplanmake_Track.p0.step (armplanmake_Track.p0.un x) }
noncomputable def armplanmake_Track.F0 (a0 : List (Int)) : Option (List ((ByteArray × (Int × (Int × ((Int × (Int × Int)) × (Int × (Int × (Int × (Int × (Int × Int)))))))))) × List ((Int × (Int × (Int × (Int × Int))))) × List ((Int × (Int × List ((Int × (Int × Int)))))) × List ((Int × Int))) :=
  ((armplanmake_From.F a0).bind fun r1 => ((armplanmake_Source_Next.F (2 : Int) r1.1 r1.2).bind fun r2 => ((armplanmake_Slider.F (IntKind.wrap .i64 ((1 : Int) + r2.1)) (64 : Int)).bind fun r3 => ((armplanmake_Source_Next.F (4 : Int) r2.2.1 r2.2.2).bind fun r4 => (bif decide (([((IntKind.wrap .i64 ((IntKind.wrap .i64 ((1 : Int) + r2.1)) - (1 : Int))), ((IntKind.wrap .i64 ((1 : Int) + r4.1)), ([((0 : Int), ((0 : Int), (0 : Int)))] : List ((Int × (Int × Int))))))] : List ((Int × (Int × List ((Int × (Int × Int))))))).length < 3518437208883) then ((armplanmake_Source_Next.F (4 : Int) r4.2.1 r4.2.2).bind fun r5 => ((loopF armplanmake_Track.p0.step (r5.1, r5.2.1, r5.2.2, r3.1, r3.2, ([((IntKind.wrap .i64 ((IntKind.wrap .i64 ((1 : Int) + r2.1)) - (1 : Int))), ((IntKind.wrap .i64 ((1 : Int) + r4.1)), ([((0 : Int), ((0 : Int), (0 : Int)))] : List ((Int × (Int × Int))))))] : List ((Int × (Int × List ((Int × (Int × Int))))))))).bind fun y16 => some (y16.1, y16.2.1, y16.2.2, ([] : List ((Int × Int)))))) else none)))))
noncomputable def armplanmake_Track.F : (List (Int)) → Option (List ((ByteArray × (Int × (Int × ((Int × (Int × Int)) × (Int × (Int × (Int × (Int × (Int × Int)))))))))) × List ((Int × (Int × (Int × (Int × Int))))) × List ((Int × (Int × List ((Int × (Int × Int)))))) × List ((Int × Int))) := lock armplanmake_Track.F0
theorem armplanmake_Track.F_eq : armplanmake_Track.F = armplanmake_Track.F0 := lock_eq _
noncomputable def armplanmake_Track.p : Proc := { nargs := 1, inS := ⟨[(0, .lf (.dat (.int .i64)))], []⟩, outS := ⟨[(0, .ag [.dat tyJ, .dat tyM, .dat tyS, .dat tyK])], []⟩, n0 := 0, R := List ((ByteArray × (Int × (Int × ((Int × (Int × Int)) × (Int × (Int × (Int × (Int × (Int × Int)))))))))) × List ((Int × (Int × (Int × (Int × Int))))) × List ((Int × (Int × List ((Int × (Int × Int)))))) × List ((Int × Int)), F := fun x => armplanmake_Track.F x.1.1, post := fun r => (((r.1, (r.2.1, (r.2.2.1, (r.2.2.2, ())))), ()), ()), un := fun x => (x.1.1.1, x.1.1.2.1, x.1.1.2.2.1, x.1.1.2.2.2.1) }
noncomputable def armplanmake_Track.E : Env := { P := Try.prog, ty := tyTab [(31, tyV), (82, tyS), (84, tyJ), (110, tyM), (112, tyK)], glob := glob0, proc := procTab [(31, armplanmake_From.p), (32, armplanmake_Source_Next.p), (30, armplanmake_Slider.p)], lproc := lprocTab [(0, armplanmake_Track.p0.lp)], n0 := 0, ntmps := 62 }
theorem armplanmake_Track.ok : ProcsOk armplanmake_Track.E := AllSound.ok (l := [(31, armplanmake_From.p), (32, armplanmake_Source_Next.p), (30, armplanmake_Slider.p)]) (by kernel_rfl) rfl ⟨armplanmake_From.sound, armplanmake_Source_Next.sound, armplanmake_Slider.sound, trivial⟩
noncomputable def armplanmake_Track.body0 : Code := (match Try.f34.body with | some c => c | none => .skip)
noncomputable def armplanmake_Track.p0.c : Code := ((codeAt armplanmake_Track.body0 [.r, .r, .r, .r, .r, .l, .r, .b, .b]).getD .skip)
noncomputable def armplanmake_Track.p0.ann : Ann := .z
set_option maxRecDepth 100000 in
theorem armplanmake_Track.p0.eq (x : Tup armplanmake_Track.p0.inS) : peRound armplanmake_Track.E armplanmake_Track.p0.c armplanmake_Track.p0.ann _ armplanmake_Track.p0.inS armplanmake_Track.p0.un armplanmake_Track.p0.outs x = armplanmake_Track.p0.step (armplanmake_Track.p0.un x) := by
  kernel_rfl
set_option maxRecDepth 100000 in
theorem armplanmake_Track.p0.sound : LProcSound armplanmake_Track.E (.loop armplanmake_Track.p0.c) armplanmake_Track.p0.lp :=
  loop_sound (c := armplanmake_Track.p0.c) (ann := armplanmake_Track.p0.ann) armplanmake_Track.ok ((SubsOk_z _ _) : SubsOk armplanmake_Track.E armplanmake_Track.p0.c armplanmake_Track.p0.ann) (by intro a ha; simp only [armplanmake_Track.p0.outs, List.mem_cons, List.not_mem_nil, or_false] at ha; rcases ha with rfl <;> exact fun _ => rfl) armplanmake_Track.p0.eq
noncomputable def armplanmake_Track.ann : Ann := .s (.z) (.s (.z) (.s (.z) (.s (.z) (.s (.z) (.s (.s (.z) (.b (.sub 0))) (.z))))))
set_option maxRecDepth 100000 in
theorem armplanmake_Track.eq (x : Tup armplanmake_Track.p.inS) : peFn armplanmake_Track.E Try.f34 armplanmake_Track.ann armplanmake_Track.p x = armplanmake_Track.p.F x := by
  have h : peFn armplanmake_Track.E Try.f34 armplanmake_Track.ann armplanmake_Track.p x = armplanmake_Track.F0 x.1.1 := by kernel_rfl
  exact h.trans (by show _ = armplanmake_Track.F x.1.1; rw [armplanmake_Track.F_eq])
set_option maxRecDepth 100000 in
theorem armplanmake_Track.sound : ProcSound Try.prog glob0 34 armplanmake_Track.p :=
  fn_sound (E := armplanmake_Track.E) (c := armplanmake_Track.body0) (ann := armplanmake_Track.ann) armplanmake_Track.ok Try.func34 (of_decide_eq_true (by kernel_rfl)) rfl rfl rfl (by decide +kernel) (⟨(SubsOk_z _ _), ⟨(SubsOk_z _ _), ⟨(SubsOk_z _ _), ⟨(SubsOk_z _ _), ⟨(SubsOk_z _ _), ⟨⟨(SubsOk_z _ _), (sub_of rfl armplanmake_Track.p0.sound)⟩, (SubsOk_z _ _)⟩⟩⟩⟩⟩⟩ : SubsOk armplanmake_Track.E armplanmake_Track.body0 armplanmake_Track.ann) (fun _ => rfl) rfl armplanmake_Track.eq

/-! ### armplan/team.part[int64]: function 45 -/
noncomputable def team_part_int64.p0.round (v0 : List (((List ((ByteArray × (Int × (Int × ((Int × (Int × Int)) × (Int × (Int × (Int × (Int × (Int × Int)))))))))) × List ((Int × (Int × (Int × (Int × Int)))))) × (List ((Int × (Int × List ((Int × (Int × Int)))))) × List ((Int × Int)))))) (v1 : List (Int)) (v2 : Int) (v3 : Int) (v4 : Int) (v5 : Int) (v6 : List (((List ((ByteArray × (Int × (Int × ((Int × (Int × Int)) × (Int × (Int × (Int × (Int × (Int × Int)))))))))) × List ((Int × (Int × (Int × (Int × Int)))))) × (List ((Int × (Int × List ((Int × (Int × Int)))))) × List ((Int × Int)))))) (v7 : Int) (v8 : Int) : Option ((List (((List ((ByteArray × (Int × (Int × ((Int × (Int × Int)) × (Int × (Int × (Int × (Int × (Int × Int)))))))))) × List ((Int × (Int × (Int × (Int × Int)))))) × (List ((Int × (Int × List ((Int × (Int × Int)))))) × List ((Int × Int))))) × List (Int) × Int × Int × Int × Int × List (((List ((ByteArray × (Int × (Int × ((Int × (Int × Int)) × (Int × (Int × (Int × (Int × (Int × Int)))))))))) × List ((Int × (Int × (Int × (Int × Int)))))) × (List ((Int × (Int × List ((Int × (Int × Int)))))) × List ((Int × Int))))) × Int × Int) ⊕ ((List (((List ((ByteArray × (Int × (Int × ((Int × (Int × Int)) × (Int × (Int × (Int × (Int × (Int × Int)))))))))) × List ((Int × (Int × (Int × (Int × Int)))))) × (List ((Int × (Int × List ((Int × (Int × Int)))))) × List ((Int × Int))))) × List (Int) × Int × Int × Int × Int))) :=
  (bif decide (v8 < v7) then (bif decide (0 ≤ v8) then (bif decide (v8 < (v6.length : Int)) then (bif (v8 == v2) then some (.inl (v0, v1, v2, v5, (IntKind.wrap .i64 (v5 + ((((v6.getD v8.toNat ((([] : List ((ByteArray × (Int × (Int × ((Int × (Int × Int)) × (Int × (Int × (Int × (Int × (Int × Int))))))))))), ([] : List ((Int × (Int × (Int × (Int × Int))))))), (([] : List ((Int × (Int × List ((Int × (Int × Int))))))), ([] : List ((Int × Int)))))).1).1).length : Int))), (IntKind.wrap .i64 (v5 + ((((v6.getD v8.toNat ((([] : List ((ByteArray × (Int × (Int × ((Int × (Int × Int)) × (Int × (Int × (Int × (Int × (Int × Int))))))))))), ([] : List ((Int × (Int × (Int × (Int × Int))))))), (([] : List ((Int × (Int × List ((Int × (Int × Int))))))), ([] : List ((Int × Int)))))).1).1).length : Int))), v6, v7, (IntKind.wrap .i64 (v8 + (1 : Int))))) else some (.inl (v0, v1, v2, v3, v4, (IntKind.wrap .i64 (v5 + ((((v6.getD v8.toNat ((([] : List ((ByteArray × (Int × (Int × ((Int × (Int × Int)) × (Int × (Int × (Int × (Int × (Int × Int))))))))))), ([] : List ((Int × (Int × (Int × (Int × Int))))))), (([] : List ((Int × (Int × List ((Int × (Int × Int))))))), ([] : List ((Int × Int)))))).1).1).length : Int))), v6, v7, (IntKind.wrap .i64 (v8 + (1 : Int)))))) else none) else none) else some (.inr (v0, v1, v2, v3, v4, v5)))
noncomputable def team_part_int64.p0.step (s : List (((List ((ByteArray × (Int × (Int × ((Int × (Int × Int)) × (Int × (Int × (Int × (Int × (Int × Int)))))))))) × List ((Int × (Int × (Int × (Int × Int)))))) × (List ((Int × (Int × List ((Int × (Int × Int)))))) × List ((Int × Int))))) × List (Int) × Int × Int × Int × Int × List (((List ((ByteArray × (Int × (Int × ((Int × (Int × Int)) × (Int × (Int × (Int × (Int × (Int × Int)))))))))) × List ((Int × (Int × (Int × (Int × Int)))))) × (List ((Int × (Int × List ((Int × (Int × Int)))))) × List ((Int × Int))))) × Int × Int) : Option ((List (((List ((ByteArray × (Int × (Int × ((Int × (Int × Int)) × (Int × (Int × (Int × (Int × (Int × Int)))))))))) × List ((Int × (Int × (Int × (Int × Int)))))) × (List ((Int × (Int × List ((Int × (Int × Int)))))) × List ((Int × Int))))) × List (Int) × Int × Int × Int × Int × List (((List ((ByteArray × (Int × (Int × ((Int × (Int × Int)) × (Int × (Int × (Int × (Int × (Int × Int)))))))))) × List ((Int × (Int × (Int × (Int × Int)))))) × (List ((Int × (Int × List ((Int × (Int × Int)))))) × List ((Int × Int))))) × Int × Int) ⊕ ((List (((List ((ByteArray × (Int × (Int × ((Int × (Int × Int)) × (Int × (Int × (Int × (Int × (Int × Int)))))))))) × List ((Int × (Int × (Int × (Int × Int)))))) × (List ((Int × (Int × List ((Int × (Int × Int)))))) × List ((Int × Int))))) × List (Int) × Int × Int × Int × Int))) := team_part_int64.p0.round s.1 s.2.1 s.2.2.1 s.2.2.2.1 s.2.2.2.2.1 s.2.2.2.2.2.1 s.2.2.2.2.2.2.1 s.2.2.2.2.2.2.2.1 s.2.2.2.2.2.2.2.2
noncomputable def team_part_int64.p0.inS : Shape := ⟨[(0, .lf (.dat (.pair (.pair (.slc tyJ) (.slc tyM)) (.pair (.slc tyS) (.slc tyK))))), (1, .lf (.dat (.int .i64))), (2, .lf (.sc (.int .i64))), (8, .lf (.sc (.int .i64))), (9, .lf (.sc (.int .i64))), (10, .lf (.sc (.int .i64))), (13, .lf (.dat (.pair (.pair (.slc tyJ) (.slc tyM)) (.pair (.slc tyS) (.slc tyK))))), (14, .lf (.sc (.int .i64))), (15, .lf (.sc (.int .i64)))], []⟩
noncomputable def team_part_int64.p0.w0 : Way := { ex := (.ex 0), S := ⟨[(0, .lf (.dat (.pair (.pair (.slc tyJ) (.slc tyM)) (.pair (.slc tyS) (.slc tyK))))), (1, .lf (.dat (.int .i64))), (2, .lf (.sc (.int .i64))), (8, .lf (.sc (.int .i64))), (9, .lf (.sc (.int .i64))), (10, .lf (.sc (.int .i64)))], []⟩, R := List (((List ((ByteArray × (Int × (Int × ((Int × (Int × Int)) × (Int × (Int × (Int × (Int × (Int × Int)))))))))) × List ((Int × (Int × (Int × (Int × Int)))))) × (List ((Int × (Int × List ((Int × (Int × Int)))))) × List ((Int × Int))))) × List (Int) × Int × Int × Int × Int, post := fun r => ((r.1, (r.2.1, (r.2.2.1, (r.2.2.2.1, (r.2.2.2.2.1, (r.2.2.2.2.2, ())))))), ()), un := fun x => (x.1.1, x.1.2.1, x.1.2.2.1, x.1.2.2.2.1, x.1.2.2.2.2.1, x.1.2.2.2.2.2.1) }
noncomputable def team_part_int64.p0.outs : List Way := [team_part_int64.p0.w0]
noncomputable def team_part_int64.p0.un (x : Tup team_part_int64.p0.inS) : List (((List ((ByteArray × (Int × (Int × ((Int × (Int × Int)) × (Int × (Int × (Int × (Int × (Int × Int)))))))))) × List ((Int × (Int × (Int × (Int × Int)))))) × (List ((Int × (Int × List ((Int × (Int × Int)))))) × List ((Int × Int))))) × List (Int) × Int × Int × Int × Int × List (((List ((ByteArray × (Int × (Int × ((Int × (Int × Int)) × (Int × (Int × (Int × (Int × (Int × Int)))))))))) × List ((Int × (Int × (Int × (Int × Int)))))) × (List ((Int × (Int × List ((Int × (Int × Int)))))) × List ((Int × Int))))) × Int × Int := (x.1.1, x.1.2.1, x.1.2.2.1, x.1.2.2.2.1, x.1.2.2.2.2.1, x.1.2.2.2.2.2.1, x.1.2.2.2.2.2.2.1, x.1.2.2.2.2.2.2.2.1, x.1.2.2.2.2.2.2.2.2.1)
noncomputable def team_part_int64.p0.lp : LProc := { inS := team_part_int64.p0.inS, outs := team_part_int64.p0.outs, F := fun x => loopF team_part_int64.p0.step (team_part_int64.p0.un x) }
noncomputable def team_part_int64.F0 (a0 : List (((List ((ByteArray × (Int × (Int × ((Int × (Int × Int)) × (Int × (Int × (Int × (Int × (Int × Int)))))))))) × List ((Int × (Int × (Int × (Int × Int)))))) × (List ((Int × (Int × List ((Int × (Int × Int)))))) × List ((Int × Int)))))) (a1 : List (Int)) (a2 : Int) : Option (Bool × List (Int)) :=
  ((loopF team_part_int64.p0.step (a0, a1, a2, (0 : Int), (0 : Int), (0 : Int), a0, (a0.length : Int), (0 : Int))).bind fun y1 => (bif decide (y1.2.2.1 < (0 : Int)) then some (false, ([] : List (Int))) else (bif decide (y1.2.2.1 ≥ (y1.1.length : Int)) then some (false, ([] : List (Int))) else (bif ((y1.2.1.length : Int) != y1.2.2.2.2.2) then some (false, ([] : List (Int))) else (bif decide (0 ≤ y1.2.2.2.1) then (bif decide (y1.2.2.2.1 ≤ y1.2.2.2.2.1) then (bif decide (y1.2.2.2.2.1 ≤ (y1.2.1.length : Int)) then ((slices_Clone_int64.F ((y1.2.1.take y1.2.2.2.2.1.toNat).drop y1.2.2.2.1.toNat)).bind fun r2 => some (true, r2)) else none) else none) else none)))))
noncomputable def team_part_int64.F : (List (((List ((ByteArray × (Int × (Int × ((Int × (Int × Int)) × (Int × (Int × (Int × (Int × (Int × Int)))))))))) × List ((Int × (Int × (Int × (Int × Int)))))) × (List ((Int × (Int × List ((Int × (Int × Int)))))) × List ((Int × Int)))))) → (List (Int)) → Int → Option (Bool × List (Int)) := lock team_part_int64.F0
theorem team_part_int64.F_eq : team_part_int64.F = team_part_int64.F0 := lock_eq _
noncomputable def team_part_int64.p : Proc := { nargs := 3, inS := ⟨[(0, .lf (.dat (.pair (.pair (.slc tyJ) (.slc tyM)) (.pair (.slc tyS) (.slc tyK))))), (1, .lf (.dat (.int .i64))), (2, .lf (.sc (.int .i64)))], []⟩, outS := ⟨[(0, .lf (.own 0)), (1, .lf (.sc .bool))], [.row 2 (.int .i64)]⟩, n0 := 0, R := Bool × List (Int), F := fun x => team_part_int64.F x.1.1 x.1.2.1 x.1.2.2.1, post := fun r => (((), (r.1, ())), (r.2, ())), un := fun x => (x.1.2.1, x.2.1) }
noncomputable def team_part_int64.E : Env := { P := Try.prog, ty := tyTab [], glob := glob0, proc := procTab [(87, slices_Clone_int64.p)], lproc := lprocTab [(0, team_part_int64.p0.lp)], n0 := 0, ntmps := 56 }
theorem team_part_int64.ok : ProcsOk team_part_int64.E := AllSound.ok (l := [(87, slices_Clone_int64.p)]) (by kernel_rfl) rfl ⟨slices_Clone_int64.sound, trivial⟩
noncomputable def team_part_int64.body0 : Code := (match Try.f45.body with | some c => c | none => .skip)
noncomputable def team_part_int64.p0.c : Code := ((codeAt team_part_int64.body0 [.r, .r, .l, .r, .b, .b]).getD .skip)
noncomputable def team_part_int64.p0.ann : Ann := .z
set_option maxRecDepth 100000 in
theorem team_part_int64.p0.eq (x : Tup team_part_int64.p0.inS) : peRound team_part_int64.E team_part_int64.p0.c team_part_int64.p0.ann _ team_part_int64.p0.inS team_part_int64.p0.un team_part_int64.p0.outs x = team_part_int64.p0.step (team_part_int64.p0.un x) := by
  kernel_rfl
set_option maxRecDepth 100000 in
theorem team_part_int64.p0.sound : LProcSound team_part_int64.E (.loop team_part_int64.p0.c) team_part_int64.p0.lp :=
  loop_sound (c := team_part_int64.p0.c) (ann := team_part_int64.p0.ann) team_part_int64.ok ((SubsOk_z _ _) : SubsOk team_part_int64.E team_part_int64.p0.c team_part_int64.p0.ann) (by intro a ha; simp only [team_part_int64.p0.outs, List.mem_cons, List.not_mem_nil, or_false] at ha; rcases ha with rfl <;> exact fun _ => rfl) team_part_int64.p0.eq
noncomputable def team_part_int64.ann : Ann := .s (.z) (.s (.z) (.s (.s (.z) (.b (.sub 0))) (.z)))
set_option maxRecDepth 100000 in
theorem team_part_int64.eq (x : Tup team_part_int64.p.inS) : peFn team_part_int64.E Try.f45 team_part_int64.ann team_part_int64.p x = team_part_int64.p.F x := by
  have h : peFn team_part_int64.E Try.f45 team_part_int64.ann team_part_int64.p x = team_part_int64.F0 x.1.1 x.1.2.1 x.1.2.2.1 := by kernel_rfl
  exact h.trans (by show _ = team_part_int64.F x.1.1 x.1.2.1 x.1.2.2.1; rw [team_part_int64.F_eq])
set_option maxRecDepth 100000 in
theorem team_part_int64.sound : ProcSound Try.prog glob0 45 team_part_int64.p :=
  fn_sound (E := team_part_int64.E) (c := team_part_int64.body0) (ann := team_part_int64.ann) team_part_int64.ok Try.func45 (of_decide_eq_true (by kernel_rfl)) rfl rfl rfl (by decide +kernel) (⟨(SubsOk_z _ _), ⟨(SubsOk_z _ _), ⟨⟨(SubsOk_z _ _), (sub_of rfl team_part_int64.p0.sound)⟩, (SubsOk_z _ _)⟩⟩⟩ : SubsOk team_part_int64.E team_part_int64.body0 team_part_int64.ann) (fun _ => rfl) rfl team_part_int64.eq

end Go.Abs
