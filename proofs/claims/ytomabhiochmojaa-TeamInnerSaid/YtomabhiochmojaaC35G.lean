/- A part of the proof that the text with the row names: printed readings of functions, or plain lemmas about them. -/
import Derived.Test.YtomabhiochmojaaAbsD
import Derived.Test.YtomabhiochmojaaProg
import Derived.KernelRfl
set_option linter.unusedVariables false
set_option maxRecDepth 100000
set_option linter.unusedSimpArgs false
namespace Go.Abs
open Go Go.Proofs

abbrev tyJ : Ty := .pair .str (.pair (.int .i64) (.pair (.int .i64) (.pair (.pair (.int .i64) (.pair (.int .i64) (.int .i64))) (.pair (.int .i64) (.pair (.int .i64) (.pair (.int .i64) (.pair (.int .i64) (.pair (.int .i64) (.int .i64)))))))))
abbrev tyM : Ty := .pair (.int .i64) (.pair (.int .i64) (.pair (.int .i64) (.pair (.int .i64) (.int .i64))))
abbrev tyS : Ty := .pair (.int .i64) (.pair (.int .i64) (.slc (.pair (.int .i64) (.pair (.int .i64) (.int .i64)))))
abbrev tyV : Ty := .pair (.int .i64) (.pair (.int .i64) (.int .i64))
abbrev tyK : Ty := .pair (.int .i64) (.int .i64)

noncomputable def glob0 : Nat → Option (List DLeaf) := globTab []

noncomputable def mk_Round.F0 (a0 : Int) (a1 : Int) : Option (Int) :=
  (bif (a1 != 0) then (bif decide ((a0.tmod a1) < (0 : Int)) then some (IntKind.wrap .i64 ((a0.tmod a1) + a1)) else some (a0.tmod a1)) else none)
noncomputable def mk_Round.F : Int → Int → Option (Int) := lock mk_Round.F0
theorem mk_Round.F_eq : mk_Round.F = mk_Round.F0 := lock_eq _
noncomputable def mk_Round.p : Proc := { nargs := 2, inS := ⟨[(0, .lf (.sc (.int .i64))), (1, .lf (.sc (.int .i64)))], []⟩, outS := ⟨[(0, .lf (.sc (.int .i64)))], []⟩, n0 := 0, R := Int, F := fun x => mk_Round.F x.1.1 x.1.2.1, post := fun r => ((r, ()), ()), un := fun x => x.1.1 }
noncomputable def mk_Round.E : Env := { P := Try.prog, ty := tyTab [], glob := glob0, proc := procTab [], lproc := lprocTab [], n0 := 0, ntmps := 15 }
theorem mk_Round.ok : ProcsOk mk_Round.E := AllSound.ok (l := []) (by kernel_rfl) rfl trivial
noncomputable def mk_Round.body0 : Code := (match Try.f12.body with | some c => c | none => .skip)
noncomputable def mk_Round.ann : Ann := .z
theorem mk_Round.eq (x : Tup mk_Round.p.inS) : peFn mk_Round.E Try.f12 mk_Round.ann mk_Round.p x = mk_Round.p.F x := by
  have h : peFn mk_Round.E Try.f12 mk_Round.ann mk_Round.p x = mk_Round.F0 x.1.1 x.1.2.1 := by kernel_rfl
  exact h.trans (by show _ = mk_Round.F x.1.1 x.1.2.1; rw [mk_Round.F_eq])
theorem mk_Round.sound : ProcSound Try.prog glob0 12 mk_Round.p :=
  fn_sound (E := mk_Round.E) (c := mk_Round.body0) (ann := mk_Round.ann) mk_Round.ok Try.func12 (of_decide_eq_true (by kernel_rfl)) rfl rfl rfl (by decide +kernel) ((SubsOk_z _ _) : SubsOk mk_Round.E mk_Round.body0 mk_Round.ann) (fun _ => rfl) rfl mk_Round.eq

noncomputable def mk_Same_int64.p0.round (v0 : List (Int)) (v1 : List (Int)) (v2 : Int) : Option ((List (Int) × List (Int) × Int) ⊕ ((Bool) ⊕ (Unit))) :=
  (bif decide (v2 < (v0.length : Int)) then (bif decide (0 ≤ v2) then (bif decide (v2 < (v0.length : Int)) then (bif decide (0 ≤ v2) then (bif decide (v2 < (v1.length : Int)) then (bif ((v0.getD v2.toNat (0 : Int)) != (v1.getD v2.toNat (0 : Int))) then some (.inr (.inl false)) else some (.inl (v0, v1, (IntKind.wrap .i64 (v2 + (1 : Int)))))) else none) else none) else none) else none) else some (.inr (.inr ())))
noncomputable def mk_Same_int64.p0.step (s : List (Int) × List (Int) × Int) : Option ((List (Int) × List (Int) × Int) ⊕ ((Bool) ⊕ (Unit))) := mk_Same_int64.p0.round s.1 s.2.1 s.2.2
noncomputable def mk_Same_int64.p0.inS : Shape := ⟨[(0, .lf (.dat (.int .i64))), (1, .lf (.dat (.int .i64))), (5, .lf (.sc (.int .i64)))], []⟩
noncomputable def mk_Same_int64.p0.w0 : Way := { ex := .rt, S := ⟨[(4, .lf (.sc .bool))], []⟩, R := Bool, post := fun r => ((r, ()), ()), un := fun x => x.1.1 }
noncomputable def mk_Same_int64.p0.w1 : Way := { ex := (.ex 0), S := ⟨[], []⟩, R := Unit, post := fun r => ((), ()), un := fun x => () }
noncomputable def mk_Same_int64.p0.outs : List Way := [mk_Same_int64.p0.w0, mk_Same_int64.p0.w1]
noncomputable def mk_Same_int64.p0.un (x : Tup mk_Same_int64.p0.inS) : List (Int) × List (Int) × Int := (x.1.1, x.1.2.1, x.1.2.2.1)
noncomputable def mk_Same_int64.p0.lp : LProc := { inS := mk_Same_int64.p0.inS, outs := mk_Same_int64.p0.outs, F := fun x => loopF mk_Same_int64.p0.step (mk_Same_int64.p0.un x) }
noncomputable def mk_Same_int64.F0 (a0 : List (Int)) (a1 : List (Int)) : Option (Bool) :=
  (bif ((a0.length : Int) != (a1.length : Int)) then some false else ((loopF mk_Same_int64.p0.step (a0, a1, (0 : Int))).bind fun y1 => (Sum.elim (fun y2 => some y2) (fun z3 => some true) y1)))
noncomputable def mk_Same_int64.F : (List (Int)) → (List (Int)) → Option (Bool) := lock mk_Same_int64.F0
theorem mk_Same_int64.F_eq : mk_Same_int64.F = mk_Same_int64.F0 := lock_eq _
noncomputable def mk_Same_int64.p : Proc := { nargs := 2, inS := ⟨[(0, .lf (.dat (.int .i64))), (1, .lf (.dat (.int .i64)))], []⟩, outS := ⟨[(0, .lf (.sc .bool))], []⟩, n0 := 0, R := Bool, F := fun x => mk_Same_int64.F x.1.1 x.1.2.1, post := fun r => ((r, ()), ()), un := fun x => x.1.1 }
noncomputable def mk_Same_int64.E : Env := { P := Try.prog, ty := tyTab [], glob := glob0, proc := procTab [], lproc := lprocTab [(0, mk_Same_int64.p0.lp)], n0 := 0, ntmps := 26 }
theorem mk_Same_int64.ok : ProcsOk mk_Same_int64.E := AllSound.ok (l := []) (by kernel_rfl) rfl trivial
noncomputable def mk_Same_int64.body0 : Code := (match Try.f21.body with | some c => c | none => .skip)
noncomputable def mk_Same_int64.p0.c : Code := ((codeAt mk_Same_int64.body0 [.r, .r, .l, .r, .b, .b]).getD .skip)
noncomputable def mk_Same_int64.p0.ann : Ann := .z
theorem mk_Same_int64.p0.eq (x : Tup mk_Same_int64.p0.inS) : peRound mk_Same_int64.E mk_Same_int64.p0.c mk_Same_int64.p0.ann _ mk_Same_int64.p0.inS mk_Same_int64.p0.un mk_Same_int64.p0.outs x = mk_Same_int64.p0.step (mk_Same_int64.p0.un x) := by
  kernel_rfl
theorem mk_Same_int64.p0.sound : LProcSound mk_Same_int64.E (.loop mk_Same_int64.p0.c) mk_Same_int64.p0.lp :=
  loop_sound (c := mk_Same_int64.p0.c) (ann := mk_Same_int64.p0.ann) mk_Same_int64.ok ((SubsOk_z _ _) : SubsOk mk_Same_int64.E mk_Same_int64.p0.c mk_Same_int64.p0.ann) (by intro a ha; simp only [mk_Same_int64.p0.outs, List.mem_cons, List.not_mem_nil, or_false] at ha; rcases ha with rfl | rfl <;> exact fun _ => rfl) mk_Same_int64.p0.eq
noncomputable def mk_Same_int64.ann : Ann := .s (.z) (.s (.z) (.s (.s (.z) (.b (.sub 0))) (.z)))
theorem mk_Same_int64.eq (x : Tup mk_Same_int64.p.inS) : peFn mk_Same_int64.E Try.f21 mk_Same_int64.ann mk_Same_int64.p x = mk_Same_int64.p.F x := by
  have h : peFn mk_Same_int64.E Try.f21 mk_Same_int64.ann mk_Same_int64.p x = mk_Same_int64.F0 x.1.1 x.1.2.1 := by kernel_rfl
  exact h.trans (by show _ = mk_Same_int64.F x.1.1 x.1.2.1; rw [mk_Same_int64.F_eq])
theorem mk_Same_int64.sound : ProcSound Try.prog glob0 21 mk_Same_int64.p :=
  fn_sound (E := mk_Same_int64.E) (c := mk_Same_int64.body0) (ann := mk_Same_int64.ann) mk_Same_int64.ok Try.func21 (of_decide_eq_true (by kernel_rfl)) rfl rfl rfl (by decide +kernel) (⟨(SubsOk_z _ _), ⟨(SubsOk_z _ _), ⟨⟨(SubsOk_z _ _), (sub_of rfl mk_Same_int64.p0.sound)⟩, (SubsOk_z _ _)⟩⟩⟩ : SubsOk mk_Same_int64.E mk_Same_int64.body0 mk_Same_int64.ann) (fun _ => rfl) rfl mk_Same_int64.eq

noncomputable def mk_SmallScene.F0 (a0 : List ((ByteArray × (Int × (Int × ((Int × (Int × Int)) × (Int × (Int × (Int × (Int × (Int × Int))))))))))) (a1 : List ((Int × (Int × (Int × (Int × Int)))))) (a2 : List ((Int × (Int × List ((Int × (Int × Int))))))) (a3 : List ((Int × Int))) : Option (Bool) :=
  (bif decide ((a0.length : Int) ≤ (4 : Int)) then (bif decide ((a1.length : Int) ≤ (6 : Int)) then (bif decide ((a2.length : Int) ≤ (6 : Int)) then some (decide ((a3.length : Int) ≤ (8 : Int))) else some false) else some false) else some false)
noncomputable def mk_SmallScene.F : (List ((ByteArray × (Int × (Int × ((Int × (Int × Int)) × (Int × (Int × (Int × (Int × (Int × Int))))))))))) → (List ((Int × (Int × (Int × (Int × Int)))))) → (List ((Int × (Int × List ((Int × (Int × Int))))))) → (List ((Int × Int))) → Option (Bool) := lock mk_SmallScene.F0
theorem mk_SmallScene.F_eq : mk_SmallScene.F = mk_SmallScene.F0 := lock_eq _
noncomputable def mk_SmallScene.p : Proc := { nargs := 1, inS := ⟨[(0, .ag [.dat tyJ, .dat tyM, .dat tyS, .dat tyK])], []⟩, outS := ⟨[(0, .lf (.sc .bool))], []⟩, n0 := 0, R := Bool, F := fun x => mk_SmallScene.F x.1.1.1 x.1.1.2.1 x.1.1.2.2.1 x.1.1.2.2.2.1, post := fun r => ((r, ()), ()), un := fun x => x.1.1 }
noncomputable def mk_SmallScene.E : Env := { P := Try.prog, ty := tyTab [], glob := glob0, proc := procTab [], lproc := lprocTab [], n0 := 0, ntmps := 27 }
theorem mk_SmallScene.ok : ProcsOk mk_SmallScene.E := AllSound.ok (l := []) (by kernel_rfl) rfl trivial
noncomputable def mk_SmallScene.body0 : Code := (match Try.f29.body with | some c => c | none => .skip)
noncomputable def mk_SmallScene.ann : Ann := .z
theorem mk_SmallScene.eq (x : Tup mk_SmallScene.p.inS) : peFn mk_SmallScene.E Try.f29 mk_SmallScene.ann mk_SmallScene.p x = mk_SmallScene.p.F x := by
  have h : peFn mk_SmallScene.E Try.f29 mk_SmallScene.ann mk_SmallScene.p x = mk_SmallScene.F0 x.1.1.1 x.1.1.2.1 x.1.1.2.2.1 x.1.1.2.2.2.1 := by kernel_rfl
  exact h.trans (by show _ = mk_SmallScene.F x.1.1.1 x.1.1.2.1 x.1.1.2.2.1 x.1.1.2.2.2.1; rw [mk_SmallScene.F_eq])
theorem mk_SmallScene.sound : ProcSound Try.prog glob0 29 mk_SmallScene.p :=
  fn_sound (E := mk_SmallScene.E) (c := mk_SmallScene.body0) (ann := mk_SmallScene.ann) mk_SmallScene.ok Try.func29 (of_decide_eq_true (by kernel_rfl)) rfl rfl rfl (by decide +kernel) ((SubsOk_z _ _) : SubsOk mk_SmallScene.E mk_SmallScene.body0 mk_SmallScene.ann) (fun _ => rfl) rfl mk_SmallScene.eq

noncomputable def mk_From.F0 (a0 : List (Int)) : Option (List (Int) × Int) :=
  some (a0, (0 : Int))
noncomputable def mk_From.F : (List (Int)) → Option (List (Int) × Int) := lock mk_From.F0
theorem mk_From.F_eq : mk_From.F = mk_From.F0 := lock_eq _
noncomputable def mk_From.p : Proc := { nargs := 1, inS := ⟨[(0, .lf (.dat (.int .i64)))], []⟩, outS := ⟨[(0, .lf (.bp 0 0))], [.box [.dat (.int .i64), .sc (.int .i64)]]⟩, n0 := 0, R := List (Int) × Int, F := fun x => mk_From.F x.1.1, post := fun r => (((), ()), ((r.1, (r.2, ())), ())), un := fun x => (x.2.1.1, x.2.1.2.1) }
noncomputable def mk_From.E : Env := { P := Try.prog, ty := tyTab [], glob := glob0, proc := procTab [], lproc := lprocTab [], n0 := 0, ntmps := 6 }
theorem mk_From.ok : ProcsOk mk_From.E := AllSound.ok (l := []) (by kernel_rfl) rfl trivial
noncomputable def mk_From.body0 : Code := (match Try.f31.body with | some c => c | none => .skip)
noncomputable def mk_From.ann : Ann := .z
theorem mk_From.eq (x : Tup mk_From.p.inS) : peFn mk_From.E Try.f31 mk_From.ann mk_From.p x = mk_From.p.F x := by
  have h : peFn mk_From.E Try.f31 mk_From.ann mk_From.p x = mk_From.F0 x.1.1 := by kernel_rfl
  exact h.trans (by show _ = mk_From.F x.1.1; rw [mk_From.F_eq])
theorem mk_From.sound : ProcSound Try.prog glob0 31 mk_From.p :=
  fn_sound (E := mk_From.E) (c := mk_From.body0) (ann := mk_From.ann) mk_From.ok Try.func31 (of_decide_eq_true (by kernel_rfl)) rfl rfl rfl (by decide +kernel) ((SubsOk_z _ _) : SubsOk mk_From.E mk_From.body0 mk_From.ann) (fun _ => rfl) rfl mk_From.eq

noncomputable def mk_Source_Next.F0 (a0 : Int) (a1 : List (Int)) (a2 : Int) : Option (Int × List (Int) × Int) :=
  (bif decide (a2 ≥ (a1.length : Int)) then some ((0 : Int), a1, a2) else (bif decide (0 ≤ (IntKind.wrap .i64 ((IntKind.wrap .i64 (a2 + (1 : Int))) - (1 : Int)))) then (bif decide ((IntKind.wrap .i64 ((IntKind.wrap .i64 (a2 + (1 : Int))) - (1 : Int))) < (a1.length : Int)) then ((mk_Round.F (a1.getD (IntKind.wrap .i64 ((IntKind.wrap .i64 (a2 + (1 : Int))) - (1 : Int))).toNat (0 : Int)) a0).bind fun r1 => some (r1, a1, (IntKind.wrap .i64 (a2 + (1 : Int))))) else none) else none))
noncomputable def mk_Source_Next.F : Int → (List (Int)) → Int → Option (Int × List (Int) × Int) := lock mk_Source_Next.F0
theorem mk_Source_Next.F_eq : mk_Source_Next.F = mk_Source_Next.F0 := lock_eq _
noncomputable def mk_Source_Next.p : Proc := { nargs := 2, inS := ⟨[(0, .lf (.bp 0 0)), (1, .lf (.sc (.int .i64)))], [.box [.dat (.int .i64), .sc (.int .i64)]]⟩, outS := ⟨[(0, .lf (.sc (.int .i64)))], [.box [.dat (.int .i64), .sc (.int .i64)]]⟩, n0 := 1, R := Int × List (Int) × Int, F := fun x => mk_Source_Next.F x.1.2.1 x.2.1.1 x.2.1.2.1, post := fun r => ((r.1, ()), ((r.2.1, (r.2.2, ())), ())), un := fun x => (x.1.1, x.2.1.1, x.2.1.2.1) }
noncomputable def mk_Source_Next.E : Env := { P := Try.prog, ty := tyTab [], glob := glob0, proc := procTab [(12, mk_Round.p)], lproc := lprocTab [], n0 := 1, ntmps := 35 }
theorem mk_Source_Next.ok : ProcsOk mk_Source_Next.E := AllSound.ok (l := [(12, mk_Round.p)]) (by kernel_rfl) rfl ⟨mk_Round.sound, trivial⟩
noncomputable def mk_Source_Next.body0 : Code := (match Try.f32.body with | some c => c | none => .skip)
noncomputable def mk_Source_Next.ann : Ann := .z
theorem mk_Source_Next.eq (x : Tup mk_Source_Next.p.inS) : peFn mk_Source_Next.E Try.f32 mk_Source_Next.ann mk_Source_Next.p x = mk_Source_Next.p.F x := by
  have h : peFn mk_Source_Next.E Try.f32 mk_Source_Next.ann mk_Source_Next.p x = mk_Source_Next.F0 x.1.2.1 x.2.1.1 x.2.1.2.1 := by kernel_rfl
  exact h.trans (by show _ = mk_Source_Next.F x.1.2.1 x.2.1.1 x.2.1.2.1; rw [mk_Source_Next.F_eq])
theorem mk_Source_Next.sound : ProcSound Try.prog glob0 32 mk_Source_Next.p :=
  fn_sound (E := mk_Source_Next.E) (c := mk_Source_Next.body0) (ann := mk_Source_Next.ann) mk_Source_Next.ok Try.func32 (of_decide_eq_true (by kernel_rfl)) rfl rfl rfl (by decide +kernel) ((SubsOk_z _ _) : SubsOk mk_Source_Next.E mk_Source_Next.body0 mk_Source_Next.ann) (fun _ => rfl) rfl mk_Source_Next.eq

noncomputable def mk_Source_Signed.F0 (a0 : Int) (a1 : List (Int)) (a2 : Int) : Option (Int × List (Int) × Int) :=
  ((mk_Source_Next.F (IntKind.wrap .i64 ((IntKind.wrap .i64 ((2 : Int) * a0)) + (1 : Int))) a1 a2).bind fun r1 => some ((IntKind.wrap .i64 (r1.1 - a0)), r1.2.1, r1.2.2))
noncomputable def mk_Source_Signed.F : Int → (List (Int)) → Int → Option (Int × List (Int) × Int) := lock mk_Source_Signed.F0
theorem mk_Source_Signed.F_eq : mk_Source_Signed.F = mk_Source_Signed.F0 := lock_eq _
noncomputable def mk_Source_Signed.p : Proc := { nargs := 2, inS := ⟨[(0, .lf (.bp 0 0)), (1, .lf (.sc (.int .i64)))], [.box [.dat (.int .i64), .sc (.int .i64)]]⟩, outS := ⟨[(0, .lf (.sc (.int .i64)))], [.box [.dat (.int .i64), .sc (.int .i64)]]⟩, n0 := 1, R := Int × List (Int) × Int, F := fun x => mk_Source_Signed.F x.1.2.1 x.2.1.1 x.2.1.2.1, post := fun r => ((r.1, ()), ((r.2.1, (r.2.2, ())), ())), un := fun x => (x.1.1, x.2.1.1, x.2.1.2.1) }
noncomputable def mk_Source_Signed.E : Env := { P := Try.prog, ty := tyTab [], glob := glob0, proc := procTab [(32, mk_Source_Next.p)], lproc := lprocTab [], n0 := 1, ntmps := 12 }
theorem mk_Source_Signed.ok : ProcsOk mk_Source_Signed.E := AllSound.ok (l := [(32, mk_Source_Next.p)]) (by kernel_rfl) rfl ⟨mk_Source_Next.sound, trivial⟩
noncomputable def mk_Source_Signed.body0 : Code := (match Try.f35.body with | some c => c | none => .skip)
noncomputable def mk_Source_Signed.ann : Ann := .z
theorem mk_Source_Signed.eq (x : Tup mk_Source_Signed.p.inS) : peFn mk_Source_Signed.E Try.f35 mk_Source_Signed.ann mk_Source_Signed.p x = mk_Source_Signed.p.F x := by
  have h : peFn mk_Source_Signed.E Try.f35 mk_Source_Signed.ann mk_Source_Signed.p x = mk_Source_Signed.F0 x.1.2.1 x.2.1.1 x.2.1.2.1 := by kernel_rfl
  exact h.trans (by show _ = mk_Source_Signed.F x.1.2.1 x.2.1.1 x.2.1.2.1; rw [mk_Source_Signed.F_eq])
theorem mk_Source_Signed.sound : ProcSound Try.prog glob0 35 mk_Source_Signed.p :=
  fn_sound (E := mk_Source_Signed.E) (c := mk_Source_Signed.body0) (ann := mk_Source_Signed.ann) mk_Source_Signed.ok Try.func35 (of_decide_eq_true (by kernel_rfl)) rfl rfl rfl (by decide +kernel) ((SubsOk_z _ _) : SubsOk mk_Source_Signed.E mk_Source_Signed.body0 mk_Source_Signed.ann) (fun _ => rfl) rfl mk_Source_Signed.eq

noncomputable def slices_Index_Pair.p0.round (v0 : List ((Int × Int))) (v1 : Int) (v2 : Int) (v3 : Int) (v4 : Int) : Option ((List ((Int × Int)) × Int × Int × Int × Int) ⊕ ((Int) ⊕ (Unit))) :=
  (bif decide (v2 < v1) then (bif decide (0 ≤ v2) then (bif decide (v2 < (v0.length : Int)) then (bif ((v3 == (v0.getD v2.toNat ((0 : Int), (0 : Int))).1) && ((v4 == (v0.getD v2.toNat ((0 : Int), (0 : Int))).2) && true)) then some (.inr (.inl v2)) else some (.inl (v0, v1, (IntKind.wrap .i64 (v2 + (1 : Int))), v3, v4))) else none) else none) else some (.inr (.inr ())))
noncomputable def slices_Index_Pair.p0.step (s : List ((Int × Int)) × Int × Int × Int × Int) : Option ((List ((Int × Int)) × Int × Int × Int × Int) ⊕ ((Int) ⊕ (Unit))) := slices_Index_Pair.p0.round s.1 s.2.1 s.2.2.1 s.2.2.2.1 s.2.2.2.2
noncomputable def slices_Index_Pair.p0.inS : Shape := ⟨[(0, .lf (.dat tyK)), (3, .lf (.bp 0 0)), (7, .lf (.sc (.int .i64))), (8, .lf (.sc (.int .i64)))], [.box [.sc (.int .i64), .sc (.int .i64)]]⟩
noncomputable def slices_Index_Pair.p0.w0 : Way := { ex := .rt, S := ⟨[(4, .lf (.sc (.int .i64)))], []⟩, R := Int, post := fun r => ((r, ()), ()), un := fun x => x.1.1 }
noncomputable def slices_Index_Pair.p0.w1 : Way := { ex := (.ex 0), S := ⟨[], []⟩, R := Unit, post := fun r => ((), ()), un := fun x => () }
noncomputable def slices_Index_Pair.p0.outs : List Way := [slices_Index_Pair.p0.w0, slices_Index_Pair.p0.w1]
noncomputable def slices_Index_Pair.p0.un (x : Tup slices_Index_Pair.p0.inS) : List ((Int × Int)) × Int × Int × Int × Int := (x.1.1, x.1.2.2.1, x.1.2.2.2.1, x.2.1.1, x.2.1.2.1)
noncomputable def slices_Index_Pair.p0.lp : LProc := { inS := slices_Index_Pair.p0.inS, outs := slices_Index_Pair.p0.outs, F := fun x => loopF slices_Index_Pair.p0.step (slices_Index_Pair.p0.un x) }
noncomputable def slices_Index_Pair.F0 (a0 : List ((Int × Int))) (a1 : Int) (a2 : Int) : Option (Int) :=
  ((loopF slices_Index_Pair.p0.step (a0, (a0.length : Int), (0 : Int), a1, a2)).bind fun y1 => (Sum.elim (fun y2 => some y2) (fun z3 => some (-1 : Int)) y1))
noncomputable def slices_Index_Pair.F : (List ((Int × Int))) → Int → Int → Option (Int) := lock slices_Index_Pair.F0
theorem slices_Index_Pair.F_eq : slices_Index_Pair.F = slices_Index_Pair.F0 := lock_eq _
noncomputable def slices_Index_Pair.p : Proc := { nargs := 2, inS := ⟨[(0, .lf (.dat tyK)), (1, .ag [.sc (.int .i64), .sc (.int .i64)])], []⟩, outS := ⟨[(0, .lf (.sc (.int .i64)))], []⟩, n0 := 0, R := Int, F := fun x => slices_Index_Pair.F x.1.1 x.1.2.1.1 x.1.2.1.2.1, post := fun r => ((r, ()), ()), un := fun x => x.1.1 }
noncomputable def slices_Index_Pair.E : Env := { P := Try.prog, ty := tyTab [], glob := glob0, proc := procTab [], lproc := lprocTab [(0, slices_Index_Pair.p0.lp)], n0 := 0, ntmps := 19 }
theorem slices_Index_Pair.ok : ProcsOk slices_Index_Pair.E := AllSound.ok (l := []) (by kernel_rfl) rfl trivial
noncomputable def slices_Index_Pair.body0 : Code := (match Try.f52.body with | some c => c | none => .skip)
noncomputable def slices_Index_Pair.p0.c : Code := ((codeAt slices_Index_Pair.body0 [.r, .l, .r, .b, .b]).getD .skip)
noncomputable def slices_Index_Pair.p0.ann : Ann := .z
theorem slices_Index_Pair.p0.eq (x : Tup slices_Index_Pair.p0.inS) : peRound slices_Index_Pair.E slices_Index_Pair.p0.c slices_Index_Pair.p0.ann _ slices_Index_Pair.p0.inS slices_Index_Pair.p0.un slices_Index_Pair.p0.outs x = slices_Index_Pair.p0.step (slices_Index_Pair.p0.un x) := by
  kernel_rfl
theorem slices_Index_Pair.p0.sound : LProcSound slices_Index_Pair.E (.loop slices_Index_Pair.p0.c) slices_Index_Pair.p0.lp :=
  loop_sound (c := slices_Index_Pair.p0.c) (ann := slices_Index_Pair.p0.ann) slices_Index_Pair.ok ((SubsOk_z _ _) : SubsOk slices_Index_Pair.E slices_Index_Pair.p0.c slices_Index_Pair.p0.ann) (by intro a ha; simp only [slices_Index_Pair.p0.outs, List.mem_cons, List.not_mem_nil, or_false] at ha; rcases ha with rfl | rfl <;> exact fun _ => rfl) slices_Index_Pair.p0.eq
noncomputable def slices_Index_Pair.ann : Ann := .s (.z) (.s (.s (.z) (.b (.sub 0))) (.z))
theorem slices_Index_Pair.eq (x : Tup slices_Index_Pair.p.inS) : peFn slices_Index_Pair.E Try.f52 slices_Index_Pair.ann slices_Index_Pair.p x = slices_Index_Pair.p.F x := by
  have h : peFn slices_Index_Pair.E Try.f52 slices_Index_Pair.ann slices_Index_Pair.p x = slices_Index_Pair.F0 x.1.1 x.1.2.1.1 x.1.2.1.2.1 := by kernel_rfl
  exact h.trans (by show _ = slices_Index_Pair.F x.1.1 x.1.2.1.1 x.1.2.1.2.1; rw [slices_Index_Pair.F_eq])
theorem slices_Index_Pair.sound : ProcSound Try.prog glob0 52 slices_Index_Pair.p :=
  fn_sound (E := slices_Index_Pair.E) (c := slices_Index_Pair.body0) (ann := slices_Index_Pair.ann) slices_Index_Pair.ok Try.func52 (of_decide_eq_true (by kernel_rfl)) rfl rfl rfl (by decide +kernel) (⟨(SubsOk_z _ _), ⟨⟨(SubsOk_z _ _), (sub_of rfl slices_Index_Pair.p0.sound)⟩, (SubsOk_z _ _)⟩⟩ : SubsOk slices_Index_Pair.E slices_Index_Pair.body0 slices_Index_Pair.ann) (fun _ => rfl) rfl slices_Index_Pair.eq

noncomputable def r6_Skipped.p0.round (v0 : Int) (v1 : Int) (v2 : Int) (v3 : List ((ByteArray × (Int × (Int × ((Int × (Int × Int)) × (Int × (Int × (Int × (Int × (Int × Int))))))))))) (v4 : List ((Int × (Int × (Int × (Int × Int)))))) (v5 : List ((Int × (Int × List ((Int × (Int × Int))))))) (v6 : List ((Int × Int))) : Option ((Int × Int × Int × List ((ByteArray × (Int × (Int × ((Int × (Int × Int)) × (Int × (Int × (Int × (Int × (Int × Int)))))))))) × List ((Int × (Int × (Int × (Int × Int))))) × List ((Int × (Int × List ((Int × (Int × Int)))))) × List ((Int × Int))) ⊕ ((Bool) ⊕ (Unit))) :=
  (bif decide (v2 < (v6.length : Int)) then (bif decide (0 ≤ v2) then (bif decide (v2 < (v6.length : Int)) then (bif ((v6.getD v2.toNat ((0 : Int), (0 : Int))).1 == v0) then (bif ((v6.getD v2.toNat ((0 : Int), (0 : Int))).2 == v1) then some (.inr (.inl true)) else (bif ((v6.getD v2.toNat ((0 : Int), (0 : Int))).1 == v1) then (bif ((v6.getD v2.toNat ((0 : Int), (0 : Int))).2 == v0) then some (.inr (.inl true)) else some (.inl (v0, v1, (IntKind.wrap .i64 (v2 + (1 : Int))), v3, v4, v5, v6))) else some (.inl (v0, v1, (IntKind.wrap .i64 (v2 + (1 : Int))), v3, v4, v5, v6)))) else (bif ((v6.getD v2.toNat ((0 : Int), (0 : Int))).1 == v1) then (bif ((v6.getD v2.toNat ((0 : Int), (0 : Int))).2 == v0) then some (.inr (.inl true)) else some (.inl (v0, v1, (IntKind.wrap .i64 (v2 + (1 : Int))), v3, v4, v5, v6))) else some (.inl (v0, v1, (IntKind.wrap .i64 (v2 + (1 : Int))), v3, v4, v5, v6)))) else none) else none) else some (.inr (.inr ())))
noncomputable def r6_Skipped.p0.step (s : Int × Int × Int × List ((ByteArray × (Int × (Int × ((Int × (Int × Int)) × (Int × (Int × (Int × (Int × (Int × Int)))))))))) × List ((Int × (Int × (Int × (Int × Int))))) × List ((Int × (Int × List ((Int × (Int × Int)))))) × List ((Int × Int))) : Option ((Int × Int × Int × List ((ByteArray × (Int × (Int × ((Int × (Int × Int)) × (Int × (Int × (Int × (Int × (Int × Int)))))))))) × List ((Int × (Int × (Int × (Int × Int))))) × List ((Int × (Int × List ((Int × (Int × Int)))))) × List ((Int × Int))) ⊕ ((Bool) ⊕ (Unit))) := r6_Skipped.p0.round s.1 s.2.1 s.2.2.1 s.2.2.2.1 s.2.2.2.2.1 s.2.2.2.2.2.1 s.2.2.2.2.2.2
noncomputable def r6_Skipped.p0.inS : Shape := ⟨[(1, .lf (.sc (.int .i64))), (2, .lf (.sc (.int .i64))), (3, .lf (.bp 0 0)), (7, .lf (.sc (.int .i64)))], [.box [.dat tyJ, .dat tyM, .dat tyS, .dat tyK]]⟩
noncomputable def r6_Skipped.p0.w0 : Way := { ex := .rt, S := ⟨[(6, .lf (.sc .bool))], []⟩, R := Bool, post := fun r => ((r, ()), ()), un := fun x => x.1.1 }
noncomputable def r6_Skipped.p0.w1 : Way := { ex := (.ex 0), S := ⟨[], []⟩, R := Unit, post := fun r => ((), ()), un := fun x => () }
noncomputable def r6_Skipped.p0.outs : List Way := [r6_Skipped.p0.w0, r6_Skipped.p0.w1]
noncomputable def r6_Skipped.p0.un (x : Tup r6_Skipped.p0.inS) : Int × Int × Int × List ((ByteArray × (Int × (Int × ((Int × (Int × Int)) × (Int × (Int × (Int × (Int × (Int × Int)))))))))) × List ((Int × (Int × (Int × (Int × Int))))) × List ((Int × (Int × List ((Int × (Int × Int)))))) × List ((Int × Int)) := (x.1.1, x.1.2.1, x.1.2.2.2.1, x.2.1.1, x.2.1.2.1, x.2.1.2.2.1, x.2.1.2.2.2.1)
noncomputable def r6_Skipped.p0.lp : LProc := { inS := r6_Skipped.p0.inS, outs := r6_Skipped.p0.outs, F := fun x => loopF r6_Skipped.p0.step (r6_Skipped.p0.un x) }
noncomputable def r6_Skipped.F0 (a0 : List ((ByteArray × (Int × (Int × ((Int × (Int × Int)) × (Int × (Int × (Int × (Int × (Int × Int))))))))))) (a1 : List ((Int × (Int × (Int × (Int × Int)))))) (a2 : List ((Int × (Int × List ((Int × (Int × Int))))))) (a3 : List ((Int × Int))) (a4 : Int) (a5 : Int) : Option (Bool) :=
  ((loopF r6_Skipped.p0.step (a4, a5, (0 : Int), a0, a1, a2, a3)).bind fun y1 => (Sum.elim (fun y2 => some y2) (fun z3 => some false) y1))
noncomputable def r6_Skipped.F : (List ((ByteArray × (Int × (Int × ((Int × (Int × Int)) × (Int × (Int × (Int × (Int × (Int × Int))))))))))) → (List ((Int × (Int × (Int × (Int × Int)))))) → (List ((Int × (Int × List ((Int × (Int × Int))))))) → (List ((Int × Int))) → Int → Int → Option (Bool) := lock r6_Skipped.F0
theorem r6_Skipped.F_eq : r6_Skipped.F = r6_Skipped.F0 := lock_eq _
noncomputable def r6_Skipped.p : Proc := { nargs := 3, inS := ⟨[(0, .ag [.dat tyJ, .dat tyM, .dat tyS, .dat tyK]), (1, .lf (.sc (.int .i64))), (2, .lf (.sc (.int .i64)))], []⟩, outS := ⟨[(0, .lf (.sc .bool))], []⟩, n0 := 0, R := Bool, F := fun x => r6_Skipped.F x.1.1.1 x.1.1.2.1 x.1.1.2.2.1 x.1.1.2.2.2.1 x.1.2.1 x.1.2.2.1, post := fun r => ((r, ()), ()), un := fun x => x.1.1 }
noncomputable def r6_Skipped.E : Env := { P := Try.prog, ty := tyTab [], glob := glob0, proc := procTab [], lproc := lprocTab [(0, r6_Skipped.p0.lp)], n0 := 0, ntmps := 43 }
theorem r6_Skipped.ok : ProcsOk r6_Skipped.E := AllSound.ok (l := []) (by kernel_rfl) rfl trivial
noncomputable def r6_Skipped.body0 : Code := (match Try.f54.body with | some c => c | none => .skip)
noncomputable def r6_Skipped.p0.c : Code := ((codeAt r6_Skipped.body0 [.r, .l, .r, .b, .b]).getD .skip)
noncomputable def r6_Skipped.p0.ann : Ann := .z
theorem r6_Skipped.p0.eq (x : Tup r6_Skipped.p0.inS) : peRound r6_Skipped.E r6_Skipped.p0.c r6_Skipped.p0.ann _ r6_Skipped.p0.inS r6_Skipped.p0.un r6_Skipped.p0.outs x = r6_Skipped.p0.step (r6_Skipped.p0.un x) := by
  kernel_rfl
theorem r6_Skipped.p0.sound : LProcSound r6_Skipped.E (.loop r6_Skipped.p0.c) r6_Skipped.p0.lp :=
  loop_sound (c := r6_Skipped.p0.c) (ann := r6_Skipped.p0.ann) r6_Skipped.ok ((SubsOk_z _ _) : SubsOk r6_Skipped.E r6_Skipped.p0.c r6_Skipped.p0.ann) (by intro a ha; simp only [r6_Skipped.p0.outs, List.mem_cons, List.not_mem_nil, or_false] at ha; rcases ha with rfl | rfl <;> exact fun _ => rfl) r6_Skipped.p0.eq
noncomputable def r6_Skipped.ann : Ann := .s (.z) (.s (.s (.z) (.b (.sub 0))) (.z))
theorem r6_Skipped.eq (x : Tup r6_Skipped.p.inS) : peFn r6_Skipped.E Try.f54 r6_Skipped.ann r6_Skipped.p x = r6_Skipped.p.F x := by
  have h : peFn r6_Skipped.E Try.f54 r6_Skipped.ann r6_Skipped.p x = r6_Skipped.F0 x.1.1.1 x.1.1.2.1 x.1.1.2.2.1 x.1.1.2.2.2.1 x.1.2.1 x.1.2.2.1 := by kernel_rfl
  exact h.trans (by show _ = r6_Skipped.F x.1.1.1 x.1.1.2.1 x.1.1.2.2.1 x.1.1.2.2.2.1 x.1.2.1 x.1.2.2.1; rw [r6_Skipped.F_eq])
theorem r6_Skipped.sound : ProcSound Try.prog glob0 54 r6_Skipped.p :=
  fn_sound (E := r6_Skipped.E) (c := r6_Skipped.body0) (ann := r6_Skipped.ann) r6_Skipped.ok Try.func54 (of_decide_eq_true (by kernel_rfl)) rfl rfl rfl (by decide +kernel) (⟨(SubsOk_z _ _), ⟨⟨(SubsOk_z _ _), (sub_of rfl r6_Skipped.p0.sound)⟩, (SubsOk_z _ _)⟩⟩ : SubsOk r6_Skipped.E r6_Skipped.body0 r6_Skipped.ann) (fun _ => rfl) rfl r6_Skipped.eq

noncomputable def r32_raised.F0 (a0 : Int) (a1 : Int) : Option (Int) :=
  (bif (a0 == (-1 : Int)) then some a0 else some (IntKind.wrap .i64 (a0 + a1)))
noncomputable def r32_raised.F : Int → Int → Option (Int) := lock r32_raised.F0
theorem r32_raised.F_eq : r32_raised.F = r32_raised.F0 := lock_eq _
noncomputable def r32_raised.p : Proc := { nargs := 2, inS := ⟨[(0, .lf (.sc (.int .i64))), (1, .lf (.sc (.int .i64)))], []⟩, outS := ⟨[(0, .lf (.sc (.int .i64)))], []⟩, n0 := 0, R := Int, F := fun x => r32_raised.F x.1.1 x.1.2.1, post := fun r => ((r, ()), ()), un := fun x => x.1.1 }
noncomputable def r32_raised.E : Env := { P := Try.prog, ty := tyTab [], glob := glob0, proc := procTab [], lproc := lprocTab [], n0 := 0, ntmps := 11 }
theorem r32_raised.ok : ProcsOk r32_raised.E := AllSound.ok (l := []) (by kernel_rfl) rfl trivial
noncomputable def r32_raised.body0 : Code := (match Try.f55.body with | some c => c | none => .skip)
noncomputable def r32_raised.ann : Ann := .z
theorem r32_raised.eq (x : Tup r32_raised.p.inS) : peFn r32_raised.E Try.f55 r32_raised.ann r32_raised.p x = r32_raised.p.F x := by
  have h : peFn r32_raised.E Try.f55 r32_raised.ann r32_raised.p x = r32_raised.F0 x.1.1 x.1.2.1 := by kernel_rfl
  exact h.trans (by show _ = r32_raised.F x.1.1 x.1.2.1; rw [r32_raised.F_eq])
theorem r32_raised.sound : ProcSound Try.prog glob0 55 r32_raised.p :=
  fn_sound (E := r32_raised.E) (c := r32_raised.body0) (ann := r32_raised.ann) r32_raised.ok Try.func55 (of_decide_eq_true (by kernel_rfl)) rfl rfl rfl (by decide +kernel) ((SubsOk_z _ _) : SubsOk r32_raised.E r32_raised.body0 r32_raised.ann) (fun _ => rfl) rfl r32_raised.eq

noncomputable def r32_shifted.p0.round (v0 : Int) (v1 : Int) (v2 : Int) (v3 : List ((Int × (Int × Int)))) (v4 : Int) (v5 : Int) (v6 : Int) (v7 : Int) (v8 : Int) (v9 : Int) (v10 : Int) (v11 : List ((Int × (Int × Int)))) : Option ((Int × Int × Int × List ((Int × (Int × Int))) × Int × Int × Int × Int × Int × Int × Int × List ((Int × (Int × Int)))) ⊕ ((Int × Int × Int × Int × List ((Int × (Int × Int)))))) :=
  (bif decide (v0 < (v3.length : Int)) then (bif decide (0 ≤ v0) then (bif decide (v0 < (v3.length : Int)) then (bif decide (v11.length + ([((IntKind.wrap .i64 ((v3.getD v0.toNat ((0 : Int), ((0 : Int), (0 : Int)))).1 + v4)), ((IntKind.wrap .i64 (((v3.getD v0.toNat ((0 : Int), ((0 : Int), (0 : Int)))).2).1 + v5)), (IntKind.wrap .i64 (((v3.getD v0.toNat ((0 : Int), ((0 : Int), (0 : Int)))).2).2 + v6))))] : List ((Int × (Int × Int)))).length < 5864062014805) then some (.inl ((IntKind.wrap .i64 (v0 + (1 : Int))), v1, v2, v3, v4, v5, v6, v7, v8, v9, v10, (v11 ++ ([((IntKind.wrap .i64 ((v3.getD v0.toNat ((0 : Int), ((0 : Int), (0 : Int)))).1 + v4)), ((IntKind.wrap .i64 (((v3.getD v0.toNat ((0 : Int), ((0 : Int), (0 : Int)))).2).1 + v5)), (IntKind.wrap .i64 (((v3.getD v0.toNat ((0 : Int), ((0 : Int), (0 : Int)))).2).2 + v6))))] : List ((Int × (Int × Int))))))) else none) else none) else none) else some (.inr (v7, v8, v9, v10, v11)))
noncomputable def r32_shifted.p0.step (s : Int × Int × Int × List ((Int × (Int × Int))) × Int × Int × Int × Int × Int × Int × Int × List ((Int × (Int × Int)))) : Option ((Int × Int × Int × List ((Int × (Int × Int))) × Int × Int × Int × Int × Int × Int × Int × List ((Int × (Int × Int)))) ⊕ ((Int × Int × Int × Int × List ((Int × (Int × Int)))))) := r32_shifted.p0.round s.1 s.2.1 s.2.2.1 s.2.2.2.1 s.2.2.2.2.1 s.2.2.2.2.2.1 s.2.2.2.2.2.2.1 s.2.2.2.2.2.2.2.1 s.2.2.2.2.2.2.2.2.1 s.2.2.2.2.2.2.2.2.2.1 s.2.2.2.2.2.2.2.2.2.2.1 s.2.2.2.2.2.2.2.2.2.2.2
noncomputable def r32_shifted.p0.inS : Shape := ⟨[(3, .lf (.bp 0 0)), (5, .lf (.bp 1 0)), (6, .lf (.bp 2 0)), (7, .lf (.bp 3 0)), (8, .lf (.sc (.int .i64)))], [.box [.sc (.int .i64), .sc (.int .i64), .dat tyV], .box [.sc (.int .i64), .sc (.int .i64), .sc (.int .i64)], .box [.sc (.int .i64), .sc (.int .i64), .cst (.slice none 0 0)], .box [.sc (.int .i64), .sc (.int .i64), .own 4], .row 31 tyV]⟩
noncomputable def r32_shifted.p0.w0 : Way := { ex := (.ex 0), S := ⟨[(6, .lf (.bp 0 0)), (7, .lf (.bp 1 0))], [.box [.sc (.int .i64), .sc (.int .i64), .cst (.slice none 0 0)], .box [.sc (.int .i64), .sc (.int .i64), .own 2], .row 31 tyV]⟩, R := Int × Int × Int × Int × List ((Int × (Int × Int))), post := fun r => (((), ((), ())), ((r.1, (r.2.1, ((), ()))), ((r.2.2.1, (r.2.2.2.1, ((), ()))), (r.2.2.2.2, ())))), un := fun x => (x.2.1.1, x.2.1.2.1, x.2.2.1.1, x.2.2.1.2.1, x.2.2.2.1) }
noncomputable def r32_shifted.p0.outs : List Way := [r32_shifted.p0.w0]
noncomputable def r32_shifted.p0.un (x : Tup r32_shifted.p0.inS) : Int × Int × Int × List ((Int × (Int × Int))) × Int × Int × Int × Int × Int × Int × Int × List ((Int × (Int × Int))) := (x.1.2.2.2.2.1, x.2.1.1, x.2.1.2.1, x.2.1.2.2.1, x.2.2.1.1, x.2.2.1.2.1, x.2.2.1.2.2.1, x.2.2.2.1.1, x.2.2.2.1.2.1, x.2.2.2.2.1.1, x.2.2.2.2.1.2.1, x.2.2.2.2.2.1)
noncomputable def r32_shifted.p0.lp : LProc := { inS := r32_shifted.p0.inS, outs := r32_shifted.p0.outs, F := fun x => loopF r32_shifted.p0.step (r32_shifted.p0.un x) }
noncomputable def r32_shifted.F0 (a0 : Int) (a1 : Int) (a2 : List ((Int × (Int × Int)))) (a3 : Int) (a4 : Int) (a5 : Int) (a6 : Int) : Option (Int × Int × List ((Int × (Int × Int)))) :=
  ((loopF r32_shifted.p0.step ((0 : Int), a0, a1, a2, a4, a5, a6, (0 : Int), (0 : Int), a3, a1, ([] : List ((Int × (Int × Int)))))).bind fun y1 => some (y1.2.2.1, y1.2.2.2.1, y1.2.2.2.2))
noncomputable def r32_shifted.F : Int → Int → (List ((Int × (Int × Int)))) → Int → Int → Int → Int → Option (Int × Int × List ((Int × (Int × Int)))) := lock r32_shifted.F0
theorem r32_shifted.F_eq : r32_shifted.F = r32_shifted.F0 := lock_eq _
noncomputable def r32_shifted.p : Proc := { nargs := 3, inS := ⟨[(0, .ag [.sc (.int .i64), .sc (.int .i64), .dat tyV]), (1, .lf (.sc (.int .i64))), (2, .ag [.sc (.int .i64), .sc (.int .i64), .sc (.int .i64)])], []⟩, outS := ⟨[(0, .ag [.sc (.int .i64), .sc (.int .i64), .dat tyV])], []⟩, n0 := 0, R := Int × Int × List ((Int × (Int × Int))), F := fun x => r32_shifted.F x.1.1.1 x.1.1.2.1 x.1.1.2.2.1 x.1.2.1 x.1.2.2.1.1 x.1.2.2.1.2.1 x.1.2.2.1.2.2.1, post := fun r => (((r.1, (r.2.1, (r.2.2, ()))), ()), ()), un := fun x => (x.1.1.1, x.1.1.2.1, x.1.1.2.2.1) }
noncomputable def r32_shifted.E : Env := { P := Try.prog, ty := tyTab [(31, tyV)], glob := glob0, proc := procTab [], lproc := lprocTab [(0, r32_shifted.p0.lp)], n0 := 0, ntmps := 48 }
theorem r32_shifted.ok : ProcsOk r32_shifted.E := AllSound.ok (l := []) (by kernel_rfl) rfl trivial
noncomputable def r32_shifted.body0 : Code := (match Try.f56.body with | some c => c | none => .skip)
noncomputable def r32_shifted.p0.c : Code := ((codeAt r32_shifted.body0 [.r, .r, .l, .r, .b, .b]).getD .skip)
noncomputable def r32_shifted.p0.ann : Ann := .z
theorem r32_shifted.p0.eq (x : Tup r32_shifted.p0.inS) : peRound r32_shifted.E r32_shifted.p0.c r32_shifted.p0.ann _ r32_shifted.p0.inS r32_shifted.p0.un r32_shifted.p0.outs x = r32_shifted.p0.step (r32_shifted.p0.un x) := by
  kernel_rfl
theorem r32_shifted.p0.sound : LProcSound r32_shifted.E (.loop r32_shifted.p0.c) r32_shifted.p0.lp :=
  loop_sound (c := r32_shifted.p0.c) (ann := r32_shifted.p0.ann) r32_shifted.ok ((SubsOk_z _ _) : SubsOk r32_shifted.E r32_shifted.p0.c r32_shifted.p0.ann) (by intro a ha; simp only [r32_shifted.p0.outs, List.mem_cons, List.not_mem_nil, or_false] at ha; rcases ha with rfl <;> exact fun _ => rfl) r32_shifted.p0.eq
noncomputable def r32_shifted.ann : Ann := .s (.z) (.s (.z) (.s (.s (.z) (.b (.sub 0))) (.z)))
theorem r32_shifted.eq (x : Tup r32_shifted.p.inS) : peFn r32_shifted.E Try.f56 r32_shifted.ann r32_shifted.p x = r32_shifted.p.F x := by
  have h : peFn r32_shifted.E Try.f56 r32_shifted.ann r32_shifted.p x = r32_shifted.F0 x.1.1.1 x.1.1.2.1 x.1.1.2.2.1 x.1.2.1 x.1.2.2.1.1 x.1.2.2.1.2.1 x.1.2.2.1.2.2.1 := by kernel_rfl
  exact h.trans (by show _ = r32_shifted.F x.1.1.1 x.1.1.2.1 x.1.1.2.2.1 x.1.2.1 x.1.2.2.1.1 x.1.2.2.1.2.1 x.1.2.2.1.2.2.1; rw [r32_shifted.F_eq])
theorem r32_shifted.sound : ProcSound Try.prog glob0 56 r32_shifted.p :=
  fn_sound (E := r32_shifted.E) (c := r32_shifted.body0) (ann := r32_shifted.ann) r32_shifted.ok Try.func56 (of_decide_eq_true (by kernel_rfl)) rfl rfl rfl (by decide +kernel) (⟨(SubsOk_z _ _), ⟨(SubsOk_z _ _), ⟨⟨(SubsOk_z _ _), (sub_of rfl r32_shifted.p0.sound)⟩, (SubsOk_z _ _)⟩⟩⟩ : SubsOk r32_shifted.E r32_shifted.body0 r32_shifted.ann) (fun _ => rfl) rfl r32_shifted.eq

noncomputable def mk_letter.F0 (a0 : Int) : Option (ByteArray) :=
  (bif decide (0 ≤ a0) then (bif decide (a0 ≤ (IntKind.wrap .i64 (a0 + (1 : Int)))) then (bif decide ((IntKind.wrap .i64 (a0 + (1 : Int))) ≤ ((⟨#[97, 98, 99, 100, 101, 102, 103, 104, 105, 106]⟩ : ByteArray).size : Int)) then some ((⟨#[97, 98, 99, 100, 101, 102, 103, 104, 105, 106]⟩ : ByteArray).extract a0.toNat (IntKind.wrap .i64 (a0 + (1 : Int))).toNat) else none) else none) else none)
noncomputable def mk_letter.F : Int → Option (ByteArray) := lock mk_letter.F0
theorem mk_letter.F_eq : mk_letter.F = mk_letter.F0 := lock_eq _
noncomputable def mk_letter.p : Proc := { nargs := 1, inS := ⟨[(0, .lf (.sc (.int .i64)))], []⟩, outS := ⟨[(0, .lf (.sc .str))], []⟩, n0 := 0, R := ByteArray, F := fun x => mk_letter.F x.1.1, post := fun r => ((r, ()), ()), un := fun x => x.1.1 }
noncomputable def mk_letter.E : Env := { P := Try.prog, ty := tyTab [], glob := glob0, proc := procTab [], lproc := lprocTab [], n0 := 0, ntmps := 7 }
theorem mk_letter.ok : ProcsOk mk_letter.E := AllSound.ok (l := []) (by kernel_rfl) rfl trivial
noncomputable def mk_letter.body0 : Code := (match Try.f62.body with | some c => c | none => .skip)
noncomputable def mk_letter.ann : Ann := .z
theorem mk_letter.eq (x : Tup mk_letter.p.inS) : peFn mk_letter.E Try.f62 mk_letter.ann mk_letter.p x = mk_letter.p.F x := by
  have h : peFn mk_letter.E Try.f62 mk_letter.ann mk_letter.p x = mk_letter.F0 x.1.1 := by kernel_rfl
  exact h.trans (by show _ = mk_letter.F x.1.1; rw [mk_letter.F_eq])
theorem mk_letter.sound : ProcSound Try.prog glob0 62 mk_letter.p :=
  fn_sound (E := mk_letter.E) (c := mk_letter.body0) (ann := mk_letter.ann) mk_letter.ok Try.func62 (of_decide_eq_true (by kernel_rfl)) rfl rfl rfl (by decide +kernel) ((SubsOk_z _ _) : SubsOk mk_letter.E mk_letter.body0 mk_letter.ann) (fun _ => rfl) rfl mk_letter.eq

noncomputable def mk_points.p0.round (v0 : Int) (v1 : List (Int)) (v2 : Int) (v3 : Int) (v4 : Int) (v5 : Int) (v6 : List ((Int × (Int × Int)))) : Option ((Int × List (Int) × Int × Int × Int × Int × List ((Int × (Int × Int)))) ⊕ ((List (Int) × Int × List ((Int × (Int × Int)))))) :=
  (bif decide (v0 > (0 : Int)) then ((mk_Source_Signed.F (3 : Int) v1 v2).bind fun r5 => ((mk_Source_Signed.F (2 : Int) r5.2.1 r5.2.2).bind fun r6 => ((mk_Source_Signed.F (2 : Int) r6.2.1 r6.2.2).bind fun r7 => (bif decide (v6.length + ([((IntKind.wrap .i64 (v3 + (IntKind.wrap .i64 (r5.1 * (32768 : Int))))), ((IntKind.wrap .i64 (v4 + (IntKind.wrap .i64 (r6.1 * (32768 : Int))))), (IntKind.wrap .i64 (v5 + (IntKind.wrap .i64 (r7.1 * (32768 : Int)))))))] : List ((Int × (Int × Int)))).length < 5864062014805) then some (.inl ((IntKind.wrap .i64 (v0 - (1 : Int))), r7.2.1, r7.2.2, v3, v4, v5, (v6 ++ ([((IntKind.wrap .i64 (v3 + (IntKind.wrap .i64 (r5.1 * (32768 : Int))))), ((IntKind.wrap .i64 (v4 + (IntKind.wrap .i64 (r6.1 * (32768 : Int))))), (IntKind.wrap .i64 (v5 + (IntKind.wrap .i64 (r7.1 * (32768 : Int)))))))] : List ((Int × (Int × Int))))))) else none)))) else some (.inr (v1, v2, v6)))
noncomputable def mk_points.p0.step (s : Int × List (Int) × Int × Int × Int × Int × List ((Int × (Int × Int)))) : Option ((Int × List (Int) × Int × Int × Int × Int × List ((Int × (Int × Int)))) ⊕ ((List (Int) × Int × List ((Int × (Int × Int)))))) := mk_points.p0.round s.1 s.2.1 s.2.2.1 s.2.2.2.1 s.2.2.2.2.1 s.2.2.2.2.2.1 s.2.2.2.2.2.2
noncomputable def mk_points.p0.inS : Shape := ⟨[(0, .lf (.bp 0 0)), (3, .lf (.bp 1 0)), (5, .lf (.own 2)), (6, .lf (.sc (.int .i64)))], [.box [.dat (.int .i64), .sc (.int .i64)], .box [.sc (.int .i64), .sc (.int .i64), .sc (.int .i64)], .row 31 tyV]⟩
noncomputable def mk_points.p0.w0 : Way := { ex := (.ex 0), S := ⟨[(5, .lf (.own 1))], [.box [.dat (.int .i64), .sc (.int .i64)], .row 31 tyV]⟩, R := List (Int) × Int × List ((Int × (Int × Int))), post := fun r => (((), ()), ((r.1, (r.2.1, ())), (r.2.2, ()))), un := fun x => (x.2.1.1, x.2.1.2.1, x.2.2.1) }
noncomputable def mk_points.p0.outs : List Way := [mk_points.p0.w0]
noncomputable def mk_points.p0.un (x : Tup mk_points.p0.inS) : Int × List (Int) × Int × Int × Int × Int × List ((Int × (Int × Int))) := (x.1.2.2.2.1, x.2.1.1, x.2.1.2.1, x.2.2.1.1, x.2.2.1.2.1, x.2.2.1.2.2.1, x.2.2.2.1)
noncomputable def mk_points.p0.lp : LProc := { inS := mk_points.p0.inS, outs := mk_points.p0.outs, F := fun x => loopF mk_points.p0.step (mk_points.p0.un x) }
noncomputable def mk_points.F0 (a0 : Int) (a1 : Int) (a2 : Int) (a3 : List (Int)) (a4 : Int) : Option (List (Int) × Int × List ((Int × (Int × Int)))) :=
  ((mk_Source_Next.F (4 : Int) a3 a4).bind fun r1 => ((loopF mk_points.p0.step (r1.1, r1.2.1, r1.2.2, a0, a1, a2, ([(a0, (a1, a2))] : List ((Int × (Int × Int)))))).bind fun y8 => some (y8.1, y8.2.1, y8.2.2)))
noncomputable def mk_points.F : Int → Int → Int → (List (Int)) → Int → Option (List (Int) × Int × List ((Int × (Int × Int)))) := lock mk_points.F0
theorem mk_points.F_eq : mk_points.F = mk_points.F0 := lock_eq _
noncomputable def mk_points.p : Proc := { nargs := 2, inS := ⟨[(0, .lf (.bp 0 0)), (1, .ag [.sc (.int .i64), .sc (.int .i64), .sc (.int .i64)])], [.box [.dat (.int .i64), .sc (.int .i64)]]⟩, outS := ⟨[(0, .lf (.own 1))], [.box [.dat (.int .i64), .sc (.int .i64)], .row 31 tyV]⟩, n0 := 1, R := List (Int) × Int × List ((Int × (Int × Int))), F := fun x => mk_points.F x.1.2.1.1 x.1.2.1.2.1 x.1.2.1.2.2.1 x.2.1.1 x.2.1.2.1, post := fun r => (((), ()), ((r.1, (r.2.1, ())), (r.2.2, ()))), un := fun x => (x.2.1.1, x.2.1.2.1, x.2.2.1) }
noncomputable def mk_points.E : Env := { P := Try.prog, ty := tyTab [(31, tyV)], glob := glob0, proc := procTab [(32, mk_Source_Next.p), (35, mk_Source_Signed.p)], lproc := lprocTab [(0, mk_points.p0.lp)], n0 := 1, ntmps := 38 }
theorem mk_points.ok : ProcsOk mk_points.E := AllSound.ok (l := [(32, mk_Source_Next.p), (35, mk_Source_Signed.p)]) (by kernel_rfl) rfl ⟨mk_Source_Next.sound, mk_Source_Signed.sound, trivial⟩
noncomputable def mk_points.body0 : Code := (match Try.f64.body with | some c => c | none => .skip)
noncomputable def mk_points.p0.c : Code := ((codeAt mk_points.body0 [.r, .r, .l, .r, .b, .b]).getD .skip)
noncomputable def mk_points.p0.ann : Ann := .z
theorem mk_points.p0.eq (x : Tup mk_points.p0.inS) : peRound mk_points.E mk_points.p0.c mk_points.p0.ann _ mk_points.p0.inS mk_points.p0.un mk_points.p0.outs x = mk_points.p0.step (mk_points.p0.un x) := by
  kernel_rfl
theorem mk_points.p0.sound : LProcSound mk_points.E (.loop mk_points.p0.c) mk_points.p0.lp :=
  loop_sound (c := mk_points.p0.c) (ann := mk_points.p0.ann) mk_points.ok ((SubsOk_z _ _) : SubsOk mk_points.E mk_points.p0.c mk_points.p0.ann) (by intro a ha; simp only [mk_points.p0.outs, List.mem_cons, List.not_mem_nil, or_false] at ha; rcases ha with rfl <;> exact fun _ => rfl) mk_points.p0.eq
noncomputable def mk_points.ann : Ann := .s (.z) (.s (.z) (.s (.s (.z) (.b (.sub 0))) (.z)))
theorem mk_points.eq (x : Tup mk_points.p.inS) : peFn mk_points.E Try.f64 mk_points.ann mk_points.p x = mk_points.p.F x := by
  have h : peFn mk_points.E Try.f64 mk_points.ann mk_points.p x = mk_points.F0 x.1.2.1.1 x.1.2.1.2.1 x.1.2.1.2.2.1 x.2.1.1 x.2.1.2.1 := by kernel_rfl
  exact h.trans (by show _ = mk_points.F x.1.2.1.1 x.1.2.1.2.1 x.1.2.1.2.2.1 x.2.1.1 x.2.1.2.1; rw [mk_points.F_eq])
theorem mk_points.sound : ProcSound Try.prog glob0 64 mk_points.p :=
  fn_sound (E := mk_points.E) (c := mk_points.body0) (ann := mk_points.ann) mk_points.ok Try.func64 (of_decide_eq_true (by kernel_rfl)) rfl rfl rfl (by decide +kernel) (⟨(SubsOk_z _ _), ⟨(SubsOk_z _ _), ⟨⟨(SubsOk_z _ _), (sub_of rfl mk_points.p0.sound)⟩, (SubsOk_z _ _)⟩⟩⟩ : SubsOk mk_points.E mk_points.body0 mk_points.ann) (fun _ => rfl) rfl mk_points.eq

noncomputable def mk_Same_Skip.p0.round (v0 : List ((Int × Int))) (v1 : List ((Int × Int))) (v2 : Int) : Option ((List ((Int × Int)) × List ((Int × Int)) × Int) ⊕ ((Bool) ⊕ (Unit))) :=
  (bif decide (v2 < (v0.length : Int)) then (bif decide (0 ≤ v2) then (bif decide (v2 < (v0.length : Int)) then (bif decide (0 ≤ v2) then (bif decide (v2 < (v1.length : Int)) then (bif (!(((v0.getD v2.toNat ((0 : Int), (0 : Int))).1 == (v1.getD v2.toNat ((0 : Int), (0 : Int))).1) && (((v0.getD v2.toNat ((0 : Int), (0 : Int))).2 == (v1.getD v2.toNat ((0 : Int), (0 : Int))).2) && true))) then some (.inr (.inl false)) else some (.inl (v0, v1, (IntKind.wrap .i64 (v2 + (1 : Int)))))) else none) else none) else none) else none) else some (.inr (.inr ())))
noncomputable def mk_Same_Skip.p0.step (s : List ((Int × Int)) × List ((Int × Int)) × Int) : Option ((List ((Int × Int)) × List ((Int × Int)) × Int) ⊕ ((Bool) ⊕ (Unit))) := mk_Same_Skip.p0.round s.1 s.2.1 s.2.2
noncomputable def mk_Same_Skip.p0.inS : Shape := ⟨[(0, .lf (.dat tyK)), (1, .lf (.dat tyK)), (5, .lf (.sc (.int .i64)))], []⟩
noncomputable def mk_Same_Skip.p0.w0 : Way := { ex := .rt, S := ⟨[(4, .lf (.sc .bool))], []⟩, R := Bool, post := fun r => ((r, ()), ()), un := fun x => x.1.1 }
noncomputable def mk_Same_Skip.p0.w1 : Way := { ex := (.ex 0), S := ⟨[], []⟩, R := Unit, post := fun r => ((), ()), un := fun x => () }
noncomputable def mk_Same_Skip.p0.outs : List Way := [mk_Same_Skip.p0.w0, mk_Same_Skip.p0.w1]
noncomputable def mk_Same_Skip.p0.un (x : Tup mk_Same_Skip.p0.inS) : List ((Int × Int)) × List ((Int × Int)) × Int := (x.1.1, x.1.2.1, x.1.2.2.1)
noncomputable def mk_Same_Skip.p0.lp : LProc := { inS := mk_Same_Skip.p0.inS, outs := mk_Same_Skip.p0.outs, F := fun x => loopF mk_Same_Skip.p0.step (mk_Same_Skip.p0.un x) }
noncomputable def mk_Same_Skip.F0 (a0 : List ((Int × Int))) (a1 : List ((Int × Int))) : Option (Bool) :=
  (bif ((a0.length : Int) != (a1.length : Int)) then some false else ((loopF mk_Same_Skip.p0.step (a0, a1, (0 : Int))).bind fun y1 => (Sum.elim (fun y2 => some y2) (fun z3 => some true) y1)))
noncomputable def mk_Same_Skip.F : (List ((Int × Int))) → (List ((Int × Int))) → Option (Bool) := lock mk_Same_Skip.F0
theorem mk_Same_Skip.F_eq : mk_Same_Skip.F = mk_Same_Skip.F0 := lock_eq _
noncomputable def mk_Same_Skip.p : Proc := { nargs := 2, inS := ⟨[(0, .lf (.dat tyK)), (1, .lf (.dat tyK))], []⟩, outS := ⟨[(0, .lf (.sc .bool))], []⟩, n0 := 0, R := Bool, F := fun x => mk_Same_Skip.F x.1.1 x.1.2.1, post := fun r => ((r, ()), ()), un := fun x => x.1.1 }
noncomputable def mk_Same_Skip.E : Env := { P := Try.prog, ty := tyTab [], glob := glob0, proc := procTab [], lproc := lprocTab [(0, mk_Same_Skip.p0.lp)], n0 := 0, ntmps := 26 }
theorem mk_Same_Skip.ok : ProcsOk mk_Same_Skip.E := AllSound.ok (l := []) (by kernel_rfl) rfl trivial
noncomputable def mk_Same_Skip.body0 : Code := (match Try.f66.body with | some c => c | none => .skip)
noncomputable def mk_Same_Skip.p0.c : Code := ((codeAt mk_Same_Skip.body0 [.r, .r, .l, .r, .b, .b]).getD .skip)
noncomputable def mk_Same_Skip.p0.ann : Ann := .z
theorem mk_Same_Skip.p0.eq (x : Tup mk_Same_Skip.p0.inS) : peRound mk_Same_Skip.E mk_Same_Skip.p0.c mk_Same_Skip.p0.ann _ mk_Same_Skip.p0.inS mk_Same_Skip.p0.un mk_Same_Skip.p0.outs x = mk_Same_Skip.p0.step (mk_Same_Skip.p0.un x) := by
  kernel_rfl
theorem mk_Same_Skip.p0.sound : LProcSound mk_Same_Skip.E (.loop mk_Same_Skip.p0.c) mk_Same_Skip.p0.lp :=
  loop_sound (c := mk_Same_Skip.p0.c) (ann := mk_Same_Skip.p0.ann) mk_Same_Skip.ok ((SubsOk_z _ _) : SubsOk mk_Same_Skip.E mk_Same_Skip.p0.c mk_Same_Skip.p0.ann) (by intro a ha; simp only [mk_Same_Skip.p0.outs, List.mem_cons, List.not_mem_nil, or_false] at ha; rcases ha with rfl | rfl <;> exact fun _ => rfl) mk_Same_Skip.p0.eq
noncomputable def mk_Same_Skip.ann : Ann := .s (.z) (.s (.z) (.s (.s (.z) (.b (.sub 0))) (.z)))
theorem mk_Same_Skip.eq (x : Tup mk_Same_Skip.p.inS) : peFn mk_Same_Skip.E Try.f66 mk_Same_Skip.ann mk_Same_Skip.p x = mk_Same_Skip.p.F x := by
  have h : peFn mk_Same_Skip.E Try.f66 mk_Same_Skip.ann mk_Same_Skip.p x = mk_Same_Skip.F0 x.1.1 x.1.2.1 := by kernel_rfl
  exact h.trans (by show _ = mk_Same_Skip.F x.1.1 x.1.2.1; rw [mk_Same_Skip.F_eq])
theorem mk_Same_Skip.sound : ProcSound Try.prog glob0 66 mk_Same_Skip.p :=
  fn_sound (E := mk_Same_Skip.E) (c := mk_Same_Skip.body0) (ann := mk_Same_Skip.ann) mk_Same_Skip.ok Try.func66 (of_decide_eq_true (by kernel_rfl)) rfl rfl rfl (by decide +kernel) (⟨(SubsOk_z _ _), ⟨(SubsOk_z _ _), ⟨⟨(SubsOk_z _ _), (sub_of rfl mk_Same_Skip.p0.sound)⟩, (SubsOk_z _ _)⟩⟩⟩ : SubsOk mk_Same_Skip.E mk_Same_Skip.body0 mk_Same_Skip.ann) (fun _ => rfl) rfl mk_Same_Skip.eq

noncomputable def mk_Same_Vec.p0.round (v0 : List ((Int × (Int × Int)))) (v1 : List ((Int × (Int × Int)))) (v2 : Int) : Option ((List ((Int × (Int × Int))) × List ((Int × (Int × Int))) × Int) ⊕ ((Bool) ⊕ (Unit))) :=
  (bif decide (v2 < (v0.length : Int)) then (bif decide (0 ≤ v2) then (bif decide (v2 < (v0.length : Int)) then (bif decide (0 ≤ v2) then (bif decide (v2 < (v1.length : Int)) then (bif (!(((v0.getD v2.toNat ((0 : Int), ((0 : Int), (0 : Int)))).1 == (v1.getD v2.toNat ((0 : Int), ((0 : Int), (0 : Int)))).1) && ((((v0.getD v2.toNat ((0 : Int), ((0 : Int), (0 : Int)))).2).1 == ((v1.getD v2.toNat ((0 : Int), ((0 : Int), (0 : Int)))).2).1) && ((((v0.getD v2.toNat ((0 : Int), ((0 : Int), (0 : Int)))).2).2 == ((v1.getD v2.toNat ((0 : Int), ((0 : Int), (0 : Int)))).2).2) && true)))) then some (.inr (.inl false)) else some (.inl (v0, v1, (IntKind.wrap .i64 (v2 + (1 : Int)))))) else none) else none) else none) else none) else some (.inr (.inr ())))
noncomputable def mk_Same_Vec.p0.step (s : List ((Int × (Int × Int))) × List ((Int × (Int × Int))) × Int) : Option ((List ((Int × (Int × Int))) × List ((Int × (Int × Int))) × Int) ⊕ ((Bool) ⊕ (Unit))) := mk_Same_Vec.p0.round s.1 s.2.1 s.2.2
noncomputable def mk_Same_Vec.p0.inS : Shape := ⟨[(0, .lf (.dat tyV)), (1, .lf (.dat tyV)), (5, .lf (.sc (.int .i64)))], []⟩
noncomputable def mk_Same_Vec.p0.w0 : Way := { ex := .rt, S := ⟨[(4, .lf (.sc .bool))], []⟩, R := Bool, post := fun r => ((r, ()), ()), un := fun x => x.1.1 }
noncomputable def mk_Same_Vec.p0.w1 : Way := { ex := (.ex 0), S := ⟨[], []⟩, R := Unit, post := fun r => ((), ()), un := fun x => () }
noncomputable def mk_Same_Vec.p0.outs : List Way := [mk_Same_Vec.p0.w0, mk_Same_Vec.p0.w1]
noncomputable def mk_Same_Vec.p0.un (x : Tup mk_Same_Vec.p0.inS) : List ((Int × (Int × Int))) × List ((Int × (Int × Int))) × Int := (x.1.1, x.1.2.1, x.1.2.2.1)
noncomputable def mk_Same_Vec.p0.lp : LProc := { inS := mk_Same_Vec.p0.inS, outs := mk_Same_Vec.p0.outs, F := fun x => loopF mk_Same_Vec.p0.step (mk_Same_Vec.p0.un x) }
noncomputable def mk_Same_Vec.F0 (a0 : List ((Int × (Int × Int)))) (a1 : List ((Int × (Int × Int)))) : Option (Bool) :=
  (bif ((a0.length : Int) != (a1.length : Int)) then some false else ((loopF mk_Same_Vec.p0.step (a0, a1, (0 : Int))).bind fun y1 => (Sum.elim (fun y2 => some y2) (fun z3 => some true) y1)))
noncomputable def mk_Same_Vec.F : (List ((Int × (Int × Int)))) → (List ((Int × (Int × Int)))) → Option (Bool) := lock mk_Same_Vec.F0
theorem mk_Same_Vec.F_eq : mk_Same_Vec.F = mk_Same_Vec.F0 := lock_eq _
noncomputable def mk_Same_Vec.p : Proc := { nargs := 2, inS := ⟨[(0, .lf (.dat tyV)), (1, .lf (.dat tyV))], []⟩, outS := ⟨[(0, .lf (.sc .bool))], []⟩, n0 := 0, R := Bool, F := fun x => mk_Same_Vec.F x.1.1 x.1.2.1, post := fun r => ((r, ()), ()), un := fun x => x.1.1 }
noncomputable def mk_Same_Vec.E : Env := { P := Try.prog, ty := tyTab [], glob := glob0, proc := procTab [], lproc := lprocTab [(0, mk_Same_Vec.p0.lp)], n0 := 0, ntmps := 26 }
theorem mk_Same_Vec.ok : ProcsOk mk_Same_Vec.E := AllSound.ok (l := []) (by kernel_rfl) rfl trivial
noncomputable def mk_Same_Vec.body0 : Code := (match Try.f67.body with | some c => c | none => .skip)
noncomputable def mk_Same_Vec.p0.c : Code := ((codeAt mk_Same_Vec.body0 [.r, .r, .l, .r, .b, .b]).getD .skip)
noncomputable def mk_Same_Vec.p0.ann : Ann := .z
theorem mk_Same_Vec.p0.eq (x : Tup mk_Same_Vec.p0.inS) : peRound mk_Same_Vec.E mk_Same_Vec.p0.c mk_Same_Vec.p0.ann _ mk_Same_Vec.p0.inS mk_Same_Vec.p0.un mk_Same_Vec.p0.outs x = mk_Same_Vec.p0.step (mk_Same_Vec.p0.un x) := by
  kernel_rfl
theorem mk_Same_Vec.p0.sound : LProcSound mk_Same_Vec.E (.loop mk_Same_Vec.p0.c) mk_Same_Vec.p0.lp :=
  loop_sound (c := mk_Same_Vec.p0.c) (ann := mk_Same_Vec.p0.ann) mk_Same_Vec.ok ((SubsOk_z _ _) : SubsOk mk_Same_Vec.E mk_Same_Vec.p0.c mk_Same_Vec.p0.ann) (by intro a ha; simp only [mk_Same_Vec.p0.outs, List.mem_cons, List.not_mem_nil, or_false] at ha; rcases ha with rfl | rfl <;> exact fun _ => rfl) mk_Same_Vec.p0.eq
noncomputable def mk_Same_Vec.ann : Ann := .s (.z) (.s (.z) (.s (.s (.z) (.b (.sub 0))) (.z)))
theorem mk_Same_Vec.eq (x : Tup mk_Same_Vec.p.inS) : peFn mk_Same_Vec.E Try.f67 mk_Same_Vec.ann mk_Same_Vec.p x = mk_Same_Vec.p.F x := by
  have h : peFn mk_Same_Vec.E Try.f67 mk_Same_Vec.ann mk_Same_Vec.p x = mk_Same_Vec.F0 x.1.1 x.1.2.1 := by kernel_rfl
  exact h.trans (by show _ = mk_Same_Vec.F x.1.1 x.1.2.1; rw [mk_Same_Vec.F_eq])
theorem mk_Same_Vec.sound : ProcSound Try.prog glob0 67 mk_Same_Vec.p :=
  fn_sound (E := mk_Same_Vec.E) (c := mk_Same_Vec.body0) (ann := mk_Same_Vec.ann) mk_Same_Vec.ok Try.func67 (of_decide_eq_true (by kernel_rfl)) rfl rfl rfl (by decide +kernel) (⟨(SubsOk_z _ _), ⟨(SubsOk_z _ _), ⟨⟨(SubsOk_z _ _), (sub_of rfl mk_Same_Vec.p0.sound)⟩, (SubsOk_z _ _)⟩⟩⟩ : SubsOk mk_Same_Vec.E mk_Same_Vec.body0 mk_Same_Vec.ann) (fun _ => rfl) rfl mk_Same_Vec.eq

noncomputable def scene_link.F0 (a0 : List ((ByteArray × (Int × (Int × ((Int × (Int × Int)) × (Int × (Int × (Int × (Int × (Int × Int))))))))))) (a1 : List ((Int × (Int × (Int × (Int × Int)))))) (a2 : Int) : Option (Bool) :=
  (bif decide (a2 ≥ (-1 : Int)) then some (decide (a2 < (a0.length : Int))) else some false)
noncomputable def scene_link.F : (List ((ByteArray × (Int × (Int × ((Int × (Int × Int)) × (Int × (Int × (Int × (Int × (Int × Int))))))))))) → (List ((Int × (Int × (Int × (Int × Int)))))) → Int → Option (Bool) := lock scene_link.F0
theorem scene_link.F_eq : scene_link.F = scene_link.F0 := lock_eq _
noncomputable def scene_link.p : Proc := { nargs := 2, inS := ⟨[(0, .ag [.dat tyJ, .dat tyM]), (1, .lf (.sc (.int .i64)))], []⟩, outS := ⟨[(0, .lf (.sc .bool))], []⟩, n0 := 0, R := Bool, F := fun x => scene_link.F x.1.1.1 x.1.1.2.1 x.1.2.1, post := fun r => ((r, ()), ()), un := fun x => x.1.1 }
noncomputable def scene_link.E : Env := { P := Try.prog, ty := tyTab [], glob := glob0, proc := procTab [], lproc := lprocTab [], n0 := 0, ntmps := 14 }
theorem scene_link.ok : ProcsOk scene_link.E := AllSound.ok (l := []) (by kernel_rfl) rfl trivial
noncomputable def scene_link.body0 : Code := (match Try.f69.body with | some c => c | none => .skip)
noncomputable def scene_link.ann : Ann := .z
theorem scene_link.eq (x : Tup scene_link.p.inS) : peFn scene_link.E Try.f69 scene_link.ann scene_link.p x = scene_link.p.F x := by
  have h : peFn scene_link.E Try.f69 scene_link.ann scene_link.p x = scene_link.F0 x.1.1.1 x.1.1.2.1 x.1.2.1 := by kernel_rfl
  exact h.trans (by show _ = scene_link.F x.1.1.1 x.1.1.2.1 x.1.2.1; rw [scene_link.F_eq])
theorem scene_link.sound : ProcSound Try.prog glob0 69 scene_link.p :=
  fn_sound (E := scene_link.E) (c := scene_link.body0) (ann := scene_link.ann) scene_link.ok Try.func69 (of_decide_eq_true (by kernel_rfl)) rfl rfl rfl (by decide +kernel) ((SubsOk_z _ _) : SubsOk scene_link.E scene_link.body0 scene_link.ann) (fun _ => rfl) rfl scene_link.eq

noncomputable def team_plus.p0.round (v0 : Int) (v1 : Int) (v2 : Int) (v3 : Int) (v4 : Int) (v5 : Int) (v6 : Int) (v7 : Int) (v8 : Int) (v9 : Int) : Option ((Int × Int × Int × Int × Int × Int × Int × Int × Int × Int) ⊕ ((Int × Int × Int × Int × Int × Int))) :=
  (bif decide (v0 < (3 : Int)) then (bif (v0 == (0 : Int)) then (bif (v0 == (0 : Int)) then (bif (v0 == (0 : Int)) then some (.inl ((IntKind.wrap .i64 (v0 + (1 : Int))), (IntKind.wrap .i64 (v1 + v4)), v2, v3, v4, v5, v6, v7, v8, v9)) else (bif (v0 == (1 : Int)) then some (.inl ((IntKind.wrap .i64 (v0 + (1 : Int))), v1, (IntKind.wrap .i64 (v1 + v4)), v3, v4, v5, v6, v7, v8, v9)) else (bif (v0 == (2 : Int)) then some (.inl ((IntKind.wrap .i64 (v0 + (1 : Int))), v1, v2, (IntKind.wrap .i64 (v1 + v4)), v4, v5, v6, v7, v8, v9)) else none))) else (bif (v0 == (1 : Int)) then (bif (v0 == (0 : Int)) then some (.inl ((IntKind.wrap .i64 (v0 + (1 : Int))), (IntKind.wrap .i64 (v1 + v5)), v2, v3, v4, v5, v6, v7, v8, v9)) else (bif (v0 == (1 : Int)) then some (.inl ((IntKind.wrap .i64 (v0 + (1 : Int))), v1, (IntKind.wrap .i64 (v1 + v5)), v3, v4, v5, v6, v7, v8, v9)) else (bif (v0 == (2 : Int)) then some (.inl ((IntKind.wrap .i64 (v0 + (1 : Int))), v1, v2, (IntKind.wrap .i64 (v1 + v5)), v4, v5, v6, v7, v8, v9)) else none))) else (bif (v0 == (2 : Int)) then (bif (v0 == (0 : Int)) then some (.inl ((IntKind.wrap .i64 (v0 + (1 : Int))), (IntKind.wrap .i64 (v1 + v6)), v2, v3, v4, v5, v6, v7, v8, v9)) else (bif (v0 == (1 : Int)) then some (.inl ((IntKind.wrap .i64 (v0 + (1 : Int))), v1, (IntKind.wrap .i64 (v1 + v6)), v3, v4, v5, v6, v7, v8, v9)) else (bif (v0 == (2 : Int)) then some (.inl ((IntKind.wrap .i64 (v0 + (1 : Int))), v1, v2, (IntKind.wrap .i64 (v1 + v6)), v4, v5, v6, v7, v8, v9)) else none))) else none))) else (bif (v0 == (1 : Int)) then (bif (v0 == (0 : Int)) then (bif (v0 == (0 : Int)) then some (.inl ((IntKind.wrap .i64 (v0 + (1 : Int))), (IntKind.wrap .i64 (v2 + v4)), v2, v3, v4, v5, v6, v7, v8, v9)) else (bif (v0 == (1 : Int)) then some (.inl ((IntKind.wrap .i64 (v0 + (1 : Int))), v1, (IntKind.wrap .i64 (v2 + v4)), v3, v4, v5, v6, v7, v8, v9)) else (bif (v0 == (2 : Int)) then some (.inl ((IntKind.wrap .i64 (v0 + (1 : Int))), v1, v2, (IntKind.wrap .i64 (v2 + v4)), v4, v5, v6, v7, v8, v9)) else none))) else (bif (v0 == (1 : Int)) then (bif (v0 == (0 : Int)) then some (.inl ((IntKind.wrap .i64 (v0 + (1 : Int))), (IntKind.wrap .i64 (v2 + v5)), v2, v3, v4, v5, v6, v7, v8, v9)) else (bif (v0 == (1 : Int)) then some (.inl ((IntKind.wrap .i64 (v0 + (1 : Int))), v1, (IntKind.wrap .i64 (v2 + v5)), v3, v4, v5, v6, v7, v8, v9)) else (bif (v0 == (2 : Int)) then some (.inl ((IntKind.wrap .i64 (v0 + (1 : Int))), v1, v2, (IntKind.wrap .i64 (v2 + v5)), v4, v5, v6, v7, v8, v9)) else none))) else (bif (v0 == (2 : Int)) then (bif (v0 == (0 : Int)) then some (.inl ((IntKind.wrap .i64 (v0 + (1 : Int))), (IntKind.wrap .i64 (v2 + v6)), v2, v3, v4, v5, v6, v7, v8, v9)) else (bif (v0 == (1 : Int)) then some (.inl ((IntKind.wrap .i64 (v0 + (1 : Int))), v1, (IntKind.wrap .i64 (v2 + v6)), v3, v4, v5, v6, v7, v8, v9)) else (bif (v0 == (2 : Int)) then some (.inl ((IntKind.wrap .i64 (v0 + (1 : Int))), v1, v2, (IntKind.wrap .i64 (v2 + v6)), v4, v5, v6, v7, v8, v9)) else none))) else none))) else (bif (v0 == (2 : Int)) then (bif (v0 == (0 : Int)) then (bif (v0 == (0 : Int)) then some (.inl ((IntKind.wrap .i64 (v0 + (1 : Int))), (IntKind.wrap .i64 (v3 + v4)), v2, v3, v4, v5, v6, v7, v8, v9)) else (bif (v0 == (1 : Int)) then some (.inl ((IntKind.wrap .i64 (v0 + (1 : Int))), v1, (IntKind.wrap .i64 (v3 + v4)), v3, v4, v5, v6, v7, v8, v9)) else (bif (v0 == (2 : Int)) then some (.inl ((IntKind.wrap .i64 (v0 + (1 : Int))), v1, v2, (IntKind.wrap .i64 (v3 + v4)), v4, v5, v6, v7, v8, v9)) else none))) else (bif (v0 == (1 : Int)) then (bif (v0 == (0 : Int)) then some (.inl ((IntKind.wrap .i64 (v0 + (1 : Int))), (IntKind.wrap .i64 (v3 + v5)), v2, v3, v4, v5, v6, v7, v8, v9)) else (bif (v0 == (1 : Int)) then some (.inl ((IntKind.wrap .i64 (v0 + (1 : Int))), v1, (IntKind.wrap .i64 (v3 + v5)), v3, v4, v5, v6, v7, v8, v9)) else (bif (v0 == (2 : Int)) then some (.inl ((IntKind.wrap .i64 (v0 + (1 : Int))), v1, v2, (IntKind.wrap .i64 (v3 + v5)), v4, v5, v6, v7, v8, v9)) else none))) else (bif (v0 == (2 : Int)) then (bif (v0 == (0 : Int)) then some (.inl ((IntKind.wrap .i64 (v0 + (1 : Int))), (IntKind.wrap .i64 (v3 + v6)), v2, v3, v4, v5, v6, v7, v8, v9)) else (bif (v0 == (1 : Int)) then some (.inl ((IntKind.wrap .i64 (v0 + (1 : Int))), v1, (IntKind.wrap .i64 (v3 + v6)), v3, v4, v5, v6, v7, v8, v9)) else (bif (v0 == (2 : Int)) then some (.inl ((IntKind.wrap .i64 (v0 + (1 : Int))), v1, v2, (IntKind.wrap .i64 (v3 + v6)), v4, v5, v6, v7, v8, v9)) else none))) else none))) else none))) else some (.inr (v1, v2, v3, v7, v8, v9)))
noncomputable def team_plus.p0.step (s : Int × Int × Int × Int × Int × Int × Int × Int × Int × Int) : Option ((Int × Int × Int × Int × Int × Int × Int × Int × Int × Int) ⊕ ((Int × Int × Int × Int × Int × Int))) := team_plus.p0.round s.1 s.2.1 s.2.2.1 s.2.2.2.1 s.2.2.2.2.1 s.2.2.2.2.2.1 s.2.2.2.2.2.2.1 s.2.2.2.2.2.2.2.1 s.2.2.2.2.2.2.2.2.1 s.2.2.2.2.2.2.2.2.2
noncomputable def team_plus.p0.inS : Shape := ⟨[(2, .lf (.bp 0 0)), (3, .lf (.bp 1 0)), (4, .lf (.bp 2 0)), (6, .lf (.sc (.int .i64)))], [.box [.sc (.int .i64), .sc (.int .i64), .sc (.int .i64)], .box [.sc (.int .i64), .sc (.int .i64), .sc (.int .i64)], .box [.sc (.int .i64), .sc (.int .i64), .sc (.int .i64)]]⟩
noncomputable def team_plus.p0.w0 : Way := { ex := (.ex 0), S := ⟨[(2, .lf (.bp 0 0)), (4, .lf (.bp 1 0))], [.box [.sc (.int .i64), .sc (.int .i64), .sc (.int .i64)], .box [.sc (.int .i64), .sc (.int .i64), .sc (.int .i64)]]⟩, R := Int × Int × Int × Int × Int × Int, post := fun r => (((), ((), ())), ((r.1, (r.2.1, (r.2.2.1, ()))), ((r.2.2.2.1, (r.2.2.2.2.1, (r.2.2.2.2.2, ()))), ()))), un := fun x => (x.2.1.1, x.2.1.2.1, x.2.1.2.2.1, x.2.2.1.1, x.2.2.1.2.1, x.2.2.1.2.2.1) }
noncomputable def team_plus.p0.outs : List Way := [team_plus.p0.w0]
noncomputable def team_plus.p0.un (x : Tup team_plus.p0.inS) : Int × Int × Int × Int × Int × Int × Int × Int × Int × Int := (x.1.2.2.2.1, x.2.1.1, x.2.1.2.1, x.2.1.2.2.1, x.2.2.1.1, x.2.2.1.2.1, x.2.2.1.2.2.1, x.2.2.2.1.1, x.2.2.2.1.2.1, x.2.2.2.1.2.2.1)
noncomputable def team_plus.p0.lp : LProc := { inS := team_plus.p0.inS, outs := team_plus.p0.outs, F := fun x => loopF team_plus.p0.step (team_plus.p0.un x) }
noncomputable def team_plus.F0 (a0 : Int) (a1 : Int) (a2 : Int) (a3 : Int) (a4 : Int) (a5 : Int) : Option (Int × Int × Int) :=
  ((loopF team_plus.p0.step ((0 : Int), a0, a1, a2, a3, a4, a5, (0 : Int), (0 : Int), (0 : Int))).bind fun y1 => some (y1.1, y1.2.1, y1.2.2.1))
noncomputable def team_plus.F : Int → Int → Int → Int → Int → Int → Option (Int × Int × Int) := lock team_plus.F0
theorem team_plus.F_eq : team_plus.F = team_plus.F0 := lock_eq _
noncomputable def team_plus.p : Proc := { nargs := 2, inS := ⟨[(0, .ag [.sc (.int .i64), .sc (.int .i64), .sc (.int .i64)]), (1, .ag [.sc (.int .i64), .sc (.int .i64), .sc (.int .i64)])], []⟩, outS := ⟨[(0, .ag [.sc (.int .i64), .sc (.int .i64), .sc (.int .i64)])], []⟩, n0 := 0, R := Int × Int × Int, F := fun x => team_plus.F x.1.1.1 x.1.1.2.1 x.1.1.2.2.1 x.1.2.1.1 x.1.2.1.2.1 x.1.2.1.2.2.1, post := fun r => (((r.1, (r.2.1, (r.2.2, ()))), ()), ()), un := fun x => (x.1.1.1, x.1.1.2.1, x.1.1.2.2.1) }
noncomputable def team_plus.E : Env := { P := Try.prog, ty := tyTab [], glob := glob0, proc := procTab [], lproc := lprocTab [(0, team_plus.p0.lp)], n0 := 0, ntmps := 19 }
theorem team_plus.ok : ProcsOk team_plus.E := AllSound.ok (l := []) (by kernel_rfl) rfl trivial
noncomputable def team_plus.body0 : Code := (match Try.f72.body with | some c => c | none => .skip)
noncomputable def team_plus.p0.c : Code := ((codeAt team_plus.body0 [.r, .l, .r, .b, .b]).getD .skip)
noncomputable def team_plus.p0.ann : Ann := .z
theorem team_plus.p0.eq (x : Tup team_plus.p0.inS) : peRound team_plus.E team_plus.p0.c team_plus.p0.ann _ team_plus.p0.inS team_plus.p0.un team_plus.p0.outs x = team_plus.p0.step (team_plus.p0.un x) := by
  kernel_rfl
theorem team_plus.p0.sound : LProcSound team_plus.E (.loop team_plus.p0.c) team_plus.p0.lp :=
  loop_sound (c := team_plus.p0.c) (ann := team_plus.p0.ann) team_plus.ok ((SubsOk_z _ _) : SubsOk team_plus.E team_plus.p0.c team_plus.p0.ann) (by intro a ha; simp only [team_plus.p0.outs, List.mem_cons, List.not_mem_nil, or_false] at ha; rcases ha with rfl <;> exact fun _ => rfl) team_plus.p0.eq
noncomputable def team_plus.ann : Ann := .s (.z) (.s (.s (.z) (.b (.sub 0))) (.z))
theorem team_plus.eq (x : Tup team_plus.p.inS) : peFn team_plus.E Try.f72 team_plus.ann team_plus.p x = team_plus.p.F x := by
  have h : peFn team_plus.E Try.f72 team_plus.ann team_plus.p x = team_plus.F0 x.1.1.1 x.1.1.2.1 x.1.1.2.2.1 x.1.2.1.1 x.1.2.1.2.1 x.1.2.1.2.2.1 := by kernel_rfl
  exact h.trans (by show _ = team_plus.F x.1.1.1 x.1.1.2.1 x.1.1.2.2.1 x.1.2.1.1 x.1.2.1.2.1 x.1.2.1.2.2.1; rw [team_plus.F_eq])
theorem team_plus.sound : ProcSound Try.prog glob0 72 team_plus.p :=
  fn_sound (E := team_plus.E) (c := team_plus.body0) (ann := team_plus.ann) team_plus.ok Try.func72 (of_decide_eq_true (by kernel_rfl)) rfl rfl rfl (by decide +kernel) (⟨(SubsOk_z _ _), ⟨⟨(SubsOk_z _ _), (sub_of rfl team_plus.p0.sound)⟩, (SubsOk_z _ _)⟩⟩ : SubsOk team_plus.E team_plus.body0 team_plus.ann) (fun _ => rfl) rfl team_plus.eq

noncomputable def team_renumber.F0 (a0 : Int) (a1 : Int) : Option (Int) :=
  (bif (a0 == (-1 : Int)) then some a0 else some (IntKind.wrap .i64 (a0 + a1)))
noncomputable def team_renumber.F : Int → Int → Option (Int) := lock team_renumber.F0
theorem team_renumber.F_eq : team_renumber.F = team_renumber.F0 := lock_eq _
noncomputable def team_renumber.p : Proc := { nargs := 2, inS := ⟨[(0, .lf (.sc (.int .i64))), (1, .lf (.sc (.int .i64)))], []⟩, outS := ⟨[(0, .lf (.sc (.int .i64)))], []⟩, n0 := 0, R := Int, F := fun x => team_renumber.F x.1.1 x.1.2.1, post := fun r => ((r, ()), ()), un := fun x => x.1.1 }
noncomputable def team_renumber.E : Env := { P := Try.prog, ty := tyTab [], glob := glob0, proc := procTab [], lproc := lprocTab [], n0 := 0, ntmps := 11 }
theorem team_renumber.ok : ProcsOk team_renumber.E := AllSound.ok (l := []) (by kernel_rfl) rfl trivial
noncomputable def team_renumber.body0 : Code := (match Try.f73.body with | some c => c | none => .skip)
noncomputable def team_renumber.ann : Ann := .z
theorem team_renumber.eq (x : Tup team_renumber.p.inS) : peFn team_renumber.E Try.f73 team_renumber.ann team_renumber.p x = team_renumber.p.F x := by
  have h : peFn team_renumber.E Try.f73 team_renumber.ann team_renumber.p x = team_renumber.F0 x.1.1 x.1.2.1 := by kernel_rfl
  exact h.trans (by show _ = team_renumber.F x.1.1 x.1.2.1; rw [team_renumber.F_eq])
theorem team_renumber.sound : ProcSound Try.prog glob0 73 team_renumber.p :=
  fn_sound (E := team_renumber.E) (c := team_renumber.body0) (ann := team_renumber.ann) team_renumber.ok Try.func73 (of_decide_eq_true (by kernel_rfl)) rfl rfl rfl (by decide +kernel) ((SubsOk_z _ _) : SubsOk team_renumber.E team_renumber.body0 team_renumber.ann) (fun _ => rfl) rfl team_renumber.eq

noncomputable def slices_Clone_Vec.F0 (a0 : List ((Int × (Int × Int)))) : Option (List ((Int × (Int × Int)))) :=
  (bif decide (0 < a0.length) then (bif decide (([] : List ((Int × (Int × Int)))).length + a0.length < 5864062014805) then some (([] : List ((Int × (Int × Int)))) ++ a0) else none) else none)
noncomputable def slices_Clone_Vec.F : (List ((Int × (Int × Int)))) → Option (List ((Int × (Int × Int)))) := lock slices_Clone_Vec.F0
theorem slices_Clone_Vec.F_eq : slices_Clone_Vec.F = slices_Clone_Vec.F0 := lock_eq _
noncomputable def slices_Clone_Vec.p : Proc := { nargs := 1, inS := ⟨[(0, .lf (.dat tyV))], []⟩, outS := ⟨[(0, .lf (.own 0))], [.row 31 tyV]⟩, n0 := 0, R := List ((Int × (Int × Int))), F := fun x => slices_Clone_Vec.F x.1.1, post := fun r => (((), ()), (r, ())), un := fun x => x.2.1 }
noncomputable def slices_Clone_Vec.E : Env := { P := Try.prog, ty := tyTab [(31, tyV)], glob := glob0, proc := procTab [], lproc := lprocTab [], n0 := 0, ntmps := 8 }
theorem slices_Clone_Vec.ok : ProcsOk slices_Clone_Vec.E := AllSound.ok (l := []) (by kernel_rfl) rfl trivial
noncomputable def slices_Clone_Vec.body0 : Code := (match Try.f74.body with | some c => c | none => .skip)
noncomputable def slices_Clone_Vec.ann : Ann := .z
theorem slices_Clone_Vec.eq (x : Tup slices_Clone_Vec.p.inS) : peFn slices_Clone_Vec.E Try.f74 slices_Clone_Vec.ann slices_Clone_Vec.p x = slices_Clone_Vec.p.F x := by
  have h : peFn slices_Clone_Vec.E Try.f74 slices_Clone_Vec.ann slices_Clone_Vec.p x = slices_Clone_Vec.F0 x.1.1 := by kernel_rfl
  exact h.trans (by show _ = slices_Clone_Vec.F x.1.1; rw [slices_Clone_Vec.F_eq])
theorem slices_Clone_Vec.sound : ProcSound Try.prog glob0 74 slices_Clone_Vec.p :=
  fn_sound (E := slices_Clone_Vec.E) (c := slices_Clone_Vec.body0) (ann := slices_Clone_Vec.ann) slices_Clone_Vec.ok Try.func74 (of_decide_eq_true (by kernel_rfl)) rfl rfl rfl (by decide +kernel) ((SubsOk_z _ _) : SubsOk slices_Clone_Vec.E slices_Clone_Vec.body0 slices_Clone_Vec.ann) (fun _ => rfl) rfl slices_Clone_Vec.eq

noncomputable def r6_isLink.F0 (a0 : List ((ByteArray × (Int × (Int × ((Int × (Int × Int)) × (Int × (Int × (Int × (Int × (Int × Int))))))))))) (a1 : List ((Int × (Int × (Int × (Int × Int)))))) (a2 : Int) : Option (Bool) :=
  (bif decide (a2 ≥ (-1 : Int)) then some (decide (a2 < (a0.length : Int))) else some false)
noncomputable def r6_isLink.F : (List ((ByteArray × (Int × (Int × ((Int × (Int × Int)) × (Int × (Int × (Int × (Int × (Int × Int))))))))))) → (List ((Int × (Int × (Int × (Int × Int)))))) → Int → Option (Bool) := lock r6_isLink.F0
theorem r6_isLink.F_eq : r6_isLink.F = r6_isLink.F0 := lock_eq _
noncomputable def r6_isLink.p : Proc := { nargs := 2, inS := ⟨[(0, .ag [.dat tyJ, .dat tyM]), (1, .lf (.sc (.int .i64)))], []⟩, outS := ⟨[(0, .lf (.sc .bool))], []⟩, n0 := 0, R := Bool, F := fun x => r6_isLink.F x.1.1.1 x.1.1.2.1 x.1.2.1, post := fun r => ((r, ()), ()), un := fun x => x.1.1 }
noncomputable def r6_isLink.E : Env := { P := Try.prog, ty := tyTab [], glob := glob0, proc := procTab [], lproc := lprocTab [], n0 := 0, ntmps := 14 }
theorem r6_isLink.ok : ProcsOk r6_isLink.E := AllSound.ok (l := []) (by kernel_rfl) rfl trivial
noncomputable def r6_isLink.body0 : Code := (match Try.f77.body with | some c => c | none => .skip)
noncomputable def r6_isLink.ann : Ann := .z
theorem r6_isLink.eq (x : Tup r6_isLink.p.inS) : peFn r6_isLink.E Try.f77 r6_isLink.ann r6_isLink.p x = r6_isLink.p.F x := by
  have h : peFn r6_isLink.E Try.f77 r6_isLink.ann r6_isLink.p x = r6_isLink.F0 x.1.1.1 x.1.1.2.1 x.1.2.1 := by kernel_rfl
  exact h.trans (by show _ = r6_isLink.F x.1.1.1 x.1.1.2.1 x.1.2.1; rw [r6_isLink.F_eq])
theorem r6_isLink.sound : ProcSound Try.prog glob0 77 r6_isLink.p :=
  fn_sound (E := r6_isLink.E) (c := r6_isLink.body0) (ann := r6_isLink.ann) r6_isLink.ok Try.func77 (of_decide_eq_true (by kernel_rfl)) rfl rfl rfl (by decide +kernel) ((SubsOk_z _ _) : SubsOk r6_isLink.E r6_isLink.body0 r6_isLink.ann) (fun _ => rfl) rfl r6_isLink.eq

noncomputable def r6_between.F0 (a0 : Int) (a1 : Int) (a2 : Int) : Option (Bool) :=
  (bif decide (a1 ≤ a0) then some (decide (a0 ≤ a2)) else some false)
noncomputable def r6_between.F : Int → Int → Int → Option (Bool) := lock r6_between.F0
theorem r6_between.F_eq : r6_between.F = r6_between.F0 := lock_eq _
noncomputable def r6_between.p : Proc := { nargs := 3, inS := ⟨[(0, .lf (.sc (.int .i64))), (1, .lf (.sc (.int .i64))), (2, .lf (.sc (.int .i64)))], []⟩, outS := ⟨[(0, .lf (.sc .bool))], []⟩, n0 := 0, R := Bool, F := fun x => r6_between.F x.1.1 x.1.2.1 x.1.2.2.1, post := fun r => ((r, ()), ()), un := fun x => x.1.1 }
noncomputable def r6_between.E : Env := { P := Try.prog, ty := tyTab [], glob := glob0, proc := procTab [], lproc := lprocTab [], n0 := 0, ntmps := 15 }
theorem r6_between.ok : ProcsOk r6_between.E := AllSound.ok (l := []) (by kernel_rfl) rfl trivial
noncomputable def r6_between.body0 : Code := (match Try.f78.body with | some c => c | none => .skip)
noncomputable def r6_between.ann : Ann := .z
theorem r6_between.eq (x : Tup r6_between.p.inS) : peFn r6_between.E Try.f78 r6_between.ann r6_between.p x = r6_between.p.F x := by
  have h : peFn r6_between.E Try.f78 r6_between.ann r6_between.p x = r6_between.F0 x.1.1 x.1.2.1 x.1.2.2.1 := by kernel_rfl
  exact h.trans (by show _ = r6_between.F x.1.1 x.1.2.1 x.1.2.2.1; rw [r6_between.F_eq])
theorem r6_between.sound : ProcSound Try.prog glob0 78 r6_between.p :=
  fn_sound (E := r6_between.E) (c := r6_between.body0) (ann := r6_between.ann) r6_between.ok Try.func78 (of_decide_eq_true (by kernel_rfl)) rfl rfl rfl (by decide +kernel) ((SubsOk_z _ _) : SubsOk r6_between.E r6_between.body0 r6_between.ann) (fun _ => rfl) rfl r6_between.eq

noncomputable def r6_Near.p0.round (v0 : Int) (v1 : Int) (v2 : Int) (v3 : Int) (v4 : Int) : Option ((Int × Int × Int × Int × Int) ⊕ ((Bool) ⊕ (Unit))) :=
  (bif decide (v1 < (3 : Int)) then (bif (v1 == (0 : Int)) then (bif decide (v2 < (IntKind.wrap .i64 (0 - v0))) then some (.inr (.inl false)) else (bif (v1 == (0 : Int)) then (bif decide (v2 > v0) then some (.inr (.inl false)) else some (.inl (v0, (IntKind.wrap .i64 (v1 + (1 : Int))), v2, v3, v4))) else (bif (v1 == (1 : Int)) then (bif decide (v3 > v0) then some (.inr (.inl false)) else some (.inl (v0, (IntKind.wrap .i64 (v1 + (1 : Int))), v2, v3, v4))) else (bif (v1 == (2 : Int)) then (bif decide (v4 > v0) then some (.inr (.inl false)) else some (.inl (v0, (IntKind.wrap .i64 (v1 + (1 : Int))), v2, v3, v4))) else none)))) else (bif (v1 == (1 : Int)) then (bif decide (v3 < (IntKind.wrap .i64 (0 - v0))) then some (.inr (.inl false)) else (bif (v1 == (0 : Int)) then (bif decide (v2 > v0) then some (.inr (.inl false)) else some (.inl (v0, (IntKind.wrap .i64 (v1 + (1 : Int))), v2, v3, v4))) else (bif (v1 == (1 : Int)) then (bif decide (v3 > v0) then some (.inr (.inl false)) else some (.inl (v0, (IntKind.wrap .i64 (v1 + (1 : Int))), v2, v3, v4))) else (bif (v1 == (2 : Int)) then (bif decide (v4 > v0) then some (.inr (.inl false)) else some (.inl (v0, (IntKind.wrap .i64 (v1 + (1 : Int))), v2, v3, v4))) else none)))) else (bif (v1 == (2 : Int)) then (bif decide (v4 < (IntKind.wrap .i64 (0 - v0))) then some (.inr (.inl false)) else (bif (v1 == (0 : Int)) then (bif decide (v2 > v0) then some (.inr (.inl false)) else some (.inl (v0, (IntKind.wrap .i64 (v1 + (1 : Int))), v2, v3, v4))) else (bif (v1 == (1 : Int)) then (bif decide (v3 > v0) then some (.inr (.inl false)) else some (.inl (v0, (IntKind.wrap .i64 (v1 + (1 : Int))), v2, v3, v4))) else (bif (v1 == (2 : Int)) then (bif decide (v4 > v0) then some (.inr (.inl false)) else some (.inl (v0, (IntKind.wrap .i64 (v1 + (1 : Int))), v2, v3, v4))) else none)))) else none))) else some (.inr (.inr ())))
noncomputable def r6_Near.p0.step (s : Int × Int × Int × Int × Int) : Option ((Int × Int × Int × Int × Int) ⊕ ((Bool) ⊕ (Unit))) := r6_Near.p0.round s.1 s.2.1 s.2.2.1 s.2.2.2.1 s.2.2.2.2
noncomputable def r6_Near.p0.inS : Shape := ⟨[(1, .lf (.sc (.int .i64))), (2, .lf (.bp 0 0)), (5, .lf (.sc (.int .i64)))], [.box [.sc (.int .i64), .sc (.int .i64), .sc (.int .i64)]]⟩
noncomputable def r6_Near.p0.w0 : Way := { ex := .rt, S := ⟨[(4, .lf (.sc .bool))], []⟩, R := Bool, post := fun r => ((r, ()), ()), un := fun x => x.1.1 }
noncomputable def r6_Near.p0.w1 : Way := { ex := (.ex 0), S := ⟨[], []⟩, R := Unit, post := fun r => ((), ()), un := fun x => () }
noncomputable def r6_Near.p0.outs : List Way := [r6_Near.p0.w0, r6_Near.p0.w1]
noncomputable def r6_Near.p0.un (x : Tup r6_Near.p0.inS) : Int × Int × Int × Int × Int := (x.1.1, x.1.2.2.1, x.2.1.1, x.2.1.2.1, x.2.1.2.2.1)
noncomputable def r6_Near.p0.lp : LProc := { inS := r6_Near.p0.inS, outs := r6_Near.p0.outs, F := fun x => loopF r6_Near.p0.step (r6_Near.p0.un x) }
noncomputable def r6_Near.F0 (a0 : Int) (a1 : Int) (a2 : Int) (a3 : Int) : Option (Bool) :=
  ((loopF r6_Near.p0.step (a3, (0 : Int), a0, a1, a2)).bind fun y1 => (Sum.elim (fun y2 => some y2) (fun z3 => some true) y1))
noncomputable def r6_Near.F : Int → Int → Int → Int → Option (Bool) := lock r6_Near.F0
theorem r6_Near.F_eq : r6_Near.F = r6_Near.F0 := lock_eq _
noncomputable def r6_Near.p : Proc := { nargs := 2, inS := ⟨[(0, .ag [.sc (.int .i64), .sc (.int .i64), .sc (.int .i64)]), (1, .lf (.sc (.int .i64)))], []⟩, outS := ⟨[(0, .lf (.sc .bool))], []⟩, n0 := 0, R := Bool, F := fun x => r6_Near.F x.1.1.1 x.1.1.2.1 x.1.1.2.2.1 x.1.2.1, post := fun r => ((r, ()), ()), un := fun x => x.1.1 }
noncomputable def r6_Near.E : Env := { P := Try.prog, ty := tyTab [], glob := glob0, proc := procTab [], lproc := lprocTab [(0, r6_Near.p0.lp)], n0 := 0, ntmps := 23 }
theorem r6_Near.ok : ProcsOk r6_Near.E := AllSound.ok (l := []) (by kernel_rfl) rfl trivial
noncomputable def r6_Near.body0 : Code := (match Try.f79.body with | some c => c | none => .skip)
noncomputable def r6_Near.p0.c : Code := ((codeAt r6_Near.body0 [.r, .l, .r, .b, .b]).getD .skip)
noncomputable def r6_Near.p0.ann : Ann := .z
theorem r6_Near.p0.eq (x : Tup r6_Near.p0.inS) : peRound r6_Near.E r6_Near.p0.c r6_Near.p0.ann _ r6_Near.p0.inS r6_Near.p0.un r6_Near.p0.outs x = r6_Near.p0.step (r6_Near.p0.un x) := by
  kernel_rfl
theorem r6_Near.p0.sound : LProcSound r6_Near.E (.loop r6_Near.p0.c) r6_Near.p0.lp :=
  loop_sound (c := r6_Near.p0.c) (ann := r6_Near.p0.ann) r6_Near.ok ((SubsOk_z _ _) : SubsOk r6_Near.E r6_Near.p0.c r6_Near.p0.ann) (by intro a ha; simp only [r6_Near.p0.outs, List.mem_cons, List.not_mem_nil, or_false] at ha; rcases ha with rfl | rfl <;> exact fun _ => rfl) r6_Near.p0.eq
noncomputable def r6_Near.ann : Ann := .s (.z) (.s (.s (.z) (.b (.sub 0))) (.z))
theorem r6_Near.eq (x : Tup r6_Near.p.inS) : peFn r6_Near.E Try.f79 r6_Near.ann r6_Near.p x = r6_Near.p.F x := by
  have h : peFn r6_Near.E Try.f79 r6_Near.ann r6_Near.p x = r6_Near.F0 x.1.1.1 x.1.1.2.1 x.1.1.2.2.1 x.1.2.1 := by kernel_rfl
  exact h.trans (by show _ = r6_Near.F x.1.1.1 x.1.1.2.1 x.1.1.2.2.1 x.1.2.1; rw [r6_Near.F_eq])
theorem r6_Near.sound : ProcSound Try.prog glob0 79 r6_Near.p :=
  fn_sound (E := r6_Near.E) (c := r6_Near.body0) (ann := r6_Near.ann) r6_Near.ok Try.func79 (of_decide_eq_true (by kernel_rfl)) rfl rfl rfl (by decide +kernel) (⟨(SubsOk_z _ _), ⟨⟨(SubsOk_z _ _), (sub_of rfl r6_Near.p0.sound)⟩, (SubsOk_z _ _)⟩⟩ : SubsOk r6_Near.E r6_Near.body0 r6_Near.ann) (fun _ => rfl) rfl r6_Near.eq

noncomputable def slices_Clone_int64.F0 (a0 : List (Int)) : Option (List (Int)) :=
  (bif decide (0 < a0.length) then (bif decide (([] : List (Int)).length + a0.length < 17592186044416) then some (([] : List (Int)) ++ a0) else none) else none)
noncomputable def slices_Clone_int64.F : (List (Int)) → Option (List (Int)) := lock slices_Clone_int64.F0
theorem slices_Clone_int64.F_eq : slices_Clone_int64.F = slices_Clone_int64.F0 := lock_eq _
noncomputable def slices_Clone_int64.p : Proc := { nargs := 1, inS := ⟨[(0, .lf (.dat (.int .i64)))], []⟩, outS := ⟨[(0, .lf (.own 0))], [.row 2 (.int .i64)]⟩, n0 := 0, R := List (Int), F := fun x => slices_Clone_int64.F x.1.1, post := fun r => (((), ()), (r, ())), un := fun x => x.2.1 }
noncomputable def slices_Clone_int64.E : Env := { P := Try.prog, ty := tyTab [(2, (.int .i64))], glob := glob0, proc := procTab [], lproc := lprocTab [], n0 := 0, ntmps := 8 }
theorem slices_Clone_int64.ok : ProcsOk slices_Clone_int64.E := AllSound.ok (l := []) (by kernel_rfl) rfl trivial
noncomputable def slices_Clone_int64.body0 : Code := (match Try.f87.body with | some c => c | none => .skip)
noncomputable def slices_Clone_int64.ann : Ann := .z
theorem slices_Clone_int64.eq (x : Tup slices_Clone_int64.p.inS) : peFn slices_Clone_int64.E Try.f87 slices_Clone_int64.ann slices_Clone_int64.p x = slices_Clone_int64.p.F x := by
  have h : peFn slices_Clone_int64.E Try.f87 slices_Clone_int64.ann slices_Clone_int64.p x = slices_Clone_int64.F0 x.1.1 := by kernel_rfl
  exact h.trans (by show _ = slices_Clone_int64.F x.1.1; rw [slices_Clone_int64.F_eq])
theorem slices_Clone_int64.sound : ProcSound Try.prog glob0 87 slices_Clone_int64.p :=
  fn_sound (E := slices_Clone_int64.E) (c := slices_Clone_int64.body0) (ann := slices_Clone_int64.ann) slices_Clone_int64.ok Try.func87 (of_decide_eq_true (by kernel_rfl)) rfl rfl rfl (by decide +kernel) ((SubsOk_z _ _) : SubsOk slices_Clone_int64.E slices_Clone_int64.body0 slices_Clone_int64.ann) (fun _ => rfl) rfl slices_Clone_int64.eq

noncomputable def scene_Skipped_1.F0 (a0 : Int) (a1 : Int) (a2 : Int) (a3 : Int) : Option (Bool × Int × Int) :=
  (bif ((a0 == a2) && ((a1 == a3) && true)) then some (true, a2, a3) else some (((a0 == a3) && ((a1 == a2) && true)), a2, a3))
noncomputable def scene_Skipped_1.F : Int → Int → Int → Int → Option (Bool × Int × Int) := lock scene_Skipped_1.F0
theorem scene_Skipped_1.F_eq : scene_Skipped_1.F = scene_Skipped_1.F0 := lock_eq _
noncomputable def scene_Skipped_1.p : Proc := { nargs := 3, inS := ⟨[(0, .ag [.sc (.int .i64), .sc (.int .i64)]), (1, .lf (.bp 0 0)), (2, .lf (.bp 1 0))], [.box [.sc (.int .i64)], .box [.sc (.int .i64)]]⟩, outS := ⟨[(0, .lf (.sc .bool))], [.box [.sc (.int .i64)], .box [.sc (.int .i64)]]⟩, n0 := 2, R := Bool × Int × Int, F := fun x => scene_Skipped_1.F x.1.1.1 x.1.1.2.1 x.2.1.1 x.2.2.1.1, post := fun r => ((r.1, ()), ((r.2.1, ()), ((r.2.2, ()), ()))), un := fun x => (x.1.1, x.2.1.1, x.2.2.1.1) }
noncomputable def scene_Skipped_1.E : Env := { P := Try.prog, ty := tyTab [], glob := glob0, proc := procTab [], lproc := lprocTab [], n0 := 2, ntmps := 17 }
theorem scene_Skipped_1.ok : ProcsOk scene_Skipped_1.E := AllSound.ok (l := []) (by kernel_rfl) rfl trivial
noncomputable def scene_Skipped_1.body0 : Code := (match Try.f111.body with | some c => c | none => .skip)
noncomputable def scene_Skipped_1.ann : Ann := .z
theorem scene_Skipped_1.eq (x : Tup scene_Skipped_1.p.inS) : peFn scene_Skipped_1.E Try.f111 scene_Skipped_1.ann scene_Skipped_1.p x = scene_Skipped_1.p.F x := by
  have h : peFn scene_Skipped_1.E Try.f111 scene_Skipped_1.ann scene_Skipped_1.p x = scene_Skipped_1.F0 x.1.1.1 x.1.1.2.1 x.2.1.1 x.2.2.1.1 := by kernel_rfl
  exact h.trans (by show _ = scene_Skipped_1.F x.1.1.1 x.1.1.2.1 x.2.1.1 x.2.2.1.1; rw [scene_Skipped_1.F_eq])
theorem scene_Skipped_1.sound : ProcSound Try.prog glob0 111 scene_Skipped_1.p :=
  fn_sound (E := scene_Skipped_1.E) (c := scene_Skipped_1.body0) (ann := scene_Skipped_1.ann) scene_Skipped_1.ok Try.func111 (of_decide_eq_true (by kernel_rfl)) rfl rfl rfl (by decide +kernel) ((SubsOk_z _ _) : SubsOk scene_Skipped_1.E scene_Skipped_1.body0 scene_Skipped_1.ann) (fun _ => rfl) rfl scene_Skipped_1.eq

noncomputable def slIF_Skip__scene_Skipped_1.p0.round (v0 : List ((Int × Int))) (v1 : Int) (v2 : Int) (v3 : Int) (v4 : Int) : Option ((List ((Int × Int)) × Int × Int × Int × Int) ⊕ ((Int × Int × Int) ⊕ (Int × Int))) :=
  (bif decide (v2 < v1) then (bif decide (0 ≤ v2) then (bif decide (v2 < (v0.length : Int)) then ((scene_Skipped_1.F (v0.getD v2.toNat ((0 : Int), (0 : Int))).1 (v0.getD v2.toNat ((0 : Int), (0 : Int))).2 v3 v4).bind fun r2 => (bif r2.1 then some (.inr (.inl (v2, r2.2.1, r2.2.2))) else some (.inl (v0, v1, (IntKind.wrap .i64 (v2 + (1 : Int))), r2.2.1, r2.2.2)))) else none) else none) else some (.inr (.inr (v3, v4))))
noncomputable def slIF_Skip__scene_Skipped_1.p0.step (s : List ((Int × Int)) × Int × Int × Int × Int) : Option ((List ((Int × Int)) × Int × Int × Int × Int) ⊕ ((Int × Int × Int) ⊕ (Int × Int))) := slIF_Skip__scene_Skipped_1.p0.round s.1 s.2.1 s.2.2.1 s.2.2.2.1 s.2.2.2.2
noncomputable def slIF_Skip__scene_Skipped_1.p0.inS : Shape := ⟨[(0, .lf (.dat tyK)), (1, .lf (.fn 111 [0, 1])), (7, .lf (.sc (.int .i64))), (8, .lf (.sc (.int .i64)))], [.box [.sc (.int .i64)], .box [.sc (.int .i64)]]⟩
noncomputable def slIF_Skip__scene_Skipped_1.p0.w0 : Way := { ex := .rt, S := ⟨[(4, .lf (.sc (.int .i64)))], [.box [.sc (.int .i64)], .box [.sc (.int .i64)]]⟩, R := Int × Int × Int, post := fun r => ((r.1, ()), ((r.2.1, ()), ((r.2.2, ()), ()))), un := fun x => (x.1.1, x.2.1.1, x.2.2.1.1) }
noncomputable def slIF_Skip__scene_Skipped_1.p0.w1 : Way := { ex := (.ex 0), S := ⟨[], [.box [.sc (.int .i64)], .box [.sc (.int .i64)]]⟩, R := Int × Int, post := fun r => ((), ((r.1, ()), ((r.2, ()), ()))), un := fun x => (x.2.1.1, x.2.2.1.1) }
noncomputable def slIF_Skip__scene_Skipped_1.p0.outs : List Way := [slIF_Skip__scene_Skipped_1.p0.w0, slIF_Skip__scene_Skipped_1.p0.w1]
noncomputable def slIF_Skip__scene_Skipped_1.p0.un (x : Tup slIF_Skip__scene_Skipped_1.p0.inS) : List ((Int × Int)) × Int × Int × Int × Int := (x.1.1, x.1.2.2.1, x.1.2.2.2.1, x.2.1.1, x.2.2.1.1)
noncomputable def slIF_Skip__scene_Skipped_1.p0.lp : LProc := { inS := slIF_Skip__scene_Skipped_1.p0.inS, outs := slIF_Skip__scene_Skipped_1.p0.outs, F := fun x => loopF slIF_Skip__scene_Skipped_1.p0.step (slIF_Skip__scene_Skipped_1.p0.un x) }
noncomputable def slIF_Skip__scene_Skipped_1.F0 (a0 : List ((Int × Int))) (a1 : Int) (a2 : Int) : Option (Int × Int × Int) :=
  ((loopF slIF_Skip__scene_Skipped_1.p0.step (a0, (a0.length : Int), (0 : Int), a1, a2)).bind fun y3 => (Sum.elim (fun y4 => some (y4.1, y4.2.1, y4.2.2)) (fun z5 => some ((-1 : Int), z5.1, z5.2)) y3))
noncomputable def slIF_Skip__scene_Skipped_1.F : (List ((Int × Int))) → Int → Int → Option (Int × Int × Int) := lock slIF_Skip__scene_Skipped_1.F0
theorem slIF_Skip__scene_Skipped_1.F_eq : slIF_Skip__scene_Skipped_1.F = slIF_Skip__scene_Skipped_1.F0 := lock_eq _
noncomputable def slIF_Skip__scene_Skipped_1.p : Proc := { nargs := 2, inS := ⟨[(0, .lf (.dat tyK)), (1, .lf (.fn 111 [0, 1]))], [.box [.sc (.int .i64)], .box [.sc (.int .i64)]]⟩, outS := ⟨[(0, .lf (.sc (.int .i64)))], [.box [.sc (.int .i64)], .box [.sc (.int .i64)]]⟩, n0 := 2, R := Int × Int × Int, F := fun x => slIF_Skip__scene_Skipped_1.F x.1.1 x.2.1.1 x.2.2.1.1, post := fun r => ((r.1, ()), ((r.2.1, ()), ((r.2.2, ()), ()))), un := fun x => (x.1.1, x.2.1.1, x.2.2.1.1) }
noncomputable def slIF_Skip__scene_Skipped_1.E : Env := { P := Try.prog, ty := tyTab [], glob := glob0, proc := procTab [(111, scene_Skipped_1.p)], lproc := lprocTab [(0, slIF_Skip__scene_Skipped_1.p0.lp)], n0 := 2, ntmps := 19 }
theorem slIF_Skip__scene_Skipped_1.ok : ProcsOk slIF_Skip__scene_Skipped_1.E := AllSound.ok (l := [(111, scene_Skipped_1.p)]) (by kernel_rfl) rfl ⟨scene_Skipped_1.sound, trivial⟩
noncomputable def slIF_Skip__scene_Skipped_1.body0 : Code := (match Try.f128.body with | some c => c | none => .skip)
noncomputable def slIF_Skip__scene_Skipped_1.p0.c : Code := ((codeAt slIF_Skip__scene_Skipped_1.body0 [.r, .l, .r, .b, .b]).getD .skip)
noncomputable def slIF_Skip__scene_Skipped_1.p0.ann : Ann := .z
theorem slIF_Skip__scene_Skipped_1.p0.eq (x : Tup slIF_Skip__scene_Skipped_1.p0.inS) : peRound slIF_Skip__scene_Skipped_1.E slIF_Skip__scene_Skipped_1.p0.c slIF_Skip__scene_Skipped_1.p0.ann _ slIF_Skip__scene_Skipped_1.p0.inS slIF_Skip__scene_Skipped_1.p0.un slIF_Skip__scene_Skipped_1.p0.outs x = slIF_Skip__scene_Skipped_1.p0.step (slIF_Skip__scene_Skipped_1.p0.un x) := by
  kernel_rfl
theorem slIF_Skip__scene_Skipped_1.p0.sound : LProcSound slIF_Skip__scene_Skipped_1.E (.loop slIF_Skip__scene_Skipped_1.p0.c) slIF_Skip__scene_Skipped_1.p0.lp :=
  loop_sound (c := slIF_Skip__scene_Skipped_1.p0.c) (ann := slIF_Skip__scene_Skipped_1.p0.ann) slIF_Skip__scene_Skipped_1.ok ((SubsOk_z _ _) : SubsOk slIF_Skip__scene_Skipped_1.E slIF_Skip__scene_Skipped_1.p0.c slIF_Skip__scene_Skipped_1.p0.ann) (by intro a ha; simp only [slIF_Skip__scene_Skipped_1.p0.outs, List.mem_cons, List.not_mem_nil, or_false] at ha; rcases ha with rfl | rfl <;> exact fun _ => rfl) slIF_Skip__scene_Skipped_1.p0.eq
noncomputable def slIF_Skip__scene_Skipped_1.ann : Ann := .s (.z) (.s (.s (.z) (.b (.sub 0))) (.z))
theorem slIF_Skip__scene_Skipped_1.eq (x : Tup slIF_Skip__scene_Skipped_1.p.inS) : peFn slIF_Skip__scene_Skipped_1.E Try.f128 slIF_Skip__scene_Skipped_1.ann slIF_Skip__scene_Skipped_1.p x = slIF_Skip__scene_Skipped_1.p.F x := by
  have h : peFn slIF_Skip__scene_Skipped_1.E Try.f128 slIF_Skip__scene_Skipped_1.ann slIF_Skip__scene_Skipped_1.p x = slIF_Skip__scene_Skipped_1.F0 x.1.1 x.2.1.1 x.2.2.1.1 := by kernel_rfl
  exact h.trans (by show _ = slIF_Skip__scene_Skipped_1.F x.1.1 x.2.1.1 x.2.2.1.1; rw [slIF_Skip__scene_Skipped_1.F_eq])
theorem slIF_Skip__scene_Skipped_1.sound : ProcSound Try.prog glob0 128 slIF_Skip__scene_Skipped_1.p :=
  fn_sound (E := slIF_Skip__scene_Skipped_1.E) (c := slIF_Skip__scene_Skipped_1.body0) (ann := slIF_Skip__scene_Skipped_1.ann) slIF_Skip__scene_Skipped_1.ok Try.func128 (of_decide_eq_true (by kernel_rfl)) rfl rfl rfl (by decide +kernel) (⟨(SubsOk_z _ _), ⟨⟨(SubsOk_z _ _), (sub_of rfl slIF_Skip__scene_Skipped_1.p0.sound)⟩, (SubsOk_z _ _)⟩⟩ : SubsOk slIF_Skip__scene_Skipped_1.E slIF_Skip__scene_Skipped_1.body0 slIF_Skip__scene_Skipped_1.ann) (fun _ => rfl) rfl slIF_Skip__scene_Skipped_1.eq

noncomputable def slCF_Skip__scene_Skipped_1.F0 (a0 : List ((Int × Int))) (a1 : Int) (a2 : Int) : Option (Bool × Int × Int) :=
  ((slIF_Skip__scene_Skipped_1.F a0 a1 a2).bind fun r1 => some (decide (r1.1 ≥ (0 : Int)), r1.2.1, r1.2.2))
noncomputable def slCF_Skip__scene_Skipped_1.F : (List ((Int × Int))) → Int → Int → Option (Bool × Int × Int) := lock slCF_Skip__scene_Skipped_1.F0
theorem slCF_Skip__scene_Skipped_1.F_eq : slCF_Skip__scene_Skipped_1.F = slCF_Skip__scene_Skipped_1.F0 := lock_eq _
noncomputable def slCF_Skip__scene_Skipped_1.p : Proc := { nargs := 2, inS := ⟨[(0, .lf (.dat tyK)), (1, .lf (.fn 111 [0, 1]))], [.box [.sc (.int .i64)], .box [.sc (.int .i64)]]⟩, outS := ⟨[(0, .lf (.sc .bool))], [.box [.sc (.int .i64)], .box [.sc (.int .i64)]]⟩, n0 := 2, R := Bool × Int × Int, F := fun x => slCF_Skip__scene_Skipped_1.F x.1.1 x.2.1.1 x.2.2.1.1, post := fun r => ((r.1, ()), ((r.2.1, ()), ((r.2.2, ()), ()))), un := fun x => (x.1.1, x.2.1.1, x.2.2.1.1) }
noncomputable def slCF_Skip__scene_Skipped_1.E : Env := { P := Try.prog, ty := tyTab [(112, tyK)], glob := glob0, proc := procTab [(128, slIF_Skip__scene_Skipped_1.p)], lproc := lprocTab [], n0 := 2, ntmps := 9 }
theorem slCF_Skip__scene_Skipped_1.ok : ProcsOk slCF_Skip__scene_Skipped_1.E := AllSound.ok (l := [(128, slIF_Skip__scene_Skipped_1.p)]) (by kernel_rfl) rfl ⟨slIF_Skip__scene_Skipped_1.sound, trivial⟩
noncomputable def slCF_Skip__scene_Skipped_1.body0 : Code := (match Try.f110.body with | some c => c | none => .skip)
noncomputable def slCF_Skip__scene_Skipped_1.ann : Ann := .z
theorem slCF_Skip__scene_Skipped_1.eq (x : Tup slCF_Skip__scene_Skipped_1.p.inS) : peFn slCF_Skip__scene_Skipped_1.E Try.f110 slCF_Skip__scene_Skipped_1.ann slCF_Skip__scene_Skipped_1.p x = slCF_Skip__scene_Skipped_1.p.F x := by
  have h : peFn slCF_Skip__scene_Skipped_1.E Try.f110 slCF_Skip__scene_Skipped_1.ann slCF_Skip__scene_Skipped_1.p x = slCF_Skip__scene_Skipped_1.F0 x.1.1 x.2.1.1 x.2.2.1.1 := by kernel_rfl
  exact h.trans (by show _ = slCF_Skip__scene_Skipped_1.F x.1.1 x.2.1.1 x.2.2.1.1; rw [slCF_Skip__scene_Skipped_1.F_eq])
theorem slCF_Skip__scene_Skipped_1.sound : ProcSound Try.prog glob0 110 slCF_Skip__scene_Skipped_1.p :=
  fn_sound (E := slCF_Skip__scene_Skipped_1.E) (c := slCF_Skip__scene_Skipped_1.body0) (ann := slCF_Skip__scene_Skipped_1.ann) slCF_Skip__scene_Skipped_1.ok Try.func110 (of_decide_eq_true (by kernel_rfl)) rfl rfl rfl (by decide +kernel) ((SubsOk_z _ _) : SubsOk slCF_Skip__scene_Skipped_1.E slCF_Skip__scene_Skipped_1.body0 slCF_Skip__scene_Skipped_1.ann) (fun _ => rfl) rfl slCF_Skip__scene_Skipped_1.eq

noncomputable def scene_Skipped.F0 (a0 : List ((ByteArray × (Int × (Int × ((Int × (Int × Int)) × (Int × (Int × (Int × (Int × (Int × Int))))))))))) (a1 : List ((Int × (Int × (Int × (Int × Int)))))) (a2 : List ((Int × (Int × List ((Int × (Int × Int))))))) (a3 : List ((Int × Int))) (a4 : Int) (a5 : Int) : Option (Bool) :=
  ((slCF_Skip__scene_Skipped_1.F a3 a4 a5).bind fun r1 => some r1.1)
noncomputable def scene_Skipped.F : (List ((ByteArray × (Int × (Int × ((Int × (Int × Int)) × (Int × (Int × (Int × (Int × (Int × Int))))))))))) → (List ((Int × (Int × (Int × (Int × Int)))))) → (List ((Int × (Int × List ((Int × (Int × Int))))))) → (List ((Int × Int))) → Int → Int → Option (Bool) := lock scene_Skipped.F0
theorem scene_Skipped.F_eq : scene_Skipped.F = scene_Skipped.F0 := lock_eq _
noncomputable def scene_Skipped.p : Proc := { nargs := 3, inS := ⟨[(0, .ag [.dat tyJ, .dat tyM, .dat tyS, .dat tyK]), (1, .lf (.sc (.int .i64))), (2, .lf (.sc (.int .i64)))], []⟩, outS := ⟨[(0, .lf (.sc .bool))], []⟩, n0 := 0, R := Bool, F := fun x => scene_Skipped.F x.1.1.1 x.1.1.2.1 x.1.1.2.2.1 x.1.1.2.2.2.1 x.1.2.1 x.1.2.2.1, post := fun r => ((r, ()), ()), un := fun x => x.1.1 }
noncomputable def scene_Skipped.E : Env := { P := Try.prog, ty := tyTab [(112, tyK)], glob := glob0, proc := procTab [(110, slCF_Skip__scene_Skipped_1.p)], lproc := lprocTab [], n0 := 0, ntmps := 11 }
theorem scene_Skipped.ok : ProcsOk scene_Skipped.E := AllSound.ok (l := [(110, slCF_Skip__scene_Skipped_1.p)]) (by kernel_rfl) rfl ⟨slCF_Skip__scene_Skipped_1.sound, trivial⟩
noncomputable def scene_Skipped.body0 : Code := (match Try.f89.body with | some c => c | none => .skip)
noncomputable def scene_Skipped.ann : Ann := .z
theorem scene_Skipped.eq (x : Tup scene_Skipped.p.inS) : peFn scene_Skipped.E Try.f89 scene_Skipped.ann scene_Skipped.p x = scene_Skipped.p.F x := by
  have h : peFn scene_Skipped.E Try.f89 scene_Skipped.ann scene_Skipped.p x = scene_Skipped.F0 x.1.1.1 x.1.1.2.1 x.1.1.2.2.1 x.1.1.2.2.2.1 x.1.2.1 x.1.2.2.1 := by kernel_rfl
  exact h.trans (by show _ = scene_Skipped.F x.1.1.1 x.1.1.2.1 x.1.1.2.2.1 x.1.1.2.2.2.1 x.1.2.1 x.1.2.2.1; rw [scene_Skipped.F_eq])
theorem scene_Skipped.sound : ProcSound Try.prog glob0 89 scene_Skipped.p :=
  fn_sound (E := scene_Skipped.E) (c := scene_Skipped.body0) (ann := scene_Skipped.ann) scene_Skipped.ok Try.func89 (of_decide_eq_true (by kernel_rfl)) rfl rfl rfl (by decide +kernel) ((SubsOk_z _ _) : SubsOk scene_Skipped.E scene_Skipped.body0 scene_Skipped.ann) (fun _ => rfl) rfl scene_Skipped.eq

noncomputable def mk_joint.F0 (a0 : Int) (a1 : List (Int)) (a2 : Int) : Option (ByteArray × Int × Int × Int × Int × Int × Int × Int × Int × Int × Int × Int × List (Int) × Int) :=
  ((mk_letter.F a0).bind fun r1 => ((mk_Source_Next.F (4 : Int) a1 a2).bind fun r2 => ((mk_Source_Next.F (3 : Int) r2.2.1 r2.2.2).bind fun r3 => ((mk_Source_Next.F (8 : Int) r3.2.1 r3.2.2).bind fun r4 => (bif decide (0 ≤ r4.1) then (bif decide (r4.1 < (8 : Int)) then ((mk_Source_Next.F (4 : Int) r4.2.1 r4.2.2).bind fun r5 => (bif (r5.1 == (1 : Int)) then (bif decide (a0 > (0 : Int)) then ((mk_Source_Signed.F (2 : Int) r5.2.1 r5.2.2).bind fun r6 => ((mk_Source_Signed.F (1 : Int) r6.2.1 r6.2.2).bind fun r7 => (bif ((([(3 : Int), (3 : Int), (1 : Int), (2 : Int), (4 : Int), (5 : Int), (3 : Int), (0 : Int)] : List Int).getD r4.1.toNat 0) == (0 : Int)) then some (r1, (([(3 : Int), (3 : Int), (1 : Int), (2 : Int), (4 : Int), (5 : Int), (3 : Int), (0 : Int)] : List Int).getD r4.1.toNat 0), (-1 : Int), (131072 : Int), (IntKind.wrap .i64 (r6.1 * (32768 : Int))), (IntKind.wrap .i64 (r7.1 * (32768 : Int))), (0 : Int), (0 : Int), (IntKind.wrap .i64 ((1 : Int) + r2.1)), (65536 : Int), (IntKind.wrap .i64 ((65536 : Int) + r3.1)), (327680 : Int), r7.2.1, r7.2.2) else (bif ((([(3 : Int), (3 : Int), (1 : Int), (2 : Int), (4 : Int), (5 : Int), (3 : Int), (0 : Int)] : List Int).getD r4.1.toNat 0) == (4 : Int)) then ((mk_Source_Next.F (3 : Int) r7.2.1 r7.2.2).bind fun r8 => ((mk_Source_Next.F (4 : Int) r8.2.1 r8.2.2).bind fun r9 => some (r1, (([(3 : Int), (3 : Int), (1 : Int), (2 : Int), (4 : Int), (5 : Int), (3 : Int), (0 : Int)] : List Int).getD r4.1.toNat 0), (-1 : Int), (131072 : Int), (IntKind.wrap .i64 (r6.1 * (32768 : Int))), (IntKind.wrap .i64 (r7.1 * (32768 : Int))), (IntKind.wrap .i64 ((IntKind.wrap .i64 (0 - r8.1)) * (65536 : Int))), (IntKind.wrap .i64 (r9.1 * (32768 : Int))), (IntKind.wrap .i64 ((1 : Int) + r2.1)), (65536 : Int), (IntKind.wrap .i64 ((65536 : Int) + r3.1)), (327680 : Int), r9.2.1, r9.2.2))) else (bif ((([(3 : Int), (3 : Int), (1 : Int), (2 : Int), (4 : Int), (5 : Int), (3 : Int), (0 : Int)] : List Int).getD r4.1.toNat 0) == (5 : Int)) then ((mk_Source_Next.F (3 : Int) r7.2.1 r7.2.2).bind fun r10 => ((mk_Source_Next.F (4 : Int) r10.2.1 r10.2.2).bind fun r11 => some (r1, (([(3 : Int), (3 : Int), (1 : Int), (2 : Int), (4 : Int), (5 : Int), (3 : Int), (0 : Int)] : List Int).getD r4.1.toNat 0), (-1 : Int), (131072 : Int), (IntKind.wrap .i64 (r6.1 * (32768 : Int))), (IntKind.wrap .i64 (r7.1 * (32768 : Int))), (IntKind.wrap .i64 ((IntKind.wrap .i64 (0 - r10.1)) * (65536 : Int))), (IntKind.wrap .i64 (r11.1 * (32768 : Int))), (IntKind.wrap .i64 ((1 : Int) + r2.1)), (65536 : Int), (IntKind.wrap .i64 ((65536 : Int) + r3.1)), (327680 : Int), r11.2.1, r11.2.2))) else ((mk_Source_Next.F (5 : Int) r7.2.1 r7.2.2).bind fun r12 => ((mk_Source_Next.F (4 : Int) r12.2.1 r12.2.2).bind fun r13 => ((mk_Source_Next.F (3 : Int) r13.2.1 r13.2.2).bind fun r14 => some (r1, (([(3 : Int), (3 : Int), (1 : Int), (2 : Int), (4 : Int), (5 : Int), (3 : Int), (0 : Int)] : List Int).getD r4.1.toNat 0), (-1 : Int), (131072 : Int), (IntKind.wrap .i64 (r6.1 * (32768 : Int))), (IntKind.wrap .i64 (r7.1 * (32768 : Int))), (IntKind.wrap .i64 ((IntKind.wrap .i64 ((IntKind.wrap .i64 (0 - r12.1)) * (65536 : Int))).tdiv (8 : Int))), (IntKind.wrap .i64 ((IntKind.wrap .i64 ((IntKind.wrap .i64 ((IntKind.wrap .i64 ((1 : Int) + r13.1)) * (65536 : Int))).tdiv (8 : Int))) + r14.1)), (IntKind.wrap .i64 ((1 : Int) + r2.1)), (65536 : Int), (IntKind.wrap .i64 ((65536 : Int) + r3.1)), (327680 : Int), r14.2.1, r14.2.2))))))))) else (bif ((([(3 : Int), (3 : Int), (1 : Int), (2 : Int), (4 : Int), (5 : Int), (3 : Int), (0 : Int)] : List Int).getD r4.1.toNat 0) == (0 : Int)) then some (r1, (([(3 : Int), (3 : Int), (1 : Int), (2 : Int), (4 : Int), (5 : Int), (3 : Int), (0 : Int)] : List Int).getD r4.1.toNat 0), (-1 : Int), (0 : Int), (0 : Int), (0 : Int), (0 : Int), (0 : Int), (IntKind.wrap .i64 ((1 : Int) + r2.1)), (65536 : Int), (IntKind.wrap .i64 ((65536 : Int) + r3.1)), (327680 : Int), r5.2.1, r5.2.2) else (bif ((([(3 : Int), (3 : Int), (1 : Int), (2 : Int), (4 : Int), (5 : Int), (3 : Int), (0 : Int)] : List Int).getD r4.1.toNat 0) == (4 : Int)) then ((mk_Source_Next.F (3 : Int) r5.2.1 r5.2.2).bind fun r15 => ((mk_Source_Next.F (4 : Int) r15.2.1 r15.2.2).bind fun r16 => some (r1, (([(3 : Int), (3 : Int), (1 : Int), (2 : Int), (4 : Int), (5 : Int), (3 : Int), (0 : Int)] : List Int).getD r4.1.toNat 0), (-1 : Int), (0 : Int), (0 : Int), (0 : Int), (IntKind.wrap .i64 ((IntKind.wrap .i64 (0 - r15.1)) * (65536 : Int))), (IntKind.wrap .i64 (r16.1 * (32768 : Int))), (IntKind.wrap .i64 ((1 : Int) + r2.1)), (65536 : Int), (IntKind.wrap .i64 ((65536 : Int) + r3.1)), (327680 : Int), r16.2.1, r16.2.2))) else (bif ((([(3 : Int), (3 : Int), (1 : Int), (2 : Int), (4 : Int), (5 : Int), (3 : Int), (0 : Int)] : List Int).getD r4.1.toNat 0) == (5 : Int)) then ((mk_Source_Next.F (3 : Int) r5.2.1 r5.2.2).bind fun r17 => ((mk_Source_Next.F (4 : Int) r17.2.1 r17.2.2).bind fun r18 => some (r1, (([(3 : Int), (3 : Int), (1 : Int), (2 : Int), (4 : Int), (5 : Int), (3 : Int), (0 : Int)] : List Int).getD r4.1.toNat 0), (-1 : Int), (0 : Int), (0 : Int), (0 : Int), (IntKind.wrap .i64 ((IntKind.wrap .i64 (0 - r17.1)) * (65536 : Int))), (IntKind.wrap .i64 (r18.1 * (32768 : Int))), (IntKind.wrap .i64 ((1 : Int) + r2.1)), (65536 : Int), (IntKind.wrap .i64 ((65536 : Int) + r3.1)), (327680 : Int), r18.2.1, r18.2.2))) else ((mk_Source_Next.F (5 : Int) r5.2.1 r5.2.2).bind fun r19 => ((mk_Source_Next.F (4 : Int) r19.2.1 r19.2.2).bind fun r20 => ((mk_Source_Next.F (3 : Int) r20.2.1 r20.2.2).bind fun r21 => some (r1, (([(3 : Int), (3 : Int), (1 : Int), (2 : Int), (4 : Int), (5 : Int), (3 : Int), (0 : Int)] : List Int).getD r4.1.toNat 0), (-1 : Int), (0 : Int), (0 : Int), (0 : Int), (IntKind.wrap .i64 ((IntKind.wrap .i64 ((IntKind.wrap .i64 (0 - r19.1)) * (65536 : Int))).tdiv (8 : Int))), (IntKind.wrap .i64 ((IntKind.wrap .i64 ((IntKind.wrap .i64 ((IntKind.wrap .i64 ((1 : Int) + r20.1)) * (65536 : Int))).tdiv (8 : Int))) + r21.1)), (IntKind.wrap .i64 ((1 : Int) + r2.1)), (65536 : Int), (IntKind.wrap .i64 ((65536 : Int) + r3.1)), (327680 : Int), r21.2.1, r21.2.2)))))))) else (bif decide (a0 > (0 : Int)) then ((mk_Source_Signed.F (2 : Int) r5.2.1 r5.2.2).bind fun r22 => ((mk_Source_Signed.F (1 : Int) r22.2.1 r22.2.2).bind fun r23 => (bif ((([(3 : Int), (3 : Int), (1 : Int), (2 : Int), (4 : Int), (5 : Int), (3 : Int), (0 : Int)] : List Int).getD r4.1.toNat 0) == (0 : Int)) then some (r1, (([(3 : Int), (3 : Int), (1 : Int), (2 : Int), (4 : Int), (5 : Int), (3 : Int), (0 : Int)] : List Int).getD r4.1.toNat 0), (IntKind.wrap .i64 (a0 - (1 : Int))), (131072 : Int), (IntKind.wrap .i64 (r22.1 * (32768 : Int))), (IntKind.wrap .i64 (r23.1 * (32768 : Int))), (0 : Int), (0 : Int), (IntKind.wrap .i64 ((1 : Int) + r2.1)), (65536 : Int), (IntKind.wrap .i64 ((65536 : Int) + r3.1)), (327680 : Int), r23.2.1, r23.2.2) else (bif ((([(3 : Int), (3 : Int), (1 : Int), (2 : Int), (4 : Int), (5 : Int), (3 : Int), (0 : Int)] : List Int).getD r4.1.toNat 0) == (4 : Int)) then ((mk_Source_Next.F (3 : Int) r23.2.1 r23.2.2).bind fun r24 => ((mk_Source_Next.F (4 : Int) r24.2.1 r24.2.2).bind fun r25 => some (r1, (([(3 : Int), (3 : Int), (1 : Int), (2 : Int), (4 : Int), (5 : Int), (3 : Int), (0 : Int)] : List Int).getD r4.1.toNat 0), (IntKind.wrap .i64 (a0 - (1 : Int))), (131072 : Int), (IntKind.wrap .i64 (r22.1 * (32768 : Int))), (IntKind.wrap .i64 (r23.1 * (32768 : Int))), (IntKind.wrap .i64 ((IntKind.wrap .i64 (0 - r24.1)) * (65536 : Int))), (IntKind.wrap .i64 (r25.1 * (32768 : Int))), (IntKind.wrap .i64 ((1 : Int) + r2.1)), (65536 : Int), (IntKind.wrap .i64 ((65536 : Int) + r3.1)), (327680 : Int), r25.2.1, r25.2.2))) else (bif ((([(3 : Int), (3 : Int), (1 : Int), (2 : Int), (4 : Int), (5 : Int), (3 : Int), (0 : Int)] : List Int).getD r4.1.toNat 0) == (5 : Int)) then ((mk_Source_Next.F (3 : Int) r23.2.1 r23.2.2).bind fun r26 => ((mk_Source_Next.F (4 : Int) r26.2.1 r26.2.2).bind fun r27 => some (r1, (([(3 : Int), (3 : Int), (1 : Int), (2 : Int), (4 : Int), (5 : Int), (3 : Int), (0 : Int)] : List Int).getD r4.1.toNat 0), (IntKind.wrap .i64 (a0 - (1 : Int))), (131072 : Int), (IntKind.wrap .i64 (r22.1 * (32768 : Int))), (IntKind.wrap .i64 (r23.1 * (32768 : Int))), (IntKind.wrap .i64 ((IntKind.wrap .i64 (0 - r26.1)) * (65536 : Int))), (IntKind.wrap .i64 (r27.1 * (32768 : Int))), (IntKind.wrap .i64 ((1 : Int) + r2.1)), (65536 : Int), (IntKind.wrap .i64 ((65536 : Int) + r3.1)), (327680 : Int), r27.2.1, r27.2.2))) else ((mk_Source_Next.F (5 : Int) r23.2.1 r23.2.2).bind fun r28 => ((mk_Source_Next.F (4 : Int) r28.2.1 r28.2.2).bind fun r29 => ((mk_Source_Next.F (3 : Int) r29.2.1 r29.2.2).bind fun r30 => some (r1, (([(3 : Int), (3 : Int), (1 : Int), (2 : Int), (4 : Int), (5 : Int), (3 : Int), (0 : Int)] : List Int).getD r4.1.toNat 0), (IntKind.wrap .i64 (a0 - (1 : Int))), (131072 : Int), (IntKind.wrap .i64 (r22.1 * (32768 : Int))), (IntKind.wrap .i64 (r23.1 * (32768 : Int))), (IntKind.wrap .i64 ((IntKind.wrap .i64 ((IntKind.wrap .i64 (0 - r28.1)) * (65536 : Int))).tdiv (8 : Int))), (IntKind.wrap .i64 ((IntKind.wrap .i64 ((IntKind.wrap .i64 ((IntKind.wrap .i64 ((1 : Int) + r29.1)) * (65536 : Int))).tdiv (8 : Int))) + r30.1)), (IntKind.wrap .i64 ((1 : Int) + r2.1)), (65536 : Int), (IntKind.wrap .i64 ((65536 : Int) + r3.1)), (327680 : Int), r30.2.1, r30.2.2))))))))) else (bif ((([(3 : Int), (3 : Int), (1 : Int), (2 : Int), (4 : Int), (5 : Int), (3 : Int), (0 : Int)] : List Int).getD r4.1.toNat 0) == (0 : Int)) then some (r1, (([(3 : Int), (3 : Int), (1 : Int), (2 : Int), (4 : Int), (5 : Int), (3 : Int), (0 : Int)] : List Int).getD r4.1.toNat 0), (IntKind.wrap .i64 (a0 - (1 : Int))), (0 : Int), (0 : Int), (0 : Int), (0 : Int), (0 : Int), (IntKind.wrap .i64 ((1 : Int) + r2.1)), (65536 : Int), (IntKind.wrap .i64 ((65536 : Int) + r3.1)), (327680 : Int), r5.2.1, r5.2.2) else (bif ((([(3 : Int), (3 : Int), (1 : Int), (2 : Int), (4 : Int), (5 : Int), (3 : Int), (0 : Int)] : List Int).getD r4.1.toNat 0) == (4 : Int)) then ((mk_Source_Next.F (3 : Int) r5.2.1 r5.2.2).bind fun r31 => ((mk_Source_Next.F (4 : Int) r31.2.1 r31.2.2).bind fun r32 => some (r1, (([(3 : Int), (3 : Int), (1 : Int), (2 : Int), (4 : Int), (5 : Int), (3 : Int), (0 : Int)] : List Int).getD r4.1.toNat 0), (IntKind.wrap .i64 (a0 - (1 : Int))), (0 : Int), (0 : Int), (0 : Int), (IntKind.wrap .i64 ((IntKind.wrap .i64 (0 - r31.1)) * (65536 : Int))), (IntKind.wrap .i64 (r32.1 * (32768 : Int))), (IntKind.wrap .i64 ((1 : Int) + r2.1)), (65536 : Int), (IntKind.wrap .i64 ((65536 : Int) + r3.1)), (327680 : Int), r32.2.1, r32.2.2))) else (bif ((([(3 : Int), (3 : Int), (1 : Int), (2 : Int), (4 : Int), (5 : Int), (3 : Int), (0 : Int)] : List Int).getD r4.1.toNat 0) == (5 : Int)) then ((mk_Source_Next.F (3 : Int) r5.2.1 r5.2.2).bind fun r33 => ((mk_Source_Next.F (4 : Int) r33.2.1 r33.2.2).bind fun r34 => some (r1, (([(3 : Int), (3 : Int), (1 : Int), (2 : Int), (4 : Int), (5 : Int), (3 : Int), (0 : Int)] : List Int).getD r4.1.toNat 0), (IntKind.wrap .i64 (a0 - (1 : Int))), (0 : Int), (0 : Int), (0 : Int), (IntKind.wrap .i64 ((IntKind.wrap .i64 (0 - r33.1)) * (65536 : Int))), (IntKind.wrap .i64 (r34.1 * (32768 : Int))), (IntKind.wrap .i64 ((1 : Int) + r2.1)), (65536 : Int), (IntKind.wrap .i64 ((65536 : Int) + r3.1)), (327680 : Int), r34.2.1, r34.2.2))) else ((mk_Source_Next.F (5 : Int) r5.2.1 r5.2.2).bind fun r35 => ((mk_Source_Next.F (4 : Int) r35.2.1 r35.2.2).bind fun r36 => ((mk_Source_Next.F (3 : Int) r36.2.1 r36.2.2).bind fun r37 => some (r1, (([(3 : Int), (3 : Int), (1 : Int), (2 : Int), (4 : Int), (5 : Int), (3 : Int), (0 : Int)] : List Int).getD r4.1.toNat 0), (IntKind.wrap .i64 (a0 - (1 : Int))), (0 : Int), (0 : Int), (0 : Int), (IntKind.wrap .i64 ((IntKind.wrap .i64 ((IntKind.wrap .i64 (0 - r35.1)) * (65536 : Int))).tdiv (8 : Int))), (IntKind.wrap .i64 ((IntKind.wrap .i64 ((IntKind.wrap .i64 ((IntKind.wrap .i64 ((1 : Int) + r36.1)) * (65536 : Int))).tdiv (8 : Int))) + r37.1)), (IntKind.wrap .i64 ((1 : Int) + r2.1)), (65536 : Int), (IntKind.wrap .i64 ((65536 : Int) + r3.1)), (327680 : Int), r37.2.1, r37.2.2)))))))))) else none) else none)))))
noncomputable def mk_joint.F : Int → (List (Int)) → Int → Option (ByteArray × Int × Int × Int × Int × Int × Int × Int × Int × Int × Int × Int × List (Int) × Int) := lock mk_joint.F0
theorem mk_joint.F_eq : mk_joint.F = mk_joint.F0 := lock_eq _
noncomputable def mk_joint.p : Proc := { nargs := 2, inS := ⟨[(0, .lf (.bp 0 0)), (1, .lf (.sc (.int .i64)))], [.box [.dat (.int .i64), .sc (.int .i64)]]⟩, outS := ⟨[(0, .ag [.sc .str, .sc (.int .i64), .sc (.int .i64), .sc (.int .i64), .sc (.int .i64), .sc (.int .i64), .sc (.int .i64), .sc (.int .i64), .sc (.int .i64), .sc (.int .i64), .sc (.int .i64), .sc (.int .i64)])], [.box [.dat (.int .i64), .sc (.int .i64)]]⟩, n0 := 1, R := ByteArray × Int × Int × Int × Int × Int × Int × Int × Int × Int × Int × Int × List (Int) × Int, F := fun x => mk_joint.F x.1.2.1 x.2.1.1 x.2.1.2.1, post := fun r => (((r.1, (r.2.1, (r.2.2.1, (r.2.2.2.1, (r.2.2.2.2.1, (r.2.2.2.2.2.1, (r.2.2.2.2.2.2.1, (r.2.2.2.2.2.2.2.1, (r.2.2.2.2.2.2.2.2.1, (r.2.2.2.2.2.2.2.2.2.1, (r.2.2.2.2.2.2.2.2.2.2.1, (r.2.2.2.2.2.2.2.2.2.2.2.1, ())))))))))))), ()), ((r.2.2.2.2.2.2.2.2.2.2.2.2.1, (r.2.2.2.2.2.2.2.2.2.2.2.2.2, ())), ())), un := fun x => (x.1.1.1, x.1.1.2.1, x.1.1.2.2.1, x.1.1.2.2.2.1, x.1.1.2.2.2.2.1, x.1.1.2.2.2.2.2.1, x.1.1.2.2.2.2.2.2.1, x.1.1.2.2.2.2.2.2.2.1, x.1.1.2.2.2.2.2.2.2.2.1, x.1.1.2.2.2.2.2.2.2.2.2.1, x.1.1.2.2.2.2.2.2.2.2.2.2.1, x.1.1.2.2.2.2.2.2.2.2.2.2.2.1, x.2.1.1, x.2.1.2.1) }
noncomputable def mk_joint.E : Env := { P := Try.prog, ty := tyTab [], glob := glob0, proc := procTab [(62, mk_letter.p), (32, mk_Source_Next.p), (35, mk_Source_Signed.p)], lproc := lprocTab [], n0 := 1, ntmps := 68 }
theorem mk_joint.ok : ProcsOk mk_joint.E := AllSound.ok (l := [(62, mk_letter.p), (32, mk_Source_Next.p), (35, mk_Source_Signed.p)]) (by kernel_rfl) rfl ⟨mk_letter.sound, mk_Source_Next.sound, mk_Source_Signed.sound, trivial⟩
noncomputable def mk_joint.body0 : Code := (match Try.f93.body with | some c => c | none => .skip)
noncomputable def mk_joint.ann : Ann := .z
theorem mk_joint.eq (x : Tup mk_joint.p.inS) : peFn mk_joint.E Try.f93 mk_joint.ann mk_joint.p x = mk_joint.p.F x := by
  have h : peFn mk_joint.E Try.f93 mk_joint.ann mk_joint.p x = mk_joint.F0 x.1.2.1 x.2.1.1 x.2.1.2.1 := by kernel_rfl
  exact h.trans (by show _ = mk_joint.F x.1.2.1 x.2.1.1 x.2.1.2.1; rw [mk_joint.F_eq])
theorem mk_joint.sound : ProcSound Try.prog glob0 93 mk_joint.p :=
  fn_sound (E := mk_joint.E) (c := mk_joint.body0) (ann := mk_joint.ann) mk_joint.ok Try.func93 (of_decide_eq_true (by kernel_rfl)) rfl rfl rfl (by decide +kernel) ((SubsOk_z _ _) : SubsOk mk_joint.E mk_joint.body0 mk_joint.ann) (fun _ => rfl) rfl mk_joint.eq

noncomputable def mk_Same_Joint.p0.round (v0 : List ((ByteArray × (Int × (Int × ((Int × (Int × Int)) × (Int × (Int × (Int × (Int × (Int × Int))))))))))) (v1 : List ((ByteArray × (Int × (Int × ((Int × (Int × Int)) × (Int × (Int × (Int × (Int × (Int × Int))))))))))) (v2 : Int) : Option ((List ((ByteArray × (Int × (Int × ((Int × (Int × Int)) × (Int × (Int × (Int × (Int × (Int × Int)))))))))) × List ((ByteArray × (Int × (Int × ((Int × (Int × Int)) × (Int × (Int × (Int × (Int × (Int × Int)))))))))) × Int) ⊕ ((Bool) ⊕ (Unit))) :=
  (bif decide (v2 < (v0.length : Int)) then (bif decide (0 ≤ v2) then (bif decide (v2 < (v0.length : Int)) then (bif decide (0 ≤ v2) then (bif decide (v2 < (v1.length : Int)) then (bif (!((eqS (v0.getD v2.toNat ((⟨#[]⟩ : ByteArray), ((0 : Int), ((0 : Int), (((0 : Int), ((0 : Int), (0 : Int))), ((0 : Int), ((0 : Int), ((0 : Int), ((0 : Int), ((0 : Int), (0 : Int))))))))))).1 (v1.getD v2.toNat ((⟨#[]⟩ : ByteArray), ((0 : Int), ((0 : Int), (((0 : Int), ((0 : Int), (0 : Int))), ((0 : Int), ((0 : Int), ((0 : Int), ((0 : Int), ((0 : Int), (0 : Int))))))))))).1) && ((((v0.getD v2.toNat ((⟨#[]⟩ : ByteArray), ((0 : Int), ((0 : Int), (((0 : Int), ((0 : Int), (0 : Int))), ((0 : Int), ((0 : Int), ((0 : Int), ((0 : Int), ((0 : Int), (0 : Int))))))))))).2).1 == ((v1.getD v2.toNat ((⟨#[]⟩ : ByteArray), ((0 : Int), ((0 : Int), (((0 : Int), ((0 : Int), (0 : Int))), ((0 : Int), ((0 : Int), ((0 : Int), ((0 : Int), ((0 : Int), (0 : Int))))))))))).2).1) && (((((v0.getD v2.toNat ((⟨#[]⟩ : ByteArray), ((0 : Int), ((0 : Int), (((0 : Int), ((0 : Int), (0 : Int))), ((0 : Int), ((0 : Int), ((0 : Int), ((0 : Int), ((0 : Int), (0 : Int))))))))))).2).2).1 == (((v1.getD v2.toNat ((⟨#[]⟩ : ByteArray), ((0 : Int), ((0 : Int), (((0 : Int), ((0 : Int), (0 : Int))), ((0 : Int), ((0 : Int), ((0 : Int), ((0 : Int), ((0 : Int), (0 : Int))))))))))).2).2).1) && ((((((((v0.getD v2.toNat ((⟨#[]⟩ : ByteArray), ((0 : Int), ((0 : Int), (((0 : Int), ((0 : Int), (0 : Int))), ((0 : Int), ((0 : Int), ((0 : Int), ((0 : Int), ((0 : Int), (0 : Int))))))))))).2).2).2).1).1 == (((((v1.getD v2.toNat ((⟨#[]⟩ : ByteArray), ((0 : Int), ((0 : Int), (((0 : Int), ((0 : Int), (0 : Int))), ((0 : Int), ((0 : Int), ((0 : Int), ((0 : Int), ((0 : Int), (0 : Int))))))))))).2).2).2).1).1) && ((((((((v0.getD v2.toNat ((⟨#[]⟩ : ByteArray), ((0 : Int), ((0 : Int), (((0 : Int), ((0 : Int), (0 : Int))), ((0 : Int), ((0 : Int), ((0 : Int), ((0 : Int), ((0 : Int), (0 : Int))))))))))).2).2).2).1).2).1 == ((((((v1.getD v2.toNat ((⟨#[]⟩ : ByteArray), ((0 : Int), ((0 : Int), (((0 : Int), ((0 : Int), (0 : Int))), ((0 : Int), ((0 : Int), ((0 : Int), ((0 : Int), ((0 : Int), (0 : Int))))))))))).2).2).2).1).2).1) && ((((((((v0.getD v2.toNat ((⟨#[]⟩ : ByteArray), ((0 : Int), ((0 : Int), (((0 : Int), ((0 : Int), (0 : Int))), ((0 : Int), ((0 : Int), ((0 : Int), ((0 : Int), ((0 : Int), (0 : Int))))))))))).2).2).2).1).2).2 == ((((((v1.getD v2.toNat ((⟨#[]⟩ : ByteArray), ((0 : Int), ((0 : Int), (((0 : Int), ((0 : Int), (0 : Int))), ((0 : Int), ((0 : Int), ((0 : Int), ((0 : Int), ((0 : Int), (0 : Int))))))))))).2).2).2).1).2).2) && true))) && (((((((v0.getD v2.toNat ((⟨#[]⟩ : ByteArray), ((0 : Int), ((0 : Int), (((0 : Int), ((0 : Int), (0 : Int))), ((0 : Int), ((0 : Int), ((0 : Int), ((0 : Int), ((0 : Int), (0 : Int))))))))))).2).2).2).2).1 == (((((v1.getD v2.toNat ((⟨#[]⟩ : ByteArray), ((0 : Int), ((0 : Int), (((0 : Int), ((0 : Int), (0 : Int))), ((0 : Int), ((0 : Int), ((0 : Int), ((0 : Int), ((0 : Int), (0 : Int))))))))))).2).2).2).2).1) && ((((((((v0.getD v2.toNat ((⟨#[]⟩ : ByteArray), ((0 : Int), ((0 : Int), (((0 : Int), ((0 : Int), (0 : Int))), ((0 : Int), ((0 : Int), ((0 : Int), ((0 : Int), ((0 : Int), (0 : Int))))))))))).2).2).2).2).2).1 == ((((((v1.getD v2.toNat ((⟨#[]⟩ : ByteArray), ((0 : Int), ((0 : Int), (((0 : Int), ((0 : Int), (0 : Int))), ((0 : Int), ((0 : Int), ((0 : Int), ((0 : Int), ((0 : Int), (0 : Int))))))))))).2).2).2).2).2).1) && (((((((((v0.getD v2.toNat ((⟨#[]⟩ : ByteArray), ((0 : Int), ((0 : Int), (((0 : Int), ((0 : Int), (0 : Int))), ((0 : Int), ((0 : Int), ((0 : Int), ((0 : Int), ((0 : Int), (0 : Int))))))))))).2).2).2).2).2).2).1 == (((((((v1.getD v2.toNat ((⟨#[]⟩ : ByteArray), ((0 : Int), ((0 : Int), (((0 : Int), ((0 : Int), (0 : Int))), ((0 : Int), ((0 : Int), ((0 : Int), ((0 : Int), ((0 : Int), (0 : Int))))))))))).2).2).2).2).2).2).1) && ((((((((((v0.getD v2.toNat ((⟨#[]⟩ : ByteArray), ((0 : Int), ((0 : Int), (((0 : Int), ((0 : Int), (0 : Int))), ((0 : Int), ((0 : Int), ((0 : Int), ((0 : Int), ((0 : Int), (0 : Int))))))))))).2).2).2).2).2).2).2).1 == ((((((((v1.getD v2.toNat ((⟨#[]⟩ : ByteArray), ((0 : Int), ((0 : Int), (((0 : Int), ((0 : Int), (0 : Int))), ((0 : Int), ((0 : Int), ((0 : Int), ((0 : Int), ((0 : Int), (0 : Int))))))))))).2).2).2).2).2).2).2).1) && (((((((((((v0.getD v2.toNat ((⟨#[]⟩ : ByteArray), ((0 : Int), ((0 : Int), (((0 : Int), ((0 : Int), (0 : Int))), ((0 : Int), ((0 : Int), ((0 : Int), ((0 : Int), ((0 : Int), (0 : Int))))))))))).2).2).2).2).2).2).2).2).1 == (((((((((v1.getD v2.toNat ((⟨#[]⟩ : ByteArray), ((0 : Int), ((0 : Int), (((0 : Int), ((0 : Int), (0 : Int))), ((0 : Int), ((0 : Int), ((0 : Int), ((0 : Int), ((0 : Int), (0 : Int))))))))))).2).2).2).2).2).2).2).2).1) && (((((((((((v0.getD v2.toNat ((⟨#[]⟩ : ByteArray), ((0 : Int), ((0 : Int), (((0 : Int), ((0 : Int), (0 : Int))), ((0 : Int), ((0 : Int), ((0 : Int), ((0 : Int), ((0 : Int), (0 : Int))))))))))).2).2).2).2).2).2).2).2).2 == (((((((((v1.getD v2.toNat ((⟨#[]⟩ : ByteArray), ((0 : Int), ((0 : Int), (((0 : Int), ((0 : Int), (0 : Int))), ((0 : Int), ((0 : Int), ((0 : Int), ((0 : Int), ((0 : Int), (0 : Int))))))))))).2).2).2).2).2).2).2).2).2) && true))))))))))) then some (.inr (.inl false)) else some (.inl (v0, v1, (IntKind.wrap .i64 (v2 + (1 : Int)))))) else none) else none) else none) else none) else some (.inr (.inr ())))
noncomputable def mk_Same_Joint.p0.step (s : List ((ByteArray × (Int × (Int × ((Int × (Int × Int)) × (Int × (Int × (Int × (Int × (Int × Int)))))))))) × List ((ByteArray × (Int × (Int × ((Int × (Int × Int)) × (Int × (Int × (Int × (Int × (Int × Int)))))))))) × Int) : Option ((List ((ByteArray × (Int × (Int × ((Int × (Int × Int)) × (Int × (Int × (Int × (Int × (Int × Int)))))))))) × List ((ByteArray × (Int × (Int × ((Int × (Int × Int)) × (Int × (Int × (Int × (Int × (Int × Int)))))))))) × Int) ⊕ ((Bool) ⊕ (Unit))) := mk_Same_Joint.p0.round s.1 s.2.1 s.2.2
noncomputable def mk_Same_Joint.p0.inS : Shape := ⟨[(0, .lf (.dat tyJ)), (1, .lf (.dat tyJ)), (5, .lf (.sc (.int .i64)))], []⟩
noncomputable def mk_Same_Joint.p0.w0 : Way := { ex := .rt, S := ⟨[(4, .lf (.sc .bool))], []⟩, R := Bool, post := fun r => ((r, ()), ()), un := fun x => x.1.1 }
noncomputable def mk_Same_Joint.p0.w1 : Way := { ex := (.ex 0), S := ⟨[], []⟩, R := Unit, post := fun r => ((), ()), un := fun x => () }
noncomputable def mk_Same_Joint.p0.outs : List Way := [mk_Same_Joint.p0.w0, mk_Same_Joint.p0.w1]
noncomputable def mk_Same_Joint.p0.un (x : Tup mk_Same_Joint.p0.inS) : List ((ByteArray × (Int × (Int × ((Int × (Int × Int)) × (Int × (Int × (Int × (Int × (Int × Int)))))))))) × List ((ByteArray × (Int × (Int × ((Int × (Int × Int)) × (Int × (Int × (Int × (Int × (Int × Int)))))))))) × Int := (x.1.1, x.1.2.1, x.1.2.2.1)
noncomputable def mk_Same_Joint.p0.lp : LProc := { inS := mk_Same_Joint.p0.inS, outs := mk_Same_Joint.p0.outs, F := fun x => loopF mk_Same_Joint.p0.step (mk_Same_Joint.p0.un x) }
noncomputable def mk_Same_Joint.F0 (a0 : List ((ByteArray × (Int × (Int × ((Int × (Int × Int)) × (Int × (Int × (Int × (Int × (Int × Int))))))))))) (a1 : List ((ByteArray × (Int × (Int × ((Int × (Int × Int)) × (Int × (Int × (Int × (Int × (Int × Int))))))))))) : Option (Bool) :=
  (bif ((a0.length : Int) != (a1.length : Int)) then some false else ((loopF mk_Same_Joint.p0.step (a0, a1, (0 : Int))).bind fun y1 => (Sum.elim (fun y2 => some y2) (fun z3 => some true) y1)))
noncomputable def mk_Same_Joint.F : (List ((ByteArray × (Int × (Int × ((Int × (Int × Int)) × (Int × (Int × (Int × (Int × (Int × Int))))))))))) → (List ((ByteArray × (Int × (Int × ((Int × (Int × Int)) × (Int × (Int × (Int × (Int × (Int × Int))))))))))) → Option (Bool) := lock mk_Same_Joint.F0
theorem mk_Same_Joint.F_eq : mk_Same_Joint.F = mk_Same_Joint.F0 := lock_eq _
noncomputable def mk_Same_Joint.p : Proc := { nargs := 2, inS := ⟨[(0, .lf (.dat tyJ)), (1, .lf (.dat tyJ))], []⟩, outS := ⟨[(0, .lf (.sc .bool))], []⟩, n0 := 0, R := Bool, F := fun x => mk_Same_Joint.F x.1.1 x.1.2.1, post := fun r => ((r, ()), ()), un := fun x => x.1.1 }
noncomputable def mk_Same_Joint.E : Env := { P := Try.prog, ty := tyTab [], glob := glob0, proc := procTab [], lproc := lprocTab [(0, mk_Same_Joint.p0.lp)], n0 := 0, ntmps := 26 }
theorem mk_Same_Joint.ok : ProcsOk mk_Same_Joint.E := AllSound.ok (l := []) (by kernel_rfl) rfl trivial
noncomputable def mk_Same_Joint.body0 : Code := (match Try.f94.body with | some c => c | none => .skip)
noncomputable def mk_Same_Joint.p0.c : Code := ((codeAt mk_Same_Joint.body0 [.r, .r, .l, .r, .b, .b]).getD .skip)
noncomputable def mk_Same_Joint.p0.ann : Ann := .z
theorem mk_Same_Joint.p0.eq (x : Tup mk_Same_Joint.p0.inS) : peRound mk_Same_Joint.E mk_Same_Joint.p0.c mk_Same_Joint.p0.ann _ mk_Same_Joint.p0.inS mk_Same_Joint.p0.un mk_Same_Joint.p0.outs x = mk_Same_Joint.p0.step (mk_Same_Joint.p0.un x) := by
  kernel_rfl
theorem mk_Same_Joint.p0.sound : LProcSound mk_Same_Joint.E (.loop mk_Same_Joint.p0.c) mk_Same_Joint.p0.lp :=
  loop_sound (c := mk_Same_Joint.p0.c) (ann := mk_Same_Joint.p0.ann) mk_Same_Joint.ok ((SubsOk_z _ _) : SubsOk mk_Same_Joint.E mk_Same_Joint.p0.c mk_Same_Joint.p0.ann) (by intro a ha; simp only [mk_Same_Joint.p0.outs, List.mem_cons, List.not_mem_nil, or_false] at ha; rcases ha with rfl | rfl <;> exact fun _ => rfl) mk_Same_Joint.p0.eq
noncomputable def mk_Same_Joint.ann : Ann := .s (.z) (.s (.z) (.s (.s (.z) (.b (.sub 0))) (.z)))
theorem mk_Same_Joint.eq (x : Tup mk_Same_Joint.p.inS) : peFn mk_Same_Joint.E Try.f94 mk_Same_Joint.ann mk_Same_Joint.p x = mk_Same_Joint.p.F x := by
  have h : peFn mk_Same_Joint.E Try.f94 mk_Same_Joint.ann mk_Same_Joint.p x = mk_Same_Joint.F0 x.1.1 x.1.2.1 := by kernel_rfl
  exact h.trans (by show _ = mk_Same_Joint.F x.1.1 x.1.2.1; rw [mk_Same_Joint.F_eq])
theorem mk_Same_Joint.sound : ProcSound Try.prog glob0 94 mk_Same_Joint.p :=
  fn_sound (E := mk_Same_Joint.E) (c := mk_Same_Joint.body0) (ann := mk_Same_Joint.ann) mk_Same_Joint.ok Try.func94 (of_decide_eq_true (by kernel_rfl)) rfl rfl rfl (by decide +kernel) (⟨(SubsOk_z _ _), ⟨(SubsOk_z _ _), ⟨⟨(SubsOk_z _ _), (sub_of rfl mk_Same_Joint.p0.sound)⟩, (SubsOk_z _ _)⟩⟩⟩ : SubsOk mk_Same_Joint.E mk_Same_Joint.body0 mk_Same_Joint.ann) (fun _ => rfl) rfl mk_Same_Joint.eq

noncomputable def mk_Same_Mass.p0.round (v0 : List ((Int × (Int × (Int × (Int × Int)))))) (v1 : List ((Int × (Int × (Int × (Int × Int)))))) (v2 : Int) : Option ((List ((Int × (Int × (Int × (Int × Int))))) × List ((Int × (Int × (Int × (Int × Int))))) × Int) ⊕ ((Bool) ⊕ (Unit))) :=
  (bif decide (v2 < (v0.length : Int)) then (bif decide (0 ≤ v2) then (bif decide (v2 < (v0.length : Int)) then (bif decide (0 ≤ v2) then (bif decide (v2 < (v1.length : Int)) then (bif (!(((v0.getD v2.toNat ((0 : Int), ((0 : Int), ((0 : Int), ((0 : Int), (0 : Int)))))).1 == (v1.getD v2.toNat ((0 : Int), ((0 : Int), ((0 : Int), ((0 : Int), (0 : Int)))))).1) && ((((v0.getD v2.toNat ((0 : Int), ((0 : Int), ((0 : Int), ((0 : Int), (0 : Int)))))).2).1 == ((v1.getD v2.toNat ((0 : Int), ((0 : Int), ((0 : Int), ((0 : Int), (0 : Int)))))).2).1) && ((((((v0.getD v2.toNat ((0 : Int), ((0 : Int), ((0 : Int), ((0 : Int), (0 : Int)))))).2).2).1 == (((v1.getD v2.toNat ((0 : Int), ((0 : Int), ((0 : Int), ((0 : Int), (0 : Int)))))).2).2).1) && ((((((v0.getD v2.toNat ((0 : Int), ((0 : Int), ((0 : Int), ((0 : Int), (0 : Int)))))).2).2).2).1 == ((((v1.getD v2.toNat ((0 : Int), ((0 : Int), ((0 : Int), ((0 : Int), (0 : Int)))))).2).2).2).1) && ((((((v0.getD v2.toNat ((0 : Int), ((0 : Int), ((0 : Int), ((0 : Int), (0 : Int)))))).2).2).2).2 == ((((v1.getD v2.toNat ((0 : Int), ((0 : Int), ((0 : Int), ((0 : Int), (0 : Int)))))).2).2).2).2) && true))) && true)))) then some (.inr (.inl false)) else some (.inl (v0, v1, (IntKind.wrap .i64 (v2 + (1 : Int)))))) else none) else none) else none) else none) else some (.inr (.inr ())))
noncomputable def mk_Same_Mass.p0.step (s : List ((Int × (Int × (Int × (Int × Int))))) × List ((Int × (Int × (Int × (Int × Int))))) × Int) : Option ((List ((Int × (Int × (Int × (Int × Int))))) × List ((Int × (Int × (Int × (Int × Int))))) × Int) ⊕ ((Bool) ⊕ (Unit))) := mk_Same_Mass.p0.round s.1 s.2.1 s.2.2
noncomputable def mk_Same_Mass.p0.inS : Shape := ⟨[(0, .lf (.dat tyM)), (1, .lf (.dat tyM)), (5, .lf (.sc (.int .i64)))], []⟩
noncomputable def mk_Same_Mass.p0.w0 : Way := { ex := .rt, S := ⟨[(4, .lf (.sc .bool))], []⟩, R := Bool, post := fun r => ((r, ()), ()), un := fun x => x.1.1 }
noncomputable def mk_Same_Mass.p0.w1 : Way := { ex := (.ex 0), S := ⟨[], []⟩, R := Unit, post := fun r => ((), ()), un := fun x => () }
noncomputable def mk_Same_Mass.p0.outs : List Way := [mk_Same_Mass.p0.w0, mk_Same_Mass.p0.w1]
noncomputable def mk_Same_Mass.p0.un (x : Tup mk_Same_Mass.p0.inS) : List ((Int × (Int × (Int × (Int × Int))))) × List ((Int × (Int × (Int × (Int × Int))))) × Int := (x.1.1, x.1.2.1, x.1.2.2.1)
noncomputable def mk_Same_Mass.p0.lp : LProc := { inS := mk_Same_Mass.p0.inS, outs := mk_Same_Mass.p0.outs, F := fun x => loopF mk_Same_Mass.p0.step (mk_Same_Mass.p0.un x) }
noncomputable def mk_Same_Mass.F0 (a0 : List ((Int × (Int × (Int × (Int × Int)))))) (a1 : List ((Int × (Int × (Int × (Int × Int)))))) : Option (Bool) :=
  (bif ((a0.length : Int) != (a1.length : Int)) then some false else ((loopF mk_Same_Mass.p0.step (a0, a1, (0 : Int))).bind fun y1 => (Sum.elim (fun y2 => some y2) (fun z3 => some true) y1)))
noncomputable def mk_Same_Mass.F : (List ((Int × (Int × (Int × (Int × Int)))))) → (List ((Int × (Int × (Int × (Int × Int)))))) → Option (Bool) := lock mk_Same_Mass.F0
theorem mk_Same_Mass.F_eq : mk_Same_Mass.F = mk_Same_Mass.F0 := lock_eq _
noncomputable def mk_Same_Mass.p : Proc := { nargs := 2, inS := ⟨[(0, .lf (.dat tyM)), (1, .lf (.dat tyM))], []⟩, outS := ⟨[(0, .lf (.sc .bool))], []⟩, n0 := 0, R := Bool, F := fun x => mk_Same_Mass.F x.1.1 x.1.2.1, post := fun r => ((r, ()), ()), un := fun x => x.1.1 }
noncomputable def mk_Same_Mass.E : Env := { P := Try.prog, ty := tyTab [], glob := glob0, proc := procTab [], lproc := lprocTab [(0, mk_Same_Mass.p0.lp)], n0 := 0, ntmps := 26 }
theorem mk_Same_Mass.ok : ProcsOk mk_Same_Mass.E := AllSound.ok (l := []) (by kernel_rfl) rfl trivial
noncomputable def mk_Same_Mass.body0 : Code := (match Try.f95.body with | some c => c | none => .skip)
noncomputable def mk_Same_Mass.p0.c : Code := ((codeAt mk_Same_Mass.body0 [.r, .r, .l, .r, .b, .b]).getD .skip)
noncomputable def mk_Same_Mass.p0.ann : Ann := .z
theorem mk_Same_Mass.p0.eq (x : Tup mk_Same_Mass.p0.inS) : peRound mk_Same_Mass.E mk_Same_Mass.p0.c mk_Same_Mass.p0.ann _ mk_Same_Mass.p0.inS mk_Same_Mass.p0.un mk_Same_Mass.p0.outs x = mk_Same_Mass.p0.step (mk_Same_Mass.p0.un x) := by
  kernel_rfl
theorem mk_Same_Mass.p0.sound : LProcSound mk_Same_Mass.E (.loop mk_Same_Mass.p0.c) mk_Same_Mass.p0.lp :=
  loop_sound (c := mk_Same_Mass.p0.c) (ann := mk_Same_Mass.p0.ann) mk_Same_Mass.ok ((SubsOk_z _ _) : SubsOk mk_Same_Mass.E mk_Same_Mass.p0.c mk_Same_Mass.p0.ann) (by intro a ha; simp only [mk_Same_Mass.p0.outs, List.mem_cons, List.not_mem_nil, or_false] at ha; rcases ha with rfl | rfl <;> exact fun _ => rfl) mk_Same_Mass.p0.eq
noncomputable def mk_Same_Mass.ann : Ann := .s (.z) (.s (.z) (.s (.s (.z) (.b (.sub 0))) (.z)))
theorem mk_Same_Mass.eq (x : Tup mk_Same_Mass.p.inS) : peFn mk_Same_Mass.E Try.f95 mk_Same_Mass.ann mk_Same_Mass.p x = mk_Same_Mass.p.F x := by
  have h : peFn mk_Same_Mass.E Try.f95 mk_Same_Mass.ann mk_Same_Mass.p x = mk_Same_Mass.F0 x.1.1 x.1.2.1 := by kernel_rfl
  exact h.trans (by show _ = mk_Same_Mass.F x.1.1 x.1.2.1; rw [mk_Same_Mass.F_eq])
theorem mk_Same_Mass.sound : ProcSound Try.prog glob0 95 mk_Same_Mass.p :=
  fn_sound (E := mk_Same_Mass.E) (c := mk_Same_Mass.body0) (ann := mk_Same_Mass.ann) mk_Same_Mass.ok Try.func95 (of_decide_eq_true (by kernel_rfl)) rfl rfl rfl (by decide +kernel) (⟨(SubsOk_z _ _), ⟨(SubsOk_z _ _), ⟨⟨(SubsOk_z _ _), (sub_of rfl mk_Same_Mass.p0.sound)⟩, (SubsOk_z _ _)⟩⟩⟩ : SubsOk mk_Same_Mass.E mk_Same_Mass.body0 mk_Same_Mass.ann) (fun _ => rfl) rfl mk_Same_Mass.eq

noncomputable def robot_between.F0 (a0 : Int) (a1 : Int) (a2 : Int) : Option (Bool) :=
  (bif decide (a0 ≤ a1) then some (decide (a1 ≤ a2)) else some false)
noncomputable def robot_between.F : Int → Int → Int → Option (Bool) := lock robot_between.F0
theorem robot_between.F_eq : robot_between.F = robot_between.F0 := lock_eq _
noncomputable def robot_between.p : Proc := { nargs := 3, inS := ⟨[(0, .lf (.sc (.int .i64))), (1, .lf (.sc (.int .i64))), (2, .lf (.sc (.int .i64)))], []⟩, outS := ⟨[(0, .lf (.sc .bool))], []⟩, n0 := 0, R := Bool, F := fun x => robot_between.F x.1.1 x.1.2.1 x.1.2.2.1, post := fun r => ((r, ()), ()), un := fun x => x.1.1 }
noncomputable def robot_between.E : Env := { P := Try.prog, ty := tyTab [], glob := glob0, proc := procTab [], lproc := lprocTab [], n0 := 0, ntmps := 15 }
theorem robot_between.ok : ProcsOk robot_between.E := AllSound.ok (l := []) (by kernel_rfl) rfl trivial
noncomputable def robot_between.body0 : Code := (match Try.f97.body with | some c => c | none => .skip)
noncomputable def robot_between.ann : Ann := .z
theorem robot_between.eq (x : Tup robot_between.p.inS) : peFn robot_between.E Try.f97 robot_between.ann robot_between.p x = robot_between.p.F x := by
  have h : peFn robot_between.E Try.f97 robot_between.ann robot_between.p x = robot_between.F0 x.1.1 x.1.2.1 x.1.2.2.1 := by kernel_rfl
  exact h.trans (by show _ = robot_between.F x.1.1 x.1.2.1 x.1.2.2.1; rw [robot_between.F_eq])
theorem robot_between.sound : ProcSound Try.prog glob0 97 robot_between.p :=
  fn_sound (E := robot_between.E) (c := robot_between.body0) (ann := robot_between.ann) robot_between.ok Try.func97 (of_decide_eq_true (by kernel_rfl)) rfl rfl rfl (by decide +kernel) ((SubsOk_z _ _) : SubsOk robot_between.E robot_between.body0 robot_between.ann) (fun _ => rfl) rfl robot_between.eq

noncomputable def robot_long.p0.round (v0 : Int) (v1 : Int) (v2 : Int) (v3 : Int) : Option ((Int × Int × Int × Int) ⊕ ((Bool) ⊕ (Unit))) :=
  (bif decide (v3 < (3 : Int)) then (bif decide (0 ≤ v3) then (bif decide (v3 < (3 : Int)) then (bif decide ((([v0, v1, v2] : List Int).getD v3.toNat 0) < (-4194304 : Int)) then some (.inr (.inl true)) else (bif decide ((([v0, v1, v2] : List Int).getD v3.toNat 0) > (4194304 : Int)) then some (.inr (.inl true)) else some (.inl (v0, v1, v2, (IntKind.wrap .i64 (v3 + (1 : Int))))))) else none) else none) else some (.inr (.inr ())))
noncomputable def robot_long.p0.step (s : Int × Int × Int × Int) : Option ((Int × Int × Int × Int) ⊕ ((Bool) ⊕ (Unit))) := robot_long.p0.round s.1 s.2.1 s.2.2.1 s.2.2.2
noncomputable def robot_long.p0.inS : Shape := ⟨[(5, .ag [.sc (.int .i64), .sc (.int .i64), .sc (.int .i64)]), (6, .lf (.sc (.int .i64)))], []⟩
noncomputable def robot_long.p0.w0 : Way := { ex := .rt, S := ⟨[(2, .lf (.sc .bool))], []⟩, R := Bool, post := fun r => ((r, ()), ()), un := fun x => x.1.1 }
noncomputable def robot_long.p0.w1 : Way := { ex := (.ex 0), S := ⟨[], []⟩, R := Unit, post := fun r => ((), ()), un := fun x => () }
noncomputable def robot_long.p0.outs : List Way := [robot_long.p0.w0, robot_long.p0.w1]
noncomputable def robot_long.p0.un (x : Tup robot_long.p0.inS) : Int × Int × Int × Int := (x.1.1.1, x.1.1.2.1, x.1.1.2.2.1, x.1.2.1)
noncomputable def robot_long.p0.lp : LProc := { inS := robot_long.p0.inS, outs := robot_long.p0.outs, F := fun x => loopF robot_long.p0.step (robot_long.p0.un x) }
noncomputable def robot_long.F0 (a0 : Int) (a1 : Int) (a2 : Int) : Option (Bool) :=
  ((loopF robot_long.p0.step (a0, a1, a2, (0 : Int))).bind fun y1 => (Sum.elim (fun y2 => some y2) (fun z3 => some false) y1))
noncomputable def robot_long.F : Int → Int → Int → Option (Bool) := lock robot_long.F0
theorem robot_long.F_eq : robot_long.F = robot_long.F0 := lock_eq _
noncomputable def robot_long.p : Proc := { nargs := 1, inS := ⟨[(0, .ag [.sc (.int .i64), .sc (.int .i64), .sc (.int .i64)])], []⟩, outS := ⟨[(0, .lf (.sc .bool))], []⟩, n0 := 0, R := Bool, F := fun x => robot_long.F x.1.1.1 x.1.1.2.1 x.1.1.2.2.1, post := fun r => ((r, ()), ()), un := fun x => x.1.1 }
noncomputable def robot_long.E : Env := { P := Try.prog, ty := tyTab [], glob := glob0, proc := procTab [], lproc := lprocTab [(0, robot_long.p0.lp)], n0 := 0, ntmps := 16 }
theorem robot_long.ok : ProcsOk robot_long.E := AllSound.ok (l := []) (by kernel_rfl) rfl trivial
noncomputable def robot_long.body0 : Code := (match Try.f98.body with | some c => c | none => .skip)
noncomputable def robot_long.p0.c : Code := ((codeAt robot_long.body0 [.r, .l, .r, .b, .b]).getD .skip)
noncomputable def robot_long.p0.ann : Ann := .z
theorem robot_long.p0.eq (x : Tup robot_long.p0.inS) : peRound robot_long.E robot_long.p0.c robot_long.p0.ann _ robot_long.p0.inS robot_long.p0.un robot_long.p0.outs x = robot_long.p0.step (robot_long.p0.un x) := by
  kernel_rfl
theorem robot_long.p0.sound : LProcSound robot_long.E (.loop robot_long.p0.c) robot_long.p0.lp :=
  loop_sound (c := robot_long.p0.c) (ann := robot_long.p0.ann) robot_long.ok ((SubsOk_z _ _) : SubsOk robot_long.E robot_long.p0.c robot_long.p0.ann) (by intro a ha; simp only [robot_long.p0.outs, List.mem_cons, List.not_mem_nil, or_false] at ha; rcases ha with rfl | rfl <;> exact fun _ => rfl) robot_long.p0.eq
noncomputable def robot_long.ann : Ann := .s (.z) (.s (.s (.z) (.b (.sub 0))) (.z))
theorem robot_long.eq (x : Tup robot_long.p.inS) : peFn robot_long.E Try.f98 robot_long.ann robot_long.p x = robot_long.p.F x := by
  have h : peFn robot_long.E Try.f98 robot_long.ann robot_long.p x = robot_long.F0 x.1.1.1 x.1.1.2.1 x.1.1.2.2.1 := by kernel_rfl
  exact h.trans (by show _ = robot_long.F x.1.1.1 x.1.1.2.1 x.1.1.2.2.1; rw [robot_long.F_eq])
theorem robot_long.sound : ProcSound Try.prog glob0 98 robot_long.p :=
  fn_sound (E := robot_long.E) (c := robot_long.body0) (ann := robot_long.ann) robot_long.ok Try.func98 (of_decide_eq_true (by kernel_rfl)) rfl rfl rfl (by decide +kernel) (⟨(SubsOk_z _ _), ⟨⟨(SubsOk_z _ _), (sub_of rfl robot_long.p0.sound)⟩, (SubsOk_z _ _)⟩⟩ : SubsOk robot_long.E robot_long.body0 robot_long.ann) (fun _ => rfl) rfl robot_long.eq

noncomputable def scene_long_1.F0 (a0 : Int) : Option (Bool) :=
  (bif decide (a0 < (-4194304 : Int)) then some true else some (decide (a0 > (4194304 : Int))))
noncomputable def scene_long_1.F : Int → Option (Bool) := lock scene_long_1.F0
theorem scene_long_1.F_eq : scene_long_1.F = scene_long_1.F0 := lock_eq _
noncomputable def scene_long_1.p : Proc := { nargs := 1, inS := ⟨[(0, .lf (.sc (.int .i64)))], []⟩, outS := ⟨[(0, .lf (.sc .bool))], []⟩, n0 := 0, R := Bool, F := fun x => scene_long_1.F x.1.1, post := fun r => ((r, ()), ()), un := fun x => x.1.1 }
noncomputable def scene_long_1.E : Env := { P := Try.prog, ty := tyTab [], glob := glob0, proc := procTab [], lproc := lprocTab [], n0 := 0, ntmps := 9 }
theorem scene_long_1.ok : ProcsOk scene_long_1.E := AllSound.ok (l := []) (by kernel_rfl) rfl trivial
noncomputable def scene_long_1.body0 : Code := (match Try.f101.body with | some c => c | none => .skip)
noncomputable def scene_long_1.ann : Ann := .z
theorem scene_long_1.eq (x : Tup scene_long_1.p.inS) : peFn scene_long_1.E Try.f101 scene_long_1.ann scene_long_1.p x = scene_long_1.p.F x := by
  have h : peFn scene_long_1.E Try.f101 scene_long_1.ann scene_long_1.p x = scene_long_1.F0 x.1.1 := by kernel_rfl
  exact h.trans (by show _ = scene_long_1.F x.1.1; rw [scene_long_1.F_eq])
theorem scene_long_1.sound : ProcSound Try.prog glob0 101 scene_long_1.p :=
  fn_sound (E := scene_long_1.E) (c := scene_long_1.body0) (ann := scene_long_1.ann) scene_long_1.ok Try.func101 (of_decide_eq_true (by kernel_rfl)) rfl rfl rfl (by decide +kernel) ((SubsOk_z _ _) : SubsOk scene_long_1.E scene_long_1.body0 scene_long_1.ann) (fun _ => rfl) rfl scene_long_1.eq

noncomputable def r6_member.p0.round (v0 : List (Int)) (v1 : Int) (v2 : Int) : Option ((List (Int) × Int × Int) ⊕ ((Bool) ⊕ (Unit))) :=
  (bif decide (v2 < (v0.length : Int)) then (bif decide (0 ≤ v2) then (bif decide (v2 < (v0.length : Int)) then (bif ((v0.getD v2.toNat (0 : Int)) == v1) then some (.inr (.inl true)) else some (.inl (v0, v1, (IntKind.wrap .i64 (v2 + (1 : Int)))))) else none) else none) else some (.inr (.inr ())))
noncomputable def r6_member.p0.step (s : List (Int) × Int × Int) : Option ((List (Int) × Int × Int) ⊕ ((Bool) ⊕ (Unit))) := r6_member.p0.round s.1 s.2.1 s.2.2
noncomputable def r6_member.p0.inS : Shape := ⟨[(0, .lf (.dat (.int .i64))), (1, .lf (.sc (.int .i64))), (5, .lf (.sc (.int .i64)))], []⟩
noncomputable def r6_member.p0.w0 : Way := { ex := .rt, S := ⟨[(4, .lf (.sc .bool))], []⟩, R := Bool, post := fun r => ((r, ()), ()), un := fun x => x.1.1 }
noncomputable def r6_member.p0.w1 : Way := { ex := (.ex 0), S := ⟨[], []⟩, R := Unit, post := fun r => ((), ()), un := fun x => () }
noncomputable def r6_member.p0.outs : List Way := [r6_member.p0.w0, r6_member.p0.w1]
noncomputable def r6_member.p0.un (x : Tup r6_member.p0.inS) : List (Int) × Int × Int := (x.1.1, x.1.2.1, x.1.2.2.1)
noncomputable def r6_member.p0.lp : LProc := { inS := r6_member.p0.inS, outs := r6_member.p0.outs, F := fun x => loopF r6_member.p0.step (r6_member.p0.un x) }
noncomputable def r6_member.F0 (a0 : List (Int)) (a1 : Int) : Option (Bool) :=
  ((loopF r6_member.p0.step (a0, a1, (0 : Int))).bind fun y1 => (Sum.elim (fun y2 => some y2) (fun z3 => some false) y1))
noncomputable def r6_member.F : (List (Int)) → Int → Option (Bool) := lock r6_member.F0
theorem r6_member.F_eq : r6_member.F = r6_member.F0 := lock_eq _
noncomputable def r6_member.p : Proc := { nargs := 2, inS := ⟨[(0, .lf (.dat (.int .i64))), (1, .lf (.sc (.int .i64)))], []⟩, outS := ⟨[(0, .lf (.sc .bool))], []⟩, n0 := 0, R := Bool, F := fun x => r6_member.F x.1.1 x.1.2.1, post := fun r => ((r, ()), ()), un := fun x => x.1.1 }
noncomputable def r6_member.E : Env := { P := Try.prog, ty := tyTab [], glob := glob0, proc := procTab [], lproc := lprocTab [(0, r6_member.p0.lp)], n0 := 0, ntmps := 18 }
theorem r6_member.ok : ProcsOk r6_member.E := AllSound.ok (l := []) (by kernel_rfl) rfl trivial
noncomputable def r6_member.body0 : Code := (match Try.f117.body with | some c => c | none => .skip)
noncomputable def r6_member.p0.c : Code := ((codeAt r6_member.body0 [.r, .l, .r, .b, .b]).getD .skip)
noncomputable def r6_member.p0.ann : Ann := .z
theorem r6_member.p0.eq (x : Tup r6_member.p0.inS) : peRound r6_member.E r6_member.p0.c r6_member.p0.ann _ r6_member.p0.inS r6_member.p0.un r6_member.p0.outs x = r6_member.p0.step (r6_member.p0.un x) := by
  kernel_rfl
theorem r6_member.p0.sound : LProcSound r6_member.E (.loop r6_member.p0.c) r6_member.p0.lp :=
  loop_sound (c := r6_member.p0.c) (ann := r6_member.p0.ann) r6_member.ok ((SubsOk_z _ _) : SubsOk r6_member.E r6_member.p0.c r6_member.p0.ann) (by intro a ha; simp only [r6_member.p0.outs, List.mem_cons, List.not_mem_nil, or_false] at ha; rcases ha with rfl | rfl <;> exact fun _ => rfl) r6_member.p0.eq
noncomputable def r6_member.ann : Ann := .s (.z) (.s (.s (.z) (.b (.sub 0))) (.z))
theorem r6_member.eq (x : Tup r6_member.p.inS) : peFn r6_member.E Try.f117 r6_member.ann r6_member.p x = r6_member.p.F x := by
  have h : peFn r6_member.E Try.f117 r6_member.ann r6_member.p x = r6_member.F0 x.1.1 x.1.2.1 := by kernel_rfl
  exact h.trans (by show _ = r6_member.F x.1.1 x.1.2.1; rw [r6_member.F_eq])
theorem r6_member.sound : ProcSound Try.prog glob0 117 r6_member.p :=
  fn_sound (E := r6_member.E) (c := r6_member.body0) (ann := r6_member.ann) r6_member.ok Try.func117 (of_decide_eq_true (by kernel_rfl)) rfl rfl rfl (by decide +kernel) (⟨(SubsOk_z _ _), ⟨⟨(SubsOk_z _ _), (sub_of rfl r6_member.p0.sound)⟩, (SubsOk_z _ _)⟩⟩ : SubsOk r6_member.E r6_member.body0 r6_member.ann) (fun _ => rfl) rfl r6_member.eq

noncomputable def robot_bound.F0 (a0 : Int) : Option (Int) :=
  (bif (a0 == (0 : Int)) then some (0 : Int) else (bif (a0 == (1 : Int)) then some (524288 : Int) else (bif (a0 == (2 : Int)) then some (524288 : Int) else (bif (a0 == (3 : Int)) then some (524288 : Int) else some (4194304 : Int)))))
noncomputable def robot_bound.F : Int → Option (Int) := lock robot_bound.F0
theorem robot_bound.F_eq : robot_bound.F = robot_bound.F0 := lock_eq _
noncomputable def robot_bound.p : Proc := { nargs := 1, inS := ⟨[(0, .lf (.sc (.int .i64)))], []⟩, outS := ⟨[(0, .lf (.sc (.int .i64)))], []⟩, n0 := 0, R := Int, F := fun x => robot_bound.F x.1.1, post := fun r => ((r, ()), ()), un := fun x => x.1.1 }
noncomputable def robot_bound.E : Env := { P := Try.prog, ty := tyTab [], glob := glob0, proc := procTab [], lproc := lprocTab [], n0 := 0, ntmps := 10 }
theorem robot_bound.ok : ProcsOk robot_bound.E := AllSound.ok (l := []) (by kernel_rfl) rfl trivial
noncomputable def robot_bound.body0 : Code := (match Try.f118.body with | some c => c | none => .skip)
noncomputable def robot_bound.ann : Ann := .z
theorem robot_bound.eq (x : Tup robot_bound.p.inS) : peFn robot_bound.E Try.f118 robot_bound.ann robot_bound.p x = robot_bound.p.F x := by
  have h : peFn robot_bound.E Try.f118 robot_bound.ann robot_bound.p x = robot_bound.F0 x.1.1 := by kernel_rfl
  exact h.trans (by show _ = robot_bound.F x.1.1; rw [robot_bound.F_eq])
theorem robot_bound.sound : ProcSound Try.prog glob0 118 robot_bound.p :=
  fn_sound (E := robot_bound.E) (c := robot_bound.body0) (ann := robot_bound.ann) robot_bound.ok Try.func118 (of_decide_eq_true (by kernel_rfl)) rfl rfl rfl (by decide +kernel) ((SubsOk_z _ _) : SubsOk robot_bound.E robot_bound.body0 robot_bound.ann) (fun _ => rfl) rfl robot_bound.eq

noncomputable def token_Name.p0.round (v0 : ByteArray) (v1 : ByteArray) (v2 : Int) : Option ((ByteArray × ByteArray × Int) ⊕ ((Bool) ⊕ (ByteArray))) :=
  (bif decide (v2 < (v1.size : Int)) then (bif decide ((rnC v1 v2) ≥ (97 : Int)) then (bif (!decide ((rnC v1 v2) ≤ (122 : Int))) then (bif (v2 == (0 : Int)) then some (.inr (.inl false)) else (bif ((rnC v1 v2) != (95 : Int)) then (bif decide ((rnC v1 v2) < (48 : Int)) then some (.inr (.inl false)) else (bif decide ((rnC v1 v2) > (57 : Int)) then some (.inr (.inl false)) else some (.inl (v0, v1, (v2 + rnW v1 v2))))) else some (.inl (v0, v1, (v2 + rnW v1 v2))))) else some (.inl (v0, v1, (v2 + rnW v1 v2)))) else (bif (v2 == (0 : Int)) then some (.inr (.inl false)) else (bif ((rnC v1 v2) != (95 : Int)) then (bif decide ((rnC v1 v2) < (48 : Int)) then some (.inr (.inl false)) else (bif decide ((rnC v1 v2) > (57 : Int)) then some (.inr (.inl false)) else some (.inl (v0, v1, (v2 + rnW v1 v2))))) else some (.inl (v0, v1, (v2 + rnW v1 v2)))))) else some (.inr (.inr v0)))
noncomputable def token_Name.p0.step (s : ByteArray × ByteArray × Int) : Option ((ByteArray × ByteArray × Int) ⊕ ((Bool) ⊕ (ByteArray))) := token_Name.p0.round s.1 s.2.1 s.2.2
noncomputable def token_Name.p0.inS : Shape := ⟨[(0, .lf (.sc .str)), (7, .lf (.bp 0 0))], [.iter]⟩
noncomputable def token_Name.p0.w0 : Way := { ex := .rt, S := ⟨[(2, .lf (.sc .bool))], []⟩, R := Bool, post := fun r => ((r, ()), ()), un := fun x => x.1.1 }
noncomputable def token_Name.p0.w1 : Way := { ex := (.ex 0), S := ⟨[(0, .lf (.sc .str))], []⟩, R := ByteArray, post := fun r => ((r, ()), ()), un := fun x => x.1.1 }
noncomputable def token_Name.p0.outs : List Way := [token_Name.p0.w0, token_Name.p0.w1]
noncomputable def token_Name.p0.un (x : Tup token_Name.p0.inS) : ByteArray × ByteArray × Int := (x.1.1, x.2.1.1, x.2.1.2)
noncomputable def token_Name.p0.lp : LProc := { inS := token_Name.p0.inS, outs := token_Name.p0.outs, F := fun x => loopF token_Name.p0.step (token_Name.p0.un x) }
noncomputable def token_Name.F0 (a0 : ByteArray) : Option (Bool) :=
  ((loopF token_Name.p0.step (a0, a0, (0 : Int))).bind fun y1 => (Sum.elim (fun y2 => some y2) (fun z3 => (bif decide ((z3.size : Int) ≥ (1 : Int)) then (bif decide ((z3.size : Int) ≤ (16 : Int)) then some (!(eqS z3 (⟨#[119, 111, 114, 108, 100]⟩ : ByteArray))) else some false) else some false)) y1))
noncomputable def token_Name.F : ByteArray → Option (Bool) := lock token_Name.F0
theorem token_Name.F_eq : token_Name.F = token_Name.F0 := lock_eq _
noncomputable def token_Name.p : Proc := { nargs := 1, inS := ⟨[(0, .lf (.sc .str))], []⟩, outS := ⟨[(0, .lf (.sc .bool))], []⟩, n0 := 0, R := Bool, F := fun x => token_Name.F x.1.1, post := fun r => ((r, ()), ()), un := fun x => x.1.1 }
noncomputable def token_Name.E : Env := { P := Try.prog, ty := tyTab [], glob := glob0, proc := procTab [], lproc := lprocTab [(0, token_Name.p0.lp)], n0 := 0, ntmps := 48 }
theorem token_Name.ok : ProcsOk token_Name.E := AllSound.ok (l := []) (by kernel_rfl) rfl trivial
noncomputable def token_Name.body0 : Code := (match Try.f119.body with | some c => c | none => .skip)
noncomputable def token_Name.p0.c : Code := ((codeAt token_Name.body0 [.r, .l, .r, .b, .b]).getD .skip)
noncomputable def token_Name.p0.ann : Ann := .z
theorem token_Name.p0.eq (x : Tup token_Name.p0.inS) : peRound token_Name.E token_Name.p0.c token_Name.p0.ann _ token_Name.p0.inS token_Name.p0.un token_Name.p0.outs x = token_Name.p0.step (token_Name.p0.un x) := by
  kernel_rfl
theorem token_Name.p0.sound : LProcSound token_Name.E (.loop token_Name.p0.c) token_Name.p0.lp :=
  loop_sound (c := token_Name.p0.c) (ann := token_Name.p0.ann) token_Name.ok ((SubsOk_z _ _) : SubsOk token_Name.E token_Name.p0.c token_Name.p0.ann) (by intro a ha; simp only [token_Name.p0.outs, List.mem_cons, List.not_mem_nil, or_false] at ha; rcases ha with rfl | rfl <;> exact fun _ => rfl) token_Name.p0.eq
noncomputable def token_Name.ann : Ann := .s (.z) (.s (.s (.z) (.b (.sub 0))) (.z))
theorem token_Name.eq (x : Tup token_Name.p.inS) : peFn token_Name.E Try.f119 token_Name.ann token_Name.p x = token_Name.p.F x := by
  have h : peFn token_Name.E Try.f119 token_Name.ann token_Name.p x = token_Name.F0 x.1.1 := by kernel_rfl
  exact h.trans (by show _ = token_Name.F x.1.1; rw [token_Name.F_eq])
theorem token_Name.sound : ProcSound Try.prog glob0 119 token_Name.p :=
  fn_sound (E := token_Name.E) (c := token_Name.body0) (ann := token_Name.ann) token_Name.ok Try.func119 (of_decide_eq_true (by kernel_rfl)) rfl rfl rfl (by decide +kernel) (⟨(SubsOk_z _ _), ⟨⟨(SubsOk_z _ _), (sub_of rfl token_Name.p0.sound)⟩, (SubsOk_z _ _)⟩⟩ : SubsOk token_Name.E token_Name.body0 token_Name.ann) (fun _ => rfl) rfl token_Name.eq

noncomputable def robot_place_1.F0 (a0 : ByteArray) (a1 : Int) (a2 : Int) (a3 : Int) (a4 : Int) (a5 : Int) (a6 : Int) (a7 : Int) (a8 : Int) (a9 : Int) (a10 : Int) (a11 : Int) (a12 : ByteArray) : Option (Bool × ByteArray) :=
  some ((eqS a0 a12), a12)
noncomputable def robot_place_1.F : ByteArray → Int → Int → Int → Int → Int → Int → Int → Int → Int → Int → Int → ByteArray → Option (Bool × ByteArray) := lock robot_place_1.F0
theorem robot_place_1.F_eq : robot_place_1.F = robot_place_1.F0 := lock_eq _
noncomputable def robot_place_1.p : Proc := { nargs := 2, inS := ⟨[(0, .ag [.sc .str, .sc (.int .i64), .sc (.int .i64), .sc (.int .i64), .sc (.int .i64), .sc (.int .i64), .sc (.int .i64), .sc (.int .i64), .sc (.int .i64), .sc (.int .i64), .sc (.int .i64), .sc (.int .i64)]), (1, .lf (.bp 0 0))], [.box [.sc .str]]⟩, outS := ⟨[(0, .lf (.sc .bool))], [.box [.sc .str]]⟩, n0 := 1, R := Bool × ByteArray, F := fun x => robot_place_1.F x.1.1.1 x.1.1.2.1 x.1.1.2.2.1 x.1.1.2.2.2.1 x.1.1.2.2.2.2.1 x.1.1.2.2.2.2.2.1 x.1.1.2.2.2.2.2.2.1 x.1.1.2.2.2.2.2.2.2.1 x.1.1.2.2.2.2.2.2.2.2.1 x.1.1.2.2.2.2.2.2.2.2.2.1 x.1.1.2.2.2.2.2.2.2.2.2.2.1 x.1.1.2.2.2.2.2.2.2.2.2.2.2.1 x.2.1.1, post := fun r => ((r.1, ()), ((r.2, ()), ())), un := fun x => (x.1.1, x.2.1.1) }
noncomputable def robot_place_1.E : Env := { P := Try.prog, ty := tyTab [], glob := glob0, proc := procTab [], lproc := lprocTab [], n0 := 1, ntmps := 8 }
theorem robot_place_1.ok : ProcsOk robot_place_1.E := AllSound.ok (l := []) (by kernel_rfl) rfl trivial
noncomputable def robot_place_1.body0 : Code := (match Try.f133.body with | some c => c | none => .skip)
noncomputable def robot_place_1.ann : Ann := .z
theorem robot_place_1.eq (x : Tup robot_place_1.p.inS) : peFn robot_place_1.E Try.f133 robot_place_1.ann robot_place_1.p x = robot_place_1.p.F x := by
  have h : peFn robot_place_1.E Try.f133 robot_place_1.ann robot_place_1.p x = robot_place_1.F0 x.1.1.1 x.1.1.2.1 x.1.1.2.2.1 x.1.1.2.2.2.1 x.1.1.2.2.2.2.1 x.1.1.2.2.2.2.2.1 x.1.1.2.2.2.2.2.2.1 x.1.1.2.2.2.2.2.2.2.1 x.1.1.2.2.2.2.2.2.2.2.1 x.1.1.2.2.2.2.2.2.2.2.2.1 x.1.1.2.2.2.2.2.2.2.2.2.2.1 x.1.1.2.2.2.2.2.2.2.2.2.2.2.1 x.2.1.1 := by kernel_rfl
  exact h.trans (by show _ = robot_place_1.F x.1.1.1 x.1.1.2.1 x.1.1.2.2.1 x.1.1.2.2.2.1 x.1.1.2.2.2.2.1 x.1.1.2.2.2.2.2.1 x.1.1.2.2.2.2.2.2.1 x.1.1.2.2.2.2.2.2.2.1 x.1.1.2.2.2.2.2.2.2.2.1 x.1.1.2.2.2.2.2.2.2.2.2.1 x.1.1.2.2.2.2.2.2.2.2.2.2.1 x.1.1.2.2.2.2.2.2.2.2.2.2.2.1 x.2.1.1; rw [robot_place_1.F_eq])
theorem robot_place_1.sound : ProcSound Try.prog glob0 133 robot_place_1.p :=
  fn_sound (E := robot_place_1.E) (c := robot_place_1.body0) (ann := robot_place_1.ann) robot_place_1.ok Try.func133 (of_decide_eq_true (by kernel_rfl)) rfl rfl rfl (by decide +kernel) ((SubsOk_z _ _) : SubsOk robot_place_1.E robot_place_1.body0 robot_place_1.ann) (fun _ => rfl) rfl robot_place_1.eq

noncomputable def slIF_Joint__robot_place_1.p0.round (v0 : List ((ByteArray × (Int × (Int × ((Int × (Int × Int)) × (Int × (Int × (Int × (Int × (Int × Int))))))))))) (v1 : Int) (v2 : Int) (v3 : ByteArray) : Option ((List ((ByteArray × (Int × (Int × ((Int × (Int × Int)) × (Int × (Int × (Int × (Int × (Int × Int)))))))))) × Int × Int × ByteArray) ⊕ ((Int × ByteArray) ⊕ (ByteArray))) :=
  (bif decide (v2 < v1) then (bif decide (0 ≤ v2) then (bif decide (v2 < (v0.length : Int)) then ((robot_place_1.F (v0.getD v2.toNat ((⟨#[]⟩ : ByteArray), ((0 : Int), ((0 : Int), (((0 : Int), ((0 : Int), (0 : Int))), ((0 : Int), ((0 : Int), ((0 : Int), ((0 : Int), ((0 : Int), (0 : Int))))))))))).1 ((v0.getD v2.toNat ((⟨#[]⟩ : ByteArray), ((0 : Int), ((0 : Int), (((0 : Int), ((0 : Int), (0 : Int))), ((0 : Int), ((0 : Int), ((0 : Int), ((0 : Int), ((0 : Int), (0 : Int))))))))))).2).1 (((v0.getD v2.toNat ((⟨#[]⟩ : ByteArray), ((0 : Int), ((0 : Int), (((0 : Int), ((0 : Int), (0 : Int))), ((0 : Int), ((0 : Int), ((0 : Int), ((0 : Int), ((0 : Int), (0 : Int))))))))))).2).2).1 (((((v0.getD v2.toNat ((⟨#[]⟩ : ByteArray), ((0 : Int), ((0 : Int), (((0 : Int), ((0 : Int), (0 : Int))), ((0 : Int), ((0 : Int), ((0 : Int), ((0 : Int), ((0 : Int), (0 : Int))))))))))).2).2).2).1).1 ((((((v0.getD v2.toNat ((⟨#[]⟩ : ByteArray), ((0 : Int), ((0 : Int), (((0 : Int), ((0 : Int), (0 : Int))), ((0 : Int), ((0 : Int), ((0 : Int), ((0 : Int), ((0 : Int), (0 : Int))))))))))).2).2).2).1).2).1 ((((((v0.getD v2.toNat ((⟨#[]⟩ : ByteArray), ((0 : Int), ((0 : Int), (((0 : Int), ((0 : Int), (0 : Int))), ((0 : Int), ((0 : Int), ((0 : Int), ((0 : Int), ((0 : Int), (0 : Int))))))))))).2).2).2).1).2).2 (((((v0.getD v2.toNat ((⟨#[]⟩ : ByteArray), ((0 : Int), ((0 : Int), (((0 : Int), ((0 : Int), (0 : Int))), ((0 : Int), ((0 : Int), ((0 : Int), ((0 : Int), ((0 : Int), (0 : Int))))))))))).2).2).2).2).1 ((((((v0.getD v2.toNat ((⟨#[]⟩ : ByteArray), ((0 : Int), ((0 : Int), (((0 : Int), ((0 : Int), (0 : Int))), ((0 : Int), ((0 : Int), ((0 : Int), ((0 : Int), ((0 : Int), (0 : Int))))))))))).2).2).2).2).2).1 (((((((v0.getD v2.toNat ((⟨#[]⟩ : ByteArray), ((0 : Int), ((0 : Int), (((0 : Int), ((0 : Int), (0 : Int))), ((0 : Int), ((0 : Int), ((0 : Int), ((0 : Int), ((0 : Int), (0 : Int))))))))))).2).2).2).2).2).2).1 ((((((((v0.getD v2.toNat ((⟨#[]⟩ : ByteArray), ((0 : Int), ((0 : Int), (((0 : Int), ((0 : Int), (0 : Int))), ((0 : Int), ((0 : Int), ((0 : Int), ((0 : Int), ((0 : Int), (0 : Int))))))))))).2).2).2).2).2).2).2).1 (((((((((v0.getD v2.toNat ((⟨#[]⟩ : ByteArray), ((0 : Int), ((0 : Int), (((0 : Int), ((0 : Int), (0 : Int))), ((0 : Int), ((0 : Int), ((0 : Int), ((0 : Int), ((0 : Int), (0 : Int))))))))))).2).2).2).2).2).2).2).2).1 (((((((((v0.getD v2.toNat ((⟨#[]⟩ : ByteArray), ((0 : Int), ((0 : Int), (((0 : Int), ((0 : Int), (0 : Int))), ((0 : Int), ((0 : Int), ((0 : Int), ((0 : Int), ((0 : Int), (0 : Int))))))))))).2).2).2).2).2).2).2).2).2 v3).bind fun r2 => (bif r2.1 then some (.inr (.inl (v2, r2.2))) else some (.inl (v0, v1, (IntKind.wrap .i64 (v2 + (1 : Int))), r2.2)))) else none) else none) else some (.inr (.inr v3)))
noncomputable def slIF_Joint__robot_place_1.p0.step (s : List ((ByteArray × (Int × (Int × ((Int × (Int × Int)) × (Int × (Int × (Int × (Int × (Int × Int)))))))))) × Int × Int × ByteArray) : Option ((List ((ByteArray × (Int × (Int × ((Int × (Int × Int)) × (Int × (Int × (Int × (Int × (Int × Int)))))))))) × Int × Int × ByteArray) ⊕ ((Int × ByteArray) ⊕ (ByteArray))) := slIF_Joint__robot_place_1.p0.round s.1 s.2.1 s.2.2.1 s.2.2.2
noncomputable def slIF_Joint__robot_place_1.p0.inS : Shape := ⟨[(0, .lf (.dat tyJ)), (1, .lf (.fn 133 [0])), (7, .lf (.sc (.int .i64))), (8, .lf (.sc (.int .i64)))], [.box [.sc .str]]⟩
noncomputable def slIF_Joint__robot_place_1.p0.w0 : Way := { ex := .rt, S := ⟨[(4, .lf (.sc (.int .i64)))], [.box [.sc .str]]⟩, R := Int × ByteArray, post := fun r => ((r.1, ()), ((r.2, ()), ())), un := fun x => (x.1.1, x.2.1.1) }
noncomputable def slIF_Joint__robot_place_1.p0.w1 : Way := { ex := (.ex 0), S := ⟨[], [.box [.sc .str]]⟩, R := ByteArray, post := fun r => ((), ((r, ()), ())), un := fun x => x.2.1.1 }
noncomputable def slIF_Joint__robot_place_1.p0.outs : List Way := [slIF_Joint__robot_place_1.p0.w0, slIF_Joint__robot_place_1.p0.w1]
noncomputable def slIF_Joint__robot_place_1.p0.un (x : Tup slIF_Joint__robot_place_1.p0.inS) : List ((ByteArray × (Int × (Int × ((Int × (Int × Int)) × (Int × (Int × (Int × (Int × (Int × Int)))))))))) × Int × Int × ByteArray := (x.1.1, x.1.2.2.1, x.1.2.2.2.1, x.2.1.1)
noncomputable def slIF_Joint__robot_place_1.p0.lp : LProc := { inS := slIF_Joint__robot_place_1.p0.inS, outs := slIF_Joint__robot_place_1.p0.outs, F := fun x => loopF slIF_Joint__robot_place_1.p0.step (slIF_Joint__robot_place_1.p0.un x) }
noncomputable def slIF_Joint__robot_place_1.F0 (a0 : List ((ByteArray × (Int × (Int × ((Int × (Int × Int)) × (Int × (Int × (Int × (Int × (Int × Int))))))))))) (a1 : ByteArray) : Option (Int × ByteArray) :=
  ((loopF slIF_Joint__robot_place_1.p0.step (a0, (a0.length : Int), (0 : Int), a1)).bind fun y3 => (Sum.elim (fun y4 => some (y4.1, y4.2)) (fun z5 => some ((-1 : Int), z5)) y3))
noncomputable def slIF_Joint__robot_place_1.F : (List ((ByteArray × (Int × (Int × ((Int × (Int × Int)) × (Int × (Int × (Int × (Int × (Int × Int))))))))))) → ByteArray → Option (Int × ByteArray) := lock slIF_Joint__robot_place_1.F0
theorem slIF_Joint__robot_place_1.F_eq : slIF_Joint__robot_place_1.F = slIF_Joint__robot_place_1.F0 := lock_eq _
noncomputable def slIF_Joint__robot_place_1.p : Proc := { nargs := 2, inS := ⟨[(0, .lf (.dat tyJ)), (1, .lf (.fn 133 [0]))], [.box [.sc .str]]⟩, outS := ⟨[(0, .lf (.sc (.int .i64)))], [.box [.sc .str]]⟩, n0 := 1, R := Int × ByteArray, F := fun x => slIF_Joint__robot_place_1.F x.1.1 x.2.1.1, post := fun r => ((r.1, ()), ((r.2, ()), ())), un := fun x => (x.1.1, x.2.1.1) }
noncomputable def slIF_Joint__robot_place_1.E : Env := { P := Try.prog, ty := tyTab [], glob := glob0, proc := procTab [(133, robot_place_1.p)], lproc := lprocTab [(0, slIF_Joint__robot_place_1.p0.lp)], n0 := 1, ntmps := 19 }
theorem slIF_Joint__robot_place_1.ok : ProcsOk slIF_Joint__robot_place_1.E := AllSound.ok (l := [(133, robot_place_1.p)]) (by kernel_rfl) rfl ⟨robot_place_1.sound, trivial⟩
noncomputable def slIF_Joint__robot_place_1.body0 : Code := (match Try.f132.body with | some c => c | none => .skip)
noncomputable def slIF_Joint__robot_place_1.p0.c : Code := ((codeAt slIF_Joint__robot_place_1.body0 [.r, .l, .r, .b, .b]).getD .skip)
noncomputable def slIF_Joint__robot_place_1.p0.ann : Ann := .z
theorem slIF_Joint__robot_place_1.p0.eq (x : Tup slIF_Joint__robot_place_1.p0.inS) : peRound slIF_Joint__robot_place_1.E slIF_Joint__robot_place_1.p0.c slIF_Joint__robot_place_1.p0.ann _ slIF_Joint__robot_place_1.p0.inS slIF_Joint__robot_place_1.p0.un slIF_Joint__robot_place_1.p0.outs x = slIF_Joint__robot_place_1.p0.step (slIF_Joint__robot_place_1.p0.un x) := by
  kernel_rfl
theorem slIF_Joint__robot_place_1.p0.sound : LProcSound slIF_Joint__robot_place_1.E (.loop slIF_Joint__robot_place_1.p0.c) slIF_Joint__robot_place_1.p0.lp :=
  loop_sound (c := slIF_Joint__robot_place_1.p0.c) (ann := slIF_Joint__robot_place_1.p0.ann) slIF_Joint__robot_place_1.ok ((SubsOk_z _ _) : SubsOk slIF_Joint__robot_place_1.E slIF_Joint__robot_place_1.p0.c slIF_Joint__robot_place_1.p0.ann) (by intro a ha; simp only [slIF_Joint__robot_place_1.p0.outs, List.mem_cons, List.not_mem_nil, or_false] at ha; rcases ha with rfl | rfl <;> exact fun _ => rfl) slIF_Joint__robot_place_1.p0.eq
noncomputable def slIF_Joint__robot_place_1.ann : Ann := .s (.z) (.s (.s (.z) (.b (.sub 0))) (.z))
theorem slIF_Joint__robot_place_1.eq (x : Tup slIF_Joint__robot_place_1.p.inS) : peFn slIF_Joint__robot_place_1.E Try.f132 slIF_Joint__robot_place_1.ann slIF_Joint__robot_place_1.p x = slIF_Joint__robot_place_1.p.F x := by
  have h : peFn slIF_Joint__robot_place_1.E Try.f132 slIF_Joint__robot_place_1.ann slIF_Joint__robot_place_1.p x = slIF_Joint__robot_place_1.F0 x.1.1 x.2.1.1 := by kernel_rfl
  exact h.trans (by show _ = slIF_Joint__robot_place_1.F x.1.1 x.2.1.1; rw [slIF_Joint__robot_place_1.F_eq])
theorem slIF_Joint__robot_place_1.sound : ProcSound Try.prog glob0 132 slIF_Joint__robot_place_1.p :=
  fn_sound (E := slIF_Joint__robot_place_1.E) (c := slIF_Joint__robot_place_1.body0) (ann := slIF_Joint__robot_place_1.ann) slIF_Joint__robot_place_1.ok Try.func132 (of_decide_eq_true (by kernel_rfl)) rfl rfl rfl (by decide +kernel) (⟨(SubsOk_z _ _), ⟨⟨(SubsOk_z _ _), (sub_of rfl slIF_Joint__robot_place_1.p0.sound)⟩, (SubsOk_z _ _)⟩⟩ : SubsOk slIF_Joint__robot_place_1.E slIF_Joint__robot_place_1.body0 slIF_Joint__robot_place_1.ann) (fun _ => rfl) rfl slIF_Joint__robot_place_1.eq

noncomputable def robot_place.F0 (a0 : List ((ByteArray × (Int × (Int × ((Int × (Int × Int)) × (Int × (Int × (Int × (Int × (Int × Int))))))))))) (a1 : ByteArray) : Option (Int) :=
  ((slIF_Joint__robot_place_1.F a0 a1).bind fun r1 => some r1.1)
noncomputable def robot_place.F : (List ((ByteArray × (Int × (Int × ((Int × (Int × Int)) × (Int × (Int × (Int × (Int × (Int × Int))))))))))) → ByteArray → Option (Int) := lock robot_place.F0
theorem robot_place.F_eq : robot_place.F = robot_place.F0 := lock_eq _
noncomputable def robot_place.p : Proc := { nargs := 2, inS := ⟨[(0, .lf (.dat tyJ)), (1, .lf (.sc .str))], []⟩, outS := ⟨[(0, .lf (.sc (.int .i64)))], []⟩, n0 := 0, R := Int, F := fun x => robot_place.F x.1.1 x.1.2.1, post := fun r => ((r, ()), ()), un := fun x => x.1.1 }
noncomputable def robot_place.E : Env := { P := Try.prog, ty := tyTab [(84, tyJ)], glob := glob0, proc := procTab [(132, slIF_Joint__robot_place_1.p)], lproc := lprocTab [], n0 := 0, ntmps := 8 }
theorem robot_place.ok : ProcsOk robot_place.E := AllSound.ok (l := [(132, slIF_Joint__robot_place_1.p)]) (by kernel_rfl) rfl ⟨slIF_Joint__robot_place_1.sound, trivial⟩
noncomputable def robot_place.body0 : Code := (match Try.f120.body with | some c => c | none => .skip)
noncomputable def robot_place.ann : Ann := .z
theorem robot_place.eq (x : Tup robot_place.p.inS) : peFn robot_place.E Try.f120 robot_place.ann robot_place.p x = robot_place.p.F x := by
  have h : peFn robot_place.E Try.f120 robot_place.ann robot_place.p x = robot_place.F0 x.1.1 x.1.2.1 := by kernel_rfl
  exact h.trans (by show _ = robot_place.F x.1.1 x.1.2.1; rw [robot_place.F_eq])
theorem robot_place.sound : ProcSound Try.prog glob0 120 robot_place.p :=
  fn_sound (E := robot_place.E) (c := robot_place.body0) (ann := robot_place.ann) robot_place.ok Try.func120 (of_decide_eq_true (by kernel_rfl)) rfl rfl rfl (by decide +kernel) ((SubsOk_z _ _) : SubsOk robot_place.E robot_place.body0 robot_place.ann) (fun _ => rfl) rfl robot_place.eq

noncomputable def r6_Name.p0.round (v0 : ByteArray) (v1 : Int) : Option ((ByteArray × Int) ⊕ ((Bool) ⊕ (Unit))) :=
  (bif decide (v1 < (v0.size : Int)) then (bif decide (0 ≤ v1) then (bif decide (v1 < (v0.size : Int)) then (bif decide ((btI v0 v1) ≥ (97 : Int)) then (bif decide (0 ≤ v1) then (bif decide (v1 < (v0.size : Int)) then (bif (!decide ((btI v0 v1) ≤ (122 : Int))) then (bif (v1 == (0 : Int)) then some (.inr (.inl false)) else (bif decide (0 ≤ v1) then (bif decide (v1 < (v0.size : Int)) then (bif ((btI v0 v1) != (95 : Int)) then (bif decide (0 ≤ v1) then (bif decide (v1 < (v0.size : Int)) then (bif decide ((btI v0 v1) < (48 : Int)) then some (.inr (.inl false)) else (bif decide (0 ≤ v1) then (bif decide (v1 < (v0.size : Int)) then (bif decide ((btI v0 v1) > (57 : Int)) then some (.inr (.inl false)) else some (.inl (v0, (IntKind.wrap .i64 (v1 + (1 : Int)))))) else none) else none)) else none) else none) else some (.inl (v0, (IntKind.wrap .i64 (v1 + (1 : Int)))))) else none) else none)) else some (.inl (v0, (IntKind.wrap .i64 (v1 + (1 : Int)))))) else none) else none) else (bif (v1 == (0 : Int)) then some (.inr (.inl false)) else (bif decide (0 ≤ v1) then (bif decide (v1 < (v0.size : Int)) then (bif ((btI v0 v1) != (95 : Int)) then (bif decide (0 ≤ v1) then (bif decide (v1 < (v0.size : Int)) then (bif decide ((btI v0 v1) < (48 : Int)) then some (.inr (.inl false)) else (bif decide (0 ≤ v1) then (bif decide (v1 < (v0.size : Int)) then (bif decide ((btI v0 v1) > (57 : Int)) then some (.inr (.inl false)) else some (.inl (v0, (IntKind.wrap .i64 (v1 + (1 : Int)))))) else none) else none)) else none) else none) else some (.inl (v0, (IntKind.wrap .i64 (v1 + (1 : Int)))))) else none) else none))) else none) else none) else some (.inr (.inr ())))
noncomputable def r6_Name.p0.step (s : ByteArray × Int) : Option ((ByteArray × Int) ⊕ ((Bool) ⊕ (Unit))) := r6_Name.p0.round s.1 s.2
noncomputable def r6_Name.p0.inS : Shape := ⟨[(0, .lf (.sc .str)), (3, .lf (.sc (.int .i64)))], []⟩
noncomputable def r6_Name.p0.w0 : Way := { ex := .rt, S := ⟨[(2, .lf (.sc .bool))], []⟩, R := Bool, post := fun r => ((r, ()), ()), un := fun x => x.1.1 }
noncomputable def r6_Name.p0.w1 : Way := { ex := (.ex 0), S := ⟨[], []⟩, R := Unit, post := fun r => ((), ()), un := fun x => () }
noncomputable def r6_Name.p0.outs : List Way := [r6_Name.p0.w0, r6_Name.p0.w1]
noncomputable def r6_Name.p0.un (x : Tup r6_Name.p0.inS) : ByteArray × Int := (x.1.1, x.1.2.1)
noncomputable def r6_Name.p0.lp : LProc := { inS := r6_Name.p0.inS, outs := r6_Name.p0.outs, F := fun x => loopF r6_Name.p0.step (r6_Name.p0.un x) }
noncomputable def r6_Name.F0 (a0 : ByteArray) : Option (Bool) :=
  (bif decide ((a0.size : Int) < (1 : Int)) then some false else (bif decide ((a0.size : Int) > (16 : Int)) then some false else (bif (eqS a0 (⟨#[119, 111, 114, 108, 100]⟩ : ByteArray)) then some false else ((loopF r6_Name.p0.step (a0, (0 : Int))).bind fun y1 => (Sum.elim (fun y2 => some y2) (fun z3 => some true) y1)))))
noncomputable def r6_Name.F : ByteArray → Option (Bool) := lock r6_Name.F0
theorem r6_Name.F_eq : r6_Name.F = r6_Name.F0 := lock_eq _
noncomputable def r6_Name.p : Proc := { nargs := 1, inS := ⟨[(0, .lf (.sc .str))], []⟩, outS := ⟨[(0, .lf (.sc .bool))], []⟩, n0 := 0, R := Bool, F := fun x => r6_Name.F x.1.1, post := fun r => ((r, ()), ()), un := fun x => x.1.1 }
noncomputable def r6_Name.E : Env := { P := Try.prog, ty := tyTab [], glob := glob0, proc := procTab [], lproc := lprocTab [(0, r6_Name.p0.lp)], n0 := 0, ntmps := 57 }
theorem r6_Name.ok : ProcsOk r6_Name.E := AllSound.ok (l := []) (by kernel_rfl) rfl trivial
noncomputable def r6_Name.body0 : Code := (match Try.f122.body with | some c => c | none => .skip)
noncomputable def r6_Name.p0.c : Code := ((codeAt r6_Name.body0 [.r, .r, .l, .r, .b, .b]).getD .skip)
noncomputable def r6_Name.p0.ann : Ann := .z
theorem r6_Name.p0.eq (x : Tup r6_Name.p0.inS) : peRound r6_Name.E r6_Name.p0.c r6_Name.p0.ann _ r6_Name.p0.inS r6_Name.p0.un r6_Name.p0.outs x = r6_Name.p0.step (r6_Name.p0.un x) := by
  kernel_rfl
theorem r6_Name.p0.sound : LProcSound r6_Name.E (.loop r6_Name.p0.c) r6_Name.p0.lp :=
  loop_sound (c := r6_Name.p0.c) (ann := r6_Name.p0.ann) r6_Name.ok ((SubsOk_z _ _) : SubsOk r6_Name.E r6_Name.p0.c r6_Name.p0.ann) (by intro a ha; simp only [r6_Name.p0.outs, List.mem_cons, List.not_mem_nil, or_false] at ha; rcases ha with rfl | rfl <;> exact fun _ => rfl) r6_Name.p0.eq
noncomputable def r6_Name.ann : Ann := .s (.z) (.s (.z) (.s (.s (.z) (.b (.sub 0))) (.z)))
theorem r6_Name.eq (x : Tup r6_Name.p.inS) : peFn r6_Name.E Try.f122 r6_Name.ann r6_Name.p x = r6_Name.p.F x := by
  have h : peFn r6_Name.E Try.f122 r6_Name.ann r6_Name.p x = r6_Name.F0 x.1.1 := by kernel_rfl
  exact h.trans (by show _ = r6_Name.F x.1.1; rw [r6_Name.F_eq])
theorem r6_Name.sound : ProcSound Try.prog glob0 122 r6_Name.p :=
  fn_sound (E := r6_Name.E) (c := r6_Name.body0) (ann := r6_Name.ann) r6_Name.ok Try.func122 (of_decide_eq_true (by kernel_rfl)) rfl rfl rfl (by decide +kernel) (⟨(SubsOk_z _ _), ⟨(SubsOk_z _ _), ⟨⟨(SubsOk_z _ _), (sub_of rfl r6_Name.p0.sound)⟩, (SubsOk_z _ _)⟩⟩⟩ : SubsOk r6_Name.E r6_Name.body0 r6_Name.ann) (fun _ => rfl) rfl r6_Name.eq

noncomputable def r6_reach.F0 (a0 : Int) : Option (Int) :=
  (bif (a0 == (0 : Int)) then some (0 : Int) else (bif (a0 == (1 : Int)) then some (524288 : Int) else (bif (a0 == (2 : Int)) then some (524288 : Int) else (bif (a0 == (3 : Int)) then some (524288 : Int) else some (4194304 : Int)))))
noncomputable def r6_reach.F : Int → Option (Int) := lock r6_reach.F0
theorem r6_reach.F_eq : r6_reach.F = r6_reach.F0 := lock_eq _
noncomputable def r6_reach.p : Proc := { nargs := 1, inS := ⟨[(0, .lf (.sc (.int .i64)))], []⟩, outS := ⟨[(0, .lf (.sc (.int .i64)))], []⟩, n0 := 0, R := Int, F := fun x => r6_reach.F x.1.1, post := fun r => ((r, ()), ()), un := fun x => x.1.1 }
noncomputable def r6_reach.E : Env := { P := Try.prog, ty := tyTab [], glob := glob0, proc := procTab [], lproc := lprocTab [], n0 := 0, ntmps := 10 }
theorem r6_reach.ok : ProcsOk r6_reach.E := AllSound.ok (l := []) (by kernel_rfl) rfl trivial
noncomputable def r6_reach.body0 : Code := (match Try.f123.body with | some c => c | none => .skip)
noncomputable def r6_reach.ann : Ann := .z
theorem r6_reach.eq (x : Tup r6_reach.p.inS) : peFn r6_reach.E Try.f123 r6_reach.ann r6_reach.p x = r6_reach.p.F x := by
  have h : peFn r6_reach.E Try.f123 r6_reach.ann r6_reach.p x = r6_reach.F0 x.1.1 := by kernel_rfl
  exact h.trans (by show _ = r6_reach.F x.1.1; rw [r6_reach.F_eq])
theorem r6_reach.sound : ProcSound Try.prog glob0 123 r6_reach.p :=
  fn_sound (E := r6_reach.E) (c := r6_reach.body0) (ann := r6_reach.ann) r6_reach.ok Try.func123 (of_decide_eq_true (by kernel_rfl)) rfl rfl rfl (by decide +kernel) ((SubsOk_z _ _) : SubsOk r6_reach.E r6_reach.body0 r6_reach.ann) (fun _ => rfl) rfl r6_reach.eq

noncomputable def slices_Index_int.p0.round (v0 : List (Int)) (v1 : Int) (v2 : Int) (v3 : Int) : Option ((List (Int) × Int × Int × Int) ⊕ ((Int) ⊕ (Unit))) :=
  (bif decide (v3 < v2) then (bif decide (0 ≤ v3) then (bif decide (v3 < (v0.length : Int)) then (bif (v1 == (v0.getD v3.toNat (0 : Int))) then some (.inr (.inl v3)) else some (.inl (v0, v1, v2, (IntKind.wrap .i64 (v3 + (1 : Int)))))) else none) else none) else some (.inr (.inr ())))
noncomputable def slices_Index_int.p0.step (s : List (Int) × Int × Int × Int) : Option ((List (Int) × Int × Int × Int) ⊕ ((Int) ⊕ (Unit))) := slices_Index_int.p0.round s.1 s.2.1 s.2.2.1 s.2.2.2
noncomputable def slices_Index_int.p0.inS : Shape := ⟨[(0, .lf (.dat (.int .i64))), (1, .lf (.sc (.int .i64))), (7, .lf (.sc (.int .i64))), (8, .lf (.sc (.int .i64)))], []⟩
noncomputable def slices_Index_int.p0.w0 : Way := { ex := .rt, S := ⟨[(4, .lf (.sc (.int .i64)))], []⟩, R := Int, post := fun r => ((r, ()), ()), un := fun x => x.1.1 }
noncomputable def slices_Index_int.p0.w1 : Way := { ex := (.ex 0), S := ⟨[], []⟩, R := Unit, post := fun r => ((), ()), un := fun x => () }
noncomputable def slices_Index_int.p0.outs : List Way := [slices_Index_int.p0.w0, slices_Index_int.p0.w1]
noncomputable def slices_Index_int.p0.un (x : Tup slices_Index_int.p0.inS) : List (Int) × Int × Int × Int := (x.1.1, x.1.2.1, x.1.2.2.1, x.1.2.2.2.1)
noncomputable def slices_Index_int.p0.lp : LProc := { inS := slices_Index_int.p0.inS, outs := slices_Index_int.p0.outs, F := fun x => loopF slices_Index_int.p0.step (slices_Index_int.p0.un x) }
noncomputable def slices_Index_int.F0 (a0 : List (Int)) (a1 : Int) : Option (Int) :=
  ((loopF slices_Index_int.p0.step (a0, a1, (a0.length : Int), (0 : Int))).bind fun y1 => (Sum.elim (fun y2 => some y2) (fun z3 => some (-1 : Int)) y1))
noncomputable def slices_Index_int.F : (List (Int)) → Int → Option (Int) := lock slices_Index_int.F0
theorem slices_Index_int.F_eq : slices_Index_int.F = slices_Index_int.F0 := lock_eq _
noncomputable def slices_Index_int.p : Proc := { nargs := 2, inS := ⟨[(0, .lf (.dat (.int .i64))), (1, .lf (.sc (.int .i64)))], []⟩, outS := ⟨[(0, .lf (.sc (.int .i64)))], []⟩, n0 := 0, R := Int, F := fun x => slices_Index_int.F x.1.1 x.1.2.1, post := fun r => ((r, ()), ()), un := fun x => x.1.1 }
noncomputable def slices_Index_int.E : Env := { P := Try.prog, ty := tyTab [], glob := glob0, proc := procTab [], lproc := lprocTab [(0, slices_Index_int.p0.lp)], n0 := 0, ntmps := 19 }
theorem slices_Index_int.ok : ProcsOk slices_Index_int.E := AllSound.ok (l := []) (by kernel_rfl) rfl trivial
noncomputable def slices_Index_int.body0 : Code := (match Try.f140.body with | some c => c | none => .skip)
noncomputable def slices_Index_int.p0.c : Code := ((codeAt slices_Index_int.body0 [.r, .l, .r, .b, .b]).getD .skip)
noncomputable def slices_Index_int.p0.ann : Ann := .z
theorem slices_Index_int.p0.eq (x : Tup slices_Index_int.p0.inS) : peRound slices_Index_int.E slices_Index_int.p0.c slices_Index_int.p0.ann _ slices_Index_int.p0.inS slices_Index_int.p0.un slices_Index_int.p0.outs x = slices_Index_int.p0.step (slices_Index_int.p0.un x) := by
  kernel_rfl
theorem slices_Index_int.p0.sound : LProcSound slices_Index_int.E (.loop slices_Index_int.p0.c) slices_Index_int.p0.lp :=
  loop_sound (c := slices_Index_int.p0.c) (ann := slices_Index_int.p0.ann) slices_Index_int.ok ((SubsOk_z _ _) : SubsOk slices_Index_int.E slices_Index_int.p0.c slices_Index_int.p0.ann) (by intro a ha; simp only [slices_Index_int.p0.outs, List.mem_cons, List.not_mem_nil, or_false] at ha; rcases ha with rfl | rfl <;> exact fun _ => rfl) slices_Index_int.p0.eq
noncomputable def slices_Index_int.ann : Ann := .s (.z) (.s (.s (.z) (.b (.sub 0))) (.z))
theorem slices_Index_int.eq (x : Tup slices_Index_int.p.inS) : peFn slices_Index_int.E Try.f140 slices_Index_int.ann slices_Index_int.p x = slices_Index_int.p.F x := by
  have h : peFn slices_Index_int.E Try.f140 slices_Index_int.ann slices_Index_int.p x = slices_Index_int.F0 x.1.1 x.1.2.1 := by kernel_rfl
  exact h.trans (by show _ = slices_Index_int.F x.1.1 x.1.2.1; rw [slices_Index_int.F_eq])
theorem slices_Index_int.sound : ProcSound Try.prog glob0 140 slices_Index_int.p :=
  fn_sound (E := slices_Index_int.E) (c := slices_Index_int.body0) (ann := slices_Index_int.ann) slices_Index_int.ok Try.func140 (of_decide_eq_true (by kernel_rfl)) rfl rfl rfl (by decide +kernel) (⟨(SubsOk_z _ _), ⟨⟨(SubsOk_z _ _), (sub_of rfl slices_Index_int.p0.sound)⟩, (SubsOk_z _ _)⟩⟩ : SubsOk slices_Index_int.E slices_Index_int.body0 slices_Index_int.ann) (fun _ => rfl) rfl slices_Index_int.eq

noncomputable def l35_few.p0.round (v0 : List (((List ((ByteArray × (Int × (Int × ((Int × (Int × Int)) × (Int × (Int × (Int × (Int × (Int × Int)))))))))) × List ((Int × (Int × (Int × (Int × Int)))))) × (List ((Int × (Int × List ((Int × (Int × Int)))))) × List ((Int × Int)))))) (v1 : Int) : Option ((List (((List ((ByteArray × (Int × (Int × ((Int × (Int × Int)) × (Int × (Int × (Int × (Int × (Int × Int)))))))))) × List ((Int × (Int × (Int × (Int × Int)))))) × (List ((Int × (Int × List ((Int × (Int × Int)))))) × List ((Int × Int))))) × Int) ⊕ ((Bool) ⊕ (Unit))) :=
  (bif decide (v1 < (v0.length : Int)) then (bif decide (0 ≤ v1) then (bif decide (v1 < (v0.length : Int)) then ((mk_SmallScene.F ((v0.getD v1.toNat ((([] : List ((ByteArray × (Int × (Int × ((Int × (Int × Int)) × (Int × (Int × (Int × (Int × (Int × Int))))))))))), ([] : List ((Int × (Int × (Int × (Int × Int))))))), (([] : List ((Int × (Int × List ((Int × (Int × Int))))))), ([] : List ((Int × Int)))))).1).1 ((v0.getD v1.toNat ((([] : List ((ByteArray × (Int × (Int × ((Int × (Int × Int)) × (Int × (Int × (Int × (Int × (Int × Int))))))))))), ([] : List ((Int × (Int × (Int × (Int × Int))))))), (([] : List ((Int × (Int × List ((Int × (Int × Int))))))), ([] : List ((Int × Int)))))).1).2 ((v0.getD v1.toNat ((([] : List ((ByteArray × (Int × (Int × ((Int × (Int × Int)) × (Int × (Int × (Int × (Int × (Int × Int))))))))))), ([] : List ((Int × (Int × (Int × (Int × Int))))))), (([] : List ((Int × (Int × List ((Int × (Int × Int))))))), ([] : List ((Int × Int)))))).2).1 ((v0.getD v1.toNat ((([] : List ((ByteArray × (Int × (Int × ((Int × (Int × Int)) × (Int × (Int × (Int × (Int × (Int × Int))))))))))), ([] : List ((Int × (Int × (Int × (Int × Int))))))), (([] : List ((Int × (Int × List ((Int × (Int × Int))))))), ([] : List ((Int × Int)))))).2).2).bind fun r2 => (bif (!r2) then some (.inr (.inl false)) else some (.inl (v0, (IntKind.wrap .i64 (v1 + (1 : Int))))))) else none) else none) else some (.inr (.inr ())))
noncomputable def l35_few.p0.step (s : List (((List ((ByteArray × (Int × (Int × ((Int × (Int × Int)) × (Int × (Int × (Int × (Int × (Int × Int)))))))))) × List ((Int × (Int × (Int × (Int × Int)))))) × (List ((Int × (Int × List ((Int × (Int × Int)))))) × List ((Int × Int))))) × Int) : Option ((List (((List ((ByteArray × (Int × (Int × ((Int × (Int × Int)) × (Int × (Int × (Int × (Int × (Int × Int)))))))))) × List ((Int × (Int × (Int × (Int × Int)))))) × (List ((Int × (Int × List ((Int × (Int × Int)))))) × List ((Int × Int))))) × Int) ⊕ ((Bool) ⊕ (Unit))) := l35_few.p0.round s.1 s.2
noncomputable def l35_few.p0.inS : Shape := ⟨[(0, .lf (.dat (.pair (.pair (.slc tyJ) (.slc tyM)) (.pair (.slc tyS) (.slc tyK))))), (5, .lf (.sc (.int .i64)))], []⟩
noncomputable def l35_few.p0.w0 : Way := { ex := .rt, S := ⟨[(4, .lf (.sc .bool))], []⟩, R := Bool, post := fun r => ((r, ()), ()), un := fun x => x.1.1 }
noncomputable def l35_few.p0.w1 : Way := { ex := (.ex 0), S := ⟨[], []⟩, R := Unit, post := fun r => ((), ()), un := fun x => () }
noncomputable def l35_few.p0.outs : List Way := [l35_few.p0.w0, l35_few.p0.w1]
noncomputable def l35_few.p0.un (x : Tup l35_few.p0.inS) : List (((List ((ByteArray × (Int × (Int × ((Int × (Int × Int)) × (Int × (Int × (Int × (Int × (Int × Int)))))))))) × List ((Int × (Int × (Int × (Int × Int)))))) × (List ((Int × (Int × List ((Int × (Int × Int)))))) × List ((Int × Int))))) × Int := (x.1.1, x.1.2.1)
noncomputable def l35_few.p0.lp : LProc := { inS := l35_few.p0.inS, outs := l35_few.p0.outs, F := fun x => loopF l35_few.p0.step (l35_few.p0.un x) }
noncomputable def l35_few.F0 (a0 : List (((List ((ByteArray × (Int × (Int × ((Int × (Int × Int)) × (Int × (Int × (Int × (Int × (Int × Int)))))))))) × List ((Int × (Int × (Int × (Int × Int)))))) × (List ((Int × (Int × List ((Int × (Int × Int)))))) × List ((Int × Int)))))) (a1 : List ((Int × (Int × Int)))) : Option (Bool) :=
  (bif decide ((a0.length : Int) > (6 : Int)) then some false else (bif decide ((a1.length : Int) > (8 : Int)) then some false else ((loopF l35_few.p0.step (a0, (0 : Int))).bind fun y3 => (Sum.elim (fun y4 => some y4) (fun z5 => some true) y3))))
noncomputable def l35_few.F : (List (((List ((ByteArray × (Int × (Int × ((Int × (Int × Int)) × (Int × (Int × (Int × (Int × (Int × Int)))))))))) × List ((Int × (Int × (Int × (Int × Int)))))) × (List ((Int × (Int × List ((Int × (Int × Int)))))) × List ((Int × Int)))))) → (List ((Int × (Int × Int)))) → Option (Bool) := lock l35_few.F0
theorem l35_few.F_eq : l35_few.F = l35_few.F0 := lock_eq _
noncomputable def l35_few.p : Proc := { nargs := 2, inS := ⟨[(0, .lf (.dat (.pair (.pair (.slc tyJ) (.slc tyM)) (.pair (.slc tyS) (.slc tyK))))), (1, .lf (.dat tyV))], []⟩, outS := ⟨[(0, .lf (.sc .bool))], []⟩, n0 := 0, R := Bool, F := fun x => l35_few.F x.1.1 x.1.2.1, post := fun r => ((r, ()), ()), un := fun x => x.1.1 }
noncomputable def l35_few.E : Env := { P := Try.prog, ty := tyTab [], glob := glob0, proc := procTab [(29, mk_SmallScene.p)], lproc := lprocTab [(0, l35_few.p0.lp)], n0 := 0, ntmps := 26 }
theorem l35_few.ok : ProcsOk l35_few.E := AllSound.ok (l := [(29, mk_SmallScene.p)]) (by kernel_rfl) rfl ⟨mk_SmallScene.sound, trivial⟩
noncomputable def l35_few.body0 : Code := (match Try.f9.body with | some c => c | none => .skip)
noncomputable def l35_few.p0.c : Code := ((codeAt l35_few.body0 [.r, .r, .l, .r, .b, .b]).getD .skip)
noncomputable def l35_few.p0.ann : Ann := .z
theorem l35_few.p0.eq (x : Tup l35_few.p0.inS) : peRound l35_few.E l35_few.p0.c l35_few.p0.ann _ l35_few.p0.inS l35_few.p0.un l35_few.p0.outs x = l35_few.p0.step (l35_few.p0.un x) := by
  kernel_rfl
theorem l35_few.p0.sound : LProcSound l35_few.E (.loop l35_few.p0.c) l35_few.p0.lp :=
  loop_sound (c := l35_few.p0.c) (ann := l35_few.p0.ann) l35_few.ok ((SubsOk_z _ _) : SubsOk l35_few.E l35_few.p0.c l35_few.p0.ann) (by intro a ha; simp only [l35_few.p0.outs, List.mem_cons, List.not_mem_nil, or_false] at ha; rcases ha with rfl | rfl <;> exact fun _ => rfl) l35_few.p0.eq
noncomputable def l35_few.ann : Ann := .s (.z) (.s (.z) (.s (.s (.z) (.b (.sub 0))) (.z)))
theorem l35_few.eq (x : Tup l35_few.p.inS) : peFn l35_few.E Try.f9 l35_few.ann l35_few.p x = l35_few.p.F x := by
  have h : peFn l35_few.E Try.f9 l35_few.ann l35_few.p x = l35_few.F0 x.1.1 x.1.2.1 := by kernel_rfl
  exact h.trans (by show _ = l35_few.F x.1.1 x.1.2.1; rw [l35_few.F_eq])
theorem l35_few.sound : ProcSound Try.prog glob0 9 l35_few.p :=
  fn_sound (E := l35_few.E) (c := l35_few.body0) (ann := l35_few.ann) l35_few.ok Try.func9 (of_decide_eq_true (by kernel_rfl)) rfl rfl rfl (by decide +kernel) (⟨(SubsOk_z _ _), ⟨(SubsOk_z _ _), ⟨⟨(SubsOk_z _ _), (sub_of rfl l35_few.p0.sound)⟩, (SubsOk_z _ _)⟩⟩⟩ : SubsOk l35_few.E l35_few.body0 l35_few.ann) (fun _ => rfl) rfl l35_few.eq

noncomputable def mk_Slider.p0.round (v0 : Int) (v1 : Int) (v2 : Int) (v3 : List ((ByteArray × (Int × (Int × ((Int × (Int × Int)) × (Int × (Int × (Int × (Int × (Int × Int))))))))))) : Option ((Int × Int × Int × List ((ByteArray × (Int × (Int × ((Int × (Int × Int)) × (Int × (Int × (Int × (Int × (Int × Int))))))))))) ⊕ ((List ((ByteArray × (Int × (Int × ((Int × (Int × Int)) × (Int × (Int × (Int × (Int × (Int × Int))))))))))))) :=
  (bif decide (v2 < v0) then ((mk_letter.F v2).bind fun r3 => (bif decide (v3.length + ([(r3, ((IntKind.wrap .i64 ((4 : Int) + (v2.tmod (2 : Int)))), ((IntKind.wrap .i64 (v2 - (1 : Int))), (((0 : Int), ((0 : Int), (0 : Int))), ((0 : Int), (v1, ((1 : Int), ((65536 : Int), ((65536 : Int), (65536 : Int))))))))))] : List ((ByteArray × (Int × (Int × ((Int × (Int × Int)) × (Int × (Int × (Int × (Int × (Int × Int))))))))))).length < 1353245080339) then some (.inl (v0, v1, (IntKind.wrap .i64 (v2 + (1 : Int))), (v3 ++ ([(r3, ((IntKind.wrap .i64 ((4 : Int) + (v2.tmod (2 : Int)))), ((IntKind.wrap .i64 (v2 - (1 : Int))), (((0 : Int), ((0 : Int), (0 : Int))), ((0 : Int), (v1, ((1 : Int), ((65536 : Int), ((65536 : Int), (65536 : Int))))))))))] : List ((ByteArray × (Int × (Int × ((Int × (Int × Int)) × (Int × (Int × (Int × (Int × (Int × Int)))))))))))))) else none)) else some (.inr v3))
noncomputable def mk_Slider.p0.step (s : Int × Int × Int × List ((ByteArray × (Int × (Int × ((Int × (Int × Int)) × (Int × (Int × (Int × (Int × (Int × Int))))))))))) : Option ((Int × Int × Int × List ((ByteArray × (Int × (Int × ((Int × (Int × Int)) × (Int × (Int × (Int × (Int × (Int × Int))))))))))) ⊕ ((List ((ByteArray × (Int × (Int × ((Int × (Int × Int)) × (Int × (Int × (Int × (Int × (Int × Int))))))))))))) := mk_Slider.p0.round s.1 s.2.1 s.2.2.1 s.2.2.2
noncomputable def mk_Slider.p0.inS : Shape := ⟨[(0, .lf (.sc (.int .i64))), (1, .lf (.sc (.int .i64))), (4, .lf (.bp 0 0)), (5, .lf (.bp 1 0)), (6, .lf (.sc (.int .i64)))], [.box [.cst (.slice none 0 0), .cst (.slice none 0 0)], .box [.own 2, .cst (.slice none 0 0)], .row 84 tyJ]⟩
noncomputable def mk_Slider.p0.w0 : Way := { ex := (.ex 0), S := ⟨[(4, .lf (.bp 0 0)), (5, .lf (.bp 1 0))], [.box [.cst (.slice none 0 0), .cst (.slice none 0 0)], .box [.own 2, .cst (.slice none 0 0)], .row 84 tyJ]⟩, R := List ((ByteArray × (Int × (Int × ((Int × (Int × Int)) × (Int × (Int × (Int × (Int × (Int × Int)))))))))), post := fun r => (((), ((), ())), (((), ((), ())), (((), ((), ())), (r, ())))), un := fun x => x.2.2.2.1 }
noncomputable def mk_Slider.p0.outs : List Way := [mk_Slider.p0.w0]
noncomputable def mk_Slider.p0.un (x : Tup mk_Slider.p0.inS) : Int × Int × Int × List ((ByteArray × (Int × (Int × ((Int × (Int × Int)) × (Int × (Int × (Int × (Int × (Int × Int)))))))))) := (x.1.1, x.1.2.1, x.1.2.2.2.2.1, x.2.2.2.1)
noncomputable def mk_Slider.p0.lp : LProc := { inS := mk_Slider.p0.inS, outs := mk_Slider.p0.outs, F := fun x => loopF mk_Slider.p0.step (mk_Slider.p0.un x) }
noncomputable def mk_Slider.F0 (a0 : Int) (a1 : Int) : Option (List ((ByteArray × (Int × (Int × ((Int × (Int × Int)) × (Int × (Int × (Int × (Int × (Int × Int)))))))))) × List ((Int × (Int × (Int × (Int × Int)))))) :=
  ((loopF mk_Slider.p0.step (a0, a1, (0 : Int), ([] : List ((ByteArray × (Int × (Int × ((Int × (Int × Int)) × (Int × (Int × (Int × (Int × (Int × Int))))))))))))).bind fun y4 => some (y4, ([] : List ((Int × (Int × (Int × (Int × Int))))))))
noncomputable def mk_Slider.F : Int → Int → Option (List ((ByteArray × (Int × (Int × ((Int × (Int × Int)) × (Int × (Int × (Int × (Int × (Int × Int)))))))))) × List ((Int × (Int × (Int × (Int × Int)))))) := lock mk_Slider.F0
theorem mk_Slider.F_eq : mk_Slider.F = mk_Slider.F0 := lock_eq _
noncomputable def mk_Slider.p : Proc := { nargs := 2, inS := ⟨[(0, .lf (.sc (.int .i64))), (1, .lf (.sc (.int .i64)))], []⟩, outS := ⟨[(0, .ag [.dat tyJ, .dat tyM])], []⟩, n0 := 0, R := List ((ByteArray × (Int × (Int × ((Int × (Int × Int)) × (Int × (Int × (Int × (Int × (Int × Int)))))))))) × List ((Int × (Int × (Int × (Int × Int))))), F := fun x => mk_Slider.F x.1.1 x.1.2.1, post := fun r => (((r.1, (r.2, ())), ()), ()), un := fun x => (x.1.1.1, x.1.1.2.1) }
noncomputable def mk_Slider.E : Env := { P := Try.prog, ty := tyTab [(84, tyJ), (110, tyM)], glob := glob0, proc := procTab [(62, mk_letter.p)], lproc := lprocTab [(0, mk_Slider.p0.lp)], n0 := 0, ntmps := 27 }
theorem mk_Slider.ok : ProcsOk mk_Slider.E := AllSound.ok (l := [(62, mk_letter.p)]) (by kernel_rfl) rfl ⟨mk_letter.sound, trivial⟩
noncomputable def mk_Slider.body0 : Code := (match Try.f30.body with | some c => c | none => .skip)
noncomputable def mk_Slider.p0.c : Code := ((codeAt mk_Slider.body0 [.r, .r, .l, .r, .b, .b]).getD .skip)
noncomputable def mk_Slider.p0.ann : Ann := .z
theorem mk_Slider.p0.eq (x : Tup mk_Slider.p0.inS) : peRound mk_Slider.E mk_Slider.p0.c mk_Slider.p0.ann _ mk_Slider.p0.inS mk_Slider.p0.un mk_Slider.p0.outs x = mk_Slider.p0.step (mk_Slider.p0.un x) := by
  kernel_rfl
theorem mk_Slider.p0.sound : LProcSound mk_Slider.E (.loop mk_Slider.p0.c) mk_Slider.p0.lp :=
  loop_sound (c := mk_Slider.p0.c) (ann := mk_Slider.p0.ann) mk_Slider.ok ((SubsOk_z _ _) : SubsOk mk_Slider.E mk_Slider.p0.c mk_Slider.p0.ann) (by intro a ha; simp only [mk_Slider.p0.outs, List.mem_cons, List.not_mem_nil, or_false] at ha; rcases ha with rfl <;> exact fun _ => rfl) mk_Slider.p0.eq
noncomputable def mk_Slider.ann : Ann := .s (.z) (.s (.z) (.s (.s (.z) (.b (.sub 0))) (.z)))
theorem mk_Slider.eq (x : Tup mk_Slider.p.inS) : peFn mk_Slider.E Try.f30 mk_Slider.ann mk_Slider.p x = mk_Slider.p.F x := by
  have h : peFn mk_Slider.E Try.f30 mk_Slider.ann mk_Slider.p x = mk_Slider.F0 x.1.1 x.1.2.1 := by kernel_rfl
  exact h.trans (by show _ = mk_Slider.F x.1.1 x.1.2.1; rw [mk_Slider.F_eq])
theorem mk_Slider.sound : ProcSound Try.prog glob0 30 mk_Slider.p :=
  fn_sound (E := mk_Slider.E) (c := mk_Slider.body0) (ann := mk_Slider.ann) mk_Slider.ok Try.func30 (of_decide_eq_true (by kernel_rfl)) rfl rfl rfl (by decide +kernel) (⟨(SubsOk_z _ _), ⟨(SubsOk_z _ _), ⟨⟨(SubsOk_z _ _), (sub_of rfl mk_Slider.p0.sound)⟩, (SubsOk_z _ _)⟩⟩⟩ : SubsOk mk_Slider.E mk_Slider.body0 mk_Slider.ann) (fun _ => rfl) rfl mk_Slider.eq

noncomputable def mk_Track.p0.round (v0 : Int) (v1 : List (Int)) (v2 : Int) (v3 : List ((ByteArray × (Int × (Int × ((Int × (Int × Int)) × (Int × (Int × (Int × (Int × (Int × Int))))))))))) (v4 : List ((Int × (Int × (Int × (Int × Int)))))) (v5 : List ((Int × (Int × List ((Int × (Int × Int))))))) : Option ((Int × List (Int) × Int × List ((ByteArray × (Int × (Int × ((Int × (Int × Int)) × (Int × (Int × (Int × (Int × (Int × Int)))))))))) × List ((Int × (Int × (Int × (Int × Int))))) × List ((Int × (Int × List ((Int × (Int × Int))))))) ⊕ ((List ((ByteArray × (Int × (Int × ((Int × (Int × Int)) × (Int × (Int × (Int × (Int × (Int × Int)))))))))) × List ((Int × (Int × (Int × (Int × Int))))) × List ((Int × (Int × List ((Int × (Int × Int))))))))) :=
  (bif decide (v0 > (0 : Int)) then ((mk_Source_Next.F (65 : Int) v1 v2).bind fun r11 => ((mk_Source_Next.F (65 : Int) r11.2.1 r11.2.2).bind fun r12 => ((mk_Source_Next.F (3 : Int) r12.2.1 r12.2.2).bind fun r13 => (bif (r13.1 == (0 : Int)) then ((mk_Source_Next.F (9 : Int) r13.2.1 r13.2.2).bind fun r14 => (bif decide (v5.length + ([((-1 : Int), ((IntKind.wrap .i64 ((2 : Int) + r14.1)), ([(r11.1, ((-9 : Int), (0 : Int))), (r11.1, ((80 : Int), (0 : Int)))] : List ((Int × (Int × Int))))))] : List ((Int × (Int × List ((Int × (Int × Int))))))).length < 3518437208883) then some (.inl ((IntKind.wrap .i64 (v0 - (1 : Int))), r14.2.1, r14.2.2, v3, v4, (v5 ++ ([((-1 : Int), ((IntKind.wrap .i64 ((2 : Int) + r14.1)), ([(r11.1, ((-9 : Int), (0 : Int))), (r11.1, ((80 : Int), (0 : Int)))] : List ((Int × (Int × Int))))))] : List ((Int × (Int × List ((Int × (Int × Int)))))))))) else none)) else ((mk_Source_Next.F (9 : Int) r13.2.1 r13.2.2).bind fun r15 => (bif decide (v5.length + ([((-1 : Int), ((IntKind.wrap .i64 ((2 : Int) + r15.1)), ([(r11.1, (r12.1, (0 : Int)))] : List ((Int × (Int × Int))))))] : List ((Int × (Int × List ((Int × (Int × Int))))))).length < 3518437208883) then some (.inl ((IntKind.wrap .i64 (v0 - (1 : Int))), r15.2.1, r15.2.2, v3, v4, (v5 ++ ([((-1 : Int), ((IntKind.wrap .i64 ((2 : Int) + r15.1)), ([(r11.1, (r12.1, (0 : Int)))] : List ((Int × (Int × Int))))))] : List ((Int × (Int × List ((Int × (Int × Int)))))))))) else none)))))) else some (.inr (v3, v4, v5)))
noncomputable def mk_Track.p0.step (s : Int × List (Int) × Int × List ((ByteArray × (Int × (Int × ((Int × (Int × Int)) × (Int × (Int × (Int × (Int × (Int × Int)))))))))) × List ((Int × (Int × (Int × (Int × Int))))) × List ((Int × (Int × List ((Int × (Int × Int))))))) : Option ((Int × List (Int) × Int × List ((ByteArray × (Int × (Int × ((Int × (Int × Int)) × (Int × (Int × (Int × (Int × (Int × Int)))))))))) × List ((Int × (Int × (Int × (Int × Int))))) × List ((Int × (Int × List ((Int × (Int × Int))))))) ⊕ ((List ((ByteArray × (Int × (Int × ((Int × (Int × Int)) × (Int × (Int × (Int × (Int × (Int × Int)))))))))) × List ((Int × (Int × (Int × (Int × Int))))) × List ((Int × (Int × List ((Int × (Int × Int))))))))) := mk_Track.p0.round s.1 s.2.1 s.2.2.1 s.2.2.2.1 s.2.2.2.2.1 s.2.2.2.2.2
noncomputable def mk_Track.p0.inS : Shape := ⟨[(2, .lf (.bp 0 0)), (3, .lf (.bp 1 0)), (5, .lf (.bp 2 0)), (6, .lf (.sc (.int .i64)))], [.box [.cst (.slice none 0 0), .cst (.slice none 0 0), .cst (.slice none 0 0), .cst (.slice none 0 0)], .box [.dat (.int .i64), .sc (.int .i64)], .box [.dat tyJ, .dat tyM, .own 3, .cst (.slice none 0 0)], .row 82 tyS]⟩
noncomputable def mk_Track.p0.w0 : Way := { ex := (.ex 0), S := ⟨[(2, .lf (.bp 0 0)), (5, .lf (.bp 1 0))], [.box [.cst (.slice none 0 0), .cst (.slice none 0 0), .cst (.slice none 0 0), .cst (.slice none 0 0)], .box [.dat tyJ, .dat tyM, .own 2, .cst (.slice none 0 0)], .row 82 tyS]⟩, R := List ((ByteArray × (Int × (Int × ((Int × (Int × Int)) × (Int × (Int × (Int × (Int × (Int × Int)))))))))) × List ((Int × (Int × (Int × (Int × Int))))) × List ((Int × (Int × List ((Int × (Int × Int)))))), post := fun r => (((), ((), ())), (((), ((), ((), ((), ())))), ((r.1, (r.2.1, ((), ((), ())))), (r.2.2, ())))), un := fun x => (x.2.2.1.1, x.2.2.1.2.1, x.2.2.2.1) }
noncomputable def mk_Track.p0.outs : List Way := [mk_Track.p0.w0]
noncomputable def mk_Track.p0.un (x : Tup mk_Track.p0.inS) : Int × List (Int) × Int × List ((ByteArray × (Int × (Int × ((Int × (Int × Int)) × (Int × (Int × (Int × (Int × (Int × Int)))))))))) × List ((Int × (Int × (Int × (Int × Int))))) × List ((Int × (Int × List ((Int × (Int × Int)))))) := (x.1.2.2.2.1, x.2.2.1.1, x.2.2.1.2.1, x.2.2.2.1.1, x.2.2.2.1.2.1, x.2.2.2.2.1)
noncomputable def mk_Track.p0.lp : LProc := { inS := mk_Track.p0.inS, outs := mk_Track.p0.outs, F := fun x => loopF mk_Track.p0.step (mk_Track.p0.un x) }
noncomputable def mk_Track.F0 (a0 : List (Int)) : Option (List ((ByteArray × (Int × (Int × ((Int × (Int × Int)) × (Int × (Int × (Int × (Int × (Int × Int)))))))))) × List ((Int × (Int × (Int × (Int × Int))))) × List ((Int × (Int × List ((Int × (Int × Int)))))) × List ((Int × Int))) :=
  ((mk_From.F a0).bind fun r1 => ((mk_Source_Next.F (2 : Int) r1.1 r1.2).bind fun r2 => ((mk_Slider.F (IntKind.wrap .i64 ((1 : Int) + r2.1)) (64 : Int)).bind fun r3 => ((mk_Source_Next.F (4 : Int) r2.2.1 r2.2.2).bind fun r4 => (bif decide (([((IntKind.wrap .i64 ((IntKind.wrap .i64 ((1 : Int) + r2.1)) - (1 : Int))), ((IntKind.wrap .i64 ((1 : Int) + r4.1)), ([((0 : Int), ((0 : Int), (0 : Int)))] : List ((Int × (Int × Int))))))] : List ((Int × (Int × List ((Int × (Int × Int))))))).length < 3518437208883) then ((mk_Source_Next.F (4 : Int) r4.2.1 r4.2.2).bind fun r5 => ((loopF mk_Track.p0.step (r5.1, r5.2.1, r5.2.2, r3.1, r3.2, ([((IntKind.wrap .i64 ((IntKind.wrap .i64 ((1 : Int) + r2.1)) - (1 : Int))), ((IntKind.wrap .i64 ((1 : Int) + r4.1)), ([((0 : Int), ((0 : Int), (0 : Int)))] : List ((Int × (Int × Int))))))] : List ((Int × (Int × List ((Int × (Int × Int))))))))).bind fun y16 => some (y16.1, y16.2.1, y16.2.2, ([] : List ((Int × Int)))))) else none)))))
noncomputable def mk_Track.F : (List (Int)) → Option (List ((ByteArray × (Int × (Int × ((Int × (Int × Int)) × (Int × (Int × (Int × (Int × (Int × Int)))))))))) × List ((Int × (Int × (Int × (Int × Int))))) × List ((Int × (Int × List ((Int × (Int × Int)))))) × List ((Int × Int))) := lock mk_Track.F0
theorem mk_Track.F_eq : mk_Track.F = mk_Track.F0 := lock_eq _
noncomputable def mk_Track.p : Proc := { nargs := 1, inS := ⟨[(0, .lf (.dat (.int .i64)))], []⟩, outS := ⟨[(0, .ag [.dat tyJ, .dat tyM, .dat tyS, .dat tyK])], []⟩, n0 := 0, R := List ((ByteArray × (Int × (Int × ((Int × (Int × Int)) × (Int × (Int × (Int × (Int × (Int × Int)))))))))) × List ((Int × (Int × (Int × (Int × Int))))) × List ((Int × (Int × List ((Int × (Int × Int)))))) × List ((Int × Int)), F := fun x => mk_Track.F x.1.1, post := fun r => (((r.1, (r.2.1, (r.2.2.1, (r.2.2.2, ())))), ()), ()), un := fun x => (x.1.1.1, x.1.1.2.1, x.1.1.2.2.1, x.1.1.2.2.2.1) }
noncomputable def mk_Track.E : Env := { P := Try.prog, ty := tyTab [(31, tyV), (82, tyS), (84, tyJ), (110, tyM), (112, tyK)], glob := glob0, proc := procTab [(31, mk_From.p), (32, mk_Source_Next.p), (30, mk_Slider.p)], lproc := lprocTab [(0, mk_Track.p0.lp)], n0 := 0, ntmps := 62 }
theorem mk_Track.ok : ProcsOk mk_Track.E := AllSound.ok (l := [(31, mk_From.p), (32, mk_Source_Next.p), (30, mk_Slider.p)]) (by kernel_rfl) rfl ⟨mk_From.sound, mk_Source_Next.sound, mk_Slider.sound, trivial⟩
noncomputable def mk_Track.body0 : Code := (match Try.f34.body with | some c => c | none => .skip)
noncomputable def mk_Track.p0.c : Code := ((codeAt mk_Track.body0 [.r, .r, .r, .r, .r, .l, .r, .b, .b]).getD .skip)
noncomputable def mk_Track.p0.ann : Ann := .z
theorem mk_Track.p0.eq (x : Tup mk_Track.p0.inS) : peRound mk_Track.E mk_Track.p0.c mk_Track.p0.ann _ mk_Track.p0.inS mk_Track.p0.un mk_Track.p0.outs x = mk_Track.p0.step (mk_Track.p0.un x) := by
  kernel_rfl
theorem mk_Track.p0.sound : LProcSound mk_Track.E (.loop mk_Track.p0.c) mk_Track.p0.lp :=
  loop_sound (c := mk_Track.p0.c) (ann := mk_Track.p0.ann) mk_Track.ok ((SubsOk_z _ _) : SubsOk mk_Track.E mk_Track.p0.c mk_Track.p0.ann) (by intro a ha; simp only [mk_Track.p0.outs, List.mem_cons, List.not_mem_nil, or_false] at ha; rcases ha with rfl <;> exact fun _ => rfl) mk_Track.p0.eq
noncomputable def mk_Track.ann : Ann := .s (.z) (.s (.z) (.s (.z) (.s (.z) (.s (.z) (.s (.s (.z) (.b (.sub 0))) (.z))))))
theorem mk_Track.eq (x : Tup mk_Track.p.inS) : peFn mk_Track.E Try.f34 mk_Track.ann mk_Track.p x = mk_Track.p.F x := by
  have h : peFn mk_Track.E Try.f34 mk_Track.ann mk_Track.p x = mk_Track.F0 x.1.1 := by kernel_rfl
  exact h.trans (by show _ = mk_Track.F x.1.1; rw [mk_Track.F_eq])
theorem mk_Track.sound : ProcSound Try.prog glob0 34 mk_Track.p :=
  fn_sound (E := mk_Track.E) (c := mk_Track.body0) (ann := mk_Track.ann) mk_Track.ok Try.func34 (of_decide_eq_true (by kernel_rfl)) rfl rfl rfl (by decide +kernel) (⟨(SubsOk_z _ _), ⟨(SubsOk_z _ _), ⟨(SubsOk_z _ _), ⟨(SubsOk_z _ _), ⟨(SubsOk_z _ _), ⟨⟨(SubsOk_z _ _), (sub_of rfl mk_Track.p0.sound)⟩, (SubsOk_z _ _)⟩⟩⟩⟩⟩⟩ : SubsOk mk_Track.E mk_Track.body0 mk_Track.ann) (fun _ => rfl) rfl mk_Track.eq

noncomputable def team_part_int64.p0.round (v0 : List (((List ((ByteArray × (Int × (Int × ((Int × (Int × Int)) × (Int × (Int × (Int × (Int × (Int × Int)))))))))) × List ((Int × (Int × (Int × (Int × Int)))))) × (List ((Int × (Int × List ((Int × (Int × Int)))))) × List ((Int × Int)))))) (v1 : List (Int)) (v2 : Int) (v3 : Int) (v4 : Int) (v5 : Int) (v6 : List (((List ((ByteArray × (Int × (Int × ((Int × (Int × Int)) × (Int × (Int × (Int × (Int × (Int × Int)))))))))) × List ((Int × (Int × (Int × (Int × Int)))))) × (List ((Int × (Int × List ((Int × (Int × Int)))))) × List ((Int × Int)))))) (v7 : Int) (v8 : Int) : Option ((List (((List ((ByteArray × (Int × (Int × ((Int × (Int × Int)) × (Int × (Int × (Int × (Int × (Int × Int)))))))))) × List ((Int × (Int × (Int × (Int × Int)))))) × (List ((Int × (Int × List ((Int × (Int × Int)))))) × List ((Int × Int))))) × List (Int) × Int × Int × Int × Int × List (((List ((ByteArray × (Int × (Int × ((Int × (Int × Int)) × (Int × (Int × (Int × (Int × (Int × Int)))))))))) × List ((Int × (Int × (Int × (Int × Int)))))) × (List ((Int × (Int × List ((Int × (Int × Int)))))) × List ((Int × Int))))) × Int × Int) ⊕ ((List (((List ((ByteArray × (Int × (Int × ((Int × (Int × Int)) × (Int × (Int × (Int × (Int × (Int × Int)))))))))) × List ((Int × (Int × (Int × (Int × Int)))))) × (List ((Int × (Int × List ((Int × (Int × Int)))))) × List ((Int × Int))))) × List (Int) × Int × Int × Int × Int))) :=
  (bif decide (v8 < v7) then (bif decide (0 ≤ v8) then (bif decide (v8 < (v6.length : Int)) then (bif (v8 == v2) then some (.inl (v0, v1, v2, v5, (IntKind.wrap .i64 (v5 + ((((v6.getD v8.toNat ((([] : List ((ByteArray × (Int × (Int × ((Int × (Int × Int)) × (Int × (Int × (Int × (Int × (Int × Int))))))))))), ([] : List ((Int × (Int × (Int × (Int × Int))))))), (([] : List ((Int × (Int × List ((Int × (Int × Int))))))), ([] : List ((Int × Int)))))).1).1).length : Int))), (IntKind.wrap .i64 (v5 + ((((v6.getD v8.toNat ((([] : List ((ByteArray × (Int × (Int × ((Int × (Int × Int)) × (Int × (Int × (Int × (Int × (Int × Int))))))))))), ([] : List ((Int × (Int × (Int × (Int × Int))))))), (([] : List ((Int × (Int × List ((Int × (Int × Int))))))), ([] : List ((Int × Int)))))).1).1).length : Int))), v6, v7, (IntKind.wrap .i64 (v8 + (1 : Int))))) else some (.inl (v0, v1, v2, v3, v4, (IntKind.wrap .i64 (v5 + ((((v6.getD v8.toNat ((([] : List ((ByteArray × (Int × (Int × ((Int × (Int × Int)) × (Int × (Int × (Int × (Int × (Int × Int))))))))))), ([] : List ((Int × (Int × (Int × (Int × Int))))))), (([] : List ((Int × (Int × List ((Int × (Int × Int))))))), ([] : List ((Int × Int)))))).1).1).length : Int))), v6, v7, (IntKind.wrap .i64 (v8 + (1 : Int)))))) else none) else none) else some (.inr (v0, v1, v2, v3, v4, v5)))
noncomputable def team_part_int64.p0.step (s : List (((List ((ByteArray × (Int × (Int × ((Int × (Int × Int)) × (Int × (Int × (Int × (Int × (Int × Int)))))))))) × List ((Int × (Int × (Int × (Int × Int)))))) × (List ((Int × (Int × List ((Int × (Int × Int)))))) × List ((Int × Int))))) × List (Int) × Int × Int × Int × Int × List (((List ((ByteArray × (Int × (Int × ((Int × (Int × Int)) × (Int × (Int × (Int × (Int × (Int × Int)))))))))) × List ((Int × (Int × (Int × (Int × Int)))))) × (List ((Int × (Int × List ((Int × (Int × Int)))))) × List ((Int × Int))))) × Int × Int) : Option ((List (((List ((ByteArray × (Int × (Int × ((Int × (Int × Int)) × (Int × (Int × (Int × (Int × (Int × Int)))))))))) × List ((Int × (Int × (Int × (Int × Int)))))) × (List ((Int × (Int × List ((Int × (Int × Int)))))) × List ((Int × Int))))) × List (Int) × Int × Int × Int × Int × List (((List ((ByteArray × (Int × (Int × ((Int × (Int × Int)) × (Int × (Int × (Int × (Int × (Int × Int)))))))))) × List ((Int × (Int × (Int × (Int × Int)))))) × (List ((Int × (Int × List ((Int × (Int × Int)))))) × List ((Int × Int))))) × Int × Int) ⊕ ((List (((List ((ByteArray × (Int × (Int × ((Int × (Int × Int)) × (Int × (Int × (Int × (Int × (Int × Int)))))))))) × List ((Int × (Int × (Int × (Int × Int)))))) × (List ((Int × (Int × List ((Int × (Int × Int)))))) × List ((Int × Int))))) × List (Int) × Int × Int × Int × Int))) := team_part_int64.p0.round s.1 s.2.1 s.2.2.1 s.2.2.2.1 s.2.2.2.2.1 s.2.2.2.2.2.1 s.2.2.2.2.2.2.1 s.2.2.2.2.2.2.2.1 s.2.2.2.2.2.2.2.2
noncomputable def team_part_int64.p0.inS : Shape := ⟨[(0, .lf (.dat (.pair (.pair (.slc tyJ) (.slc tyM)) (.pair (.slc tyS) (.slc tyK))))), (1, .lf (.dat (.int .i64))), (2, .lf (.sc (.int .i64))), (8, .lf (.sc (.int .i64))), (9, .lf (.sc (.int .i64))), (10, .lf (.sc (.int .i64))), (13, .lf (.dat (.pair (.pair (.slc tyJ) (.slc tyM)) (.pair (.slc tyS) (.slc tyK))))), (14, .lf (.sc (.int .i64))), (15, .lf (.sc (.int .i64)))], []⟩
noncomputable def team_part_int64.p0.w0 : Way := { ex := (.ex 0), S := ⟨[(0, .lf (.dat (.pair (.pair (.slc tyJ) (.slc tyM)) (.pair (.slc tyS) (.slc tyK))))), (1, .lf (.dat (.int .i64))), (2, .lf (.sc (.int .i64))), (8, .lf (.sc (.int .i64))), (9, .lf (.sc (.int .i64))), (10, .lf (.sc (.int .i64)))], []⟩, R := List (((List ((ByteArray × (Int × (Int × ((Int × (Int × Int)) × (Int × (Int × (Int × (Int × (Int × Int)))))))))) × List ((Int × (Int × (Int × (Int × Int)))))) × (List ((Int × (Int × List ((Int × (Int × Int)))))) × List ((Int × Int))))) × List (Int) × Int × Int × Int × Int, post := fun r => ((r.1, (r.2.1, (r.2.2.1, (r.2.2.2.1, (r.2.2.2.2.1, (r.2.2.2.2.2, ())))))), ()), un := fun x => (x.1.1, x.1.2.1, x.1.2.2.1, x.1.2.2.2.1, x.1.2.2.2.2.1, x.1.2.2.2.2.2.1) }
noncomputable def team_part_int64.p0.outs : List Way := [team_part_int64.p0.w0]
noncomputable def team_part_int64.p0.un (x : Tup team_part_int64.p0.inS) : List (((List ((ByteArray × (Int × (Int × ((Int × (Int × Int)) × (Int × (Int × (Int × (Int × (Int × Int)))))))))) × List ((Int × (Int × (Int × (Int × Int)))))) × (List ((Int × (Int × List ((Int × (Int × Int)))))) × List ((Int × Int))))) × List (Int) × Int × Int × Int × Int × List (((List ((ByteArray × (Int × (Int × ((Int × (Int × Int)) × (Int × (Int × (Int × (Int × (Int × Int)))))))))) × List ((Int × (Int × (Int × (Int × Int)))))) × (List ((Int × (Int × List ((Int × (Int × Int)))))) × List ((Int × Int))))) × Int × Int := (x.1.1, x.1.2.1, x.1.2.2.1, x.1.2.2.2.1, x.1.2.2.2.2.1, x.1.2.2.2.2.2.1, x.1.2.2.2.2.2.2.1, x.1.2.2.2.2.2.2.2.1, x.1.2.2.2.2.2.2.2.2.1)
noncomputable def team_part_int64.p0.lp : LProc := { inS := team_part_int64.p0.inS, outs := team_part_int64.p0.outs, F := fun x => loopF team_part_int64.p0.step (team_part_int64.p0.un x) }
noncomputable def team_part_int64.F0 (a0 : List (((List ((ByteArray × (Int × (Int × ((Int × (Int × Int)) × (Int × (Int × (Int × (Int × (Int × Int)))))))))) × List ((Int × (Int × (Int × (Int × Int)))))) × (List ((Int × (Int × List ((Int × (Int × Int)))))) × List ((Int × Int)))))) (a1 : List (Int)) (a2 : Int) : Option (Bool × List (Int)) :=
  ((loopF team_part_int64.p0.step (a0, a1, a2, (0 : Int), (0 : Int), (0 : Int), a0, (a0.length : Int), (0 : Int))).bind fun y1 => (bif decide (y1.2.2.1 < (0 : Int)) then some (false, ([] : List (Int))) else (bif decide (y1.2.2.1 ≥ (y1.1.length : Int)) then some (false, ([] : List (Int))) else (bif ((y1.2.1.length : Int) != y1.2.2.2.2.2) then some (false, ([] : List (Int))) else (bif decide (0 ≤ y1.2.2.2.1) then (bif decide (y1.2.2.2.1 ≤ y1.2.2.2.2.1) then (bif decide (y1.2.2.2.2.1 ≤ (y1.2.1.length : Int)) then ((slices_Clone_int64.F ((y1.2.1.take y1.2.2.2.2.1.toNat).drop y1.2.2.2.1.toNat)).bind fun r2 => some (true, r2)) else none) else none) else none)))))
noncomputable def team_part_int64.F : (List (((List ((ByteArray × (Int × (Int × ((Int × (Int × Int)) × (Int × (Int × (Int × (Int × (Int × Int)))))))))) × List ((Int × (Int × (Int × (Int × Int)))))) × (List ((Int × (Int × List ((Int × (Int × Int)))))) × List ((Int × Int)))))) → (List (Int)) → Int → Option (Bool × List (Int)) := lock team_part_int64.F0
theorem team_part_int64.F_eq : team_part_int64.F = team_part_int64.F0 := lock_eq _
noncomputable def team_part_int64.p : Proc := { nargs := 3, inS := ⟨[(0, .lf (.dat (.pair (.pair (.slc tyJ) (.slc tyM)) (.pair (.slc tyS) (.slc tyK))))), (1, .lf (.dat (.int .i64))), (2, .lf (.sc (.int .i64)))], []⟩, outS := ⟨[(0, .lf (.own 0)), (1, .lf (.sc .bool))], [.row 2 (.int .i64)]⟩, n0 := 0, R := Bool × List (Int), F := fun x => team_part_int64.F x.1.1 x.1.2.1 x.1.2.2.1, post := fun r => (((), (r.1, ())), (r.2, ())), un := fun x => (x.1.2.1, x.2.1) }
noncomputable def team_part_int64.E : Env := { P := Try.prog, ty := tyTab [], glob := glob0, proc := procTab [(87, slices_Clone_int64.p)], lproc := lprocTab [(0, team_part_int64.p0.lp)], n0 := 0, ntmps := 56 }
theorem team_part_int64.ok : ProcsOk team_part_int64.E := AllSound.ok (l := [(87, slices_Clone_int64.p)]) (by kernel_rfl) rfl ⟨slices_Clone_int64.sound, trivial⟩
noncomputable def team_part_int64.body0 : Code := (match Try.f45.body with | some c => c | none => .skip)
noncomputable def team_part_int64.p0.c : Code := ((codeAt team_part_int64.body0 [.r, .r, .l, .r, .b, .b]).getD .skip)
noncomputable def team_part_int64.p0.ann : Ann := .z
theorem team_part_int64.p0.eq (x : Tup team_part_int64.p0.inS) : peRound team_part_int64.E team_part_int64.p0.c team_part_int64.p0.ann _ team_part_int64.p0.inS team_part_int64.p0.un team_part_int64.p0.outs x = team_part_int64.p0.step (team_part_int64.p0.un x) := by
  kernel_rfl
theorem team_part_int64.p0.sound : LProcSound team_part_int64.E (.loop team_part_int64.p0.c) team_part_int64.p0.lp :=
  loop_sound (c := team_part_int64.p0.c) (ann := team_part_int64.p0.ann) team_part_int64.ok ((SubsOk_z _ _) : SubsOk team_part_int64.E team_part_int64.p0.c team_part_int64.p0.ann) (by intro a ha; simp only [team_part_int64.p0.outs, List.mem_cons, List.not_mem_nil, or_false] at ha; rcases ha with rfl <;> exact fun _ => rfl) team_part_int64.p0.eq
noncomputable def team_part_int64.ann : Ann := .s (.z) (.s (.z) (.s (.s (.z) (.b (.sub 0))) (.z)))
theorem team_part_int64.eq (x : Tup team_part_int64.p.inS) : peFn team_part_int64.E Try.f45 team_part_int64.ann team_part_int64.p x = team_part_int64.p.F x := by
  have h : peFn team_part_int64.E Try.f45 team_part_int64.ann team_part_int64.p x = team_part_int64.F0 x.1.1 x.1.2.1 x.1.2.2.1 := by kernel_rfl
  exact h.trans (by show _ = team_part_int64.F x.1.1 x.1.2.1 x.1.2.2.1; rw [team_part_int64.F_eq])
theorem team_part_int64.sound : ProcSound Try.prog glob0 45 team_part_int64.p :=
  fn_sound (E := team_part_int64.E) (c := team_part_int64.body0) (ann := team_part_int64.ann) team_part_int64.ok Try.func45 (of_decide_eq_true (by kernel_rfl)) rfl rfl rfl (by decide +kernel) (⟨(SubsOk_z _ _), ⟨(SubsOk_z _ _), ⟨⟨(SubsOk_z _ _), (sub_of rfl team_part_int64.p0.sound)⟩, (SubsOk_z _ _)⟩⟩⟩ : SubsOk team_part_int64.E team_part_int64.body0 team_part_int64.ann) (fun _ => rfl) rfl team_part_int64.eq

end Go.Abs
