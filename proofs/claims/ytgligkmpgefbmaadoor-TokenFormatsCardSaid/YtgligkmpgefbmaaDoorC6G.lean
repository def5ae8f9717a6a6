/- A part of the proof that the text with the row names: printed readings of functions, or plain lemmas about them. -/
import Derived.Test.YtgligkmpgefbmaaDoorC6GX
import Derived.KernelRfl
set_option linter.unusedVariables false
set_option linter.unusedSimpArgs false
namespace Go.Abs
open Go Go.Proofs

/-! ### armplan/armplanlaw6.typical: function 12 -/
noncomputable def armplanlaw6_typical.p0.round (v0 : List (Int)) (v1 : ByteArray) (v2 : Int) : Option ((List (Int) × ByteArray × Int) ⊕ ((ByteArray))) :=
  (bif decide (v2 < (v0.length : Int)) then (bif decide (v2 < (80 : Int)) then (bif decide (0 ≤ v2) then (bif decide (v2 < (v0.length : Int)) then (bif decide (0 ≤ ((v0.getD v2.toNat (0 : Int)).tmod (16 : Int))) then (bif decide (((v0.getD v2.toNat (0 : Int)).tmod (16 : Int)) < (16 : Int)) then (bif (catOk v1 (([(⟨#[106, 111, 105, 110, 116]⟩ : ByteArray), (⟨#[97]⟩ : ByteArray), (⟨#[45, 49, 46, 53]⟩ : ByteArray), (⟨#[32]⟩ : ByteArray), (⟨#[32]⟩ : ByteArray), (⟨#[10]⟩ : ByteArray), (⟨#[9]⟩ : ByteArray), (⟨#[35]⟩ : ByteArray), (⟨#[120, 35, 121]⟩ : ByteArray), (⟨#[119, 111, 114, 108, 100]⟩ : ByteArray), (⟨#[48, 46, 50, 53]⟩ : ByteArray), (⟨#[10, 10]⟩ : ByteArray), (⟨#[32, 32]⟩ : ByteArray), (⟨#[115, 104, 97, 112, 101, 32, 98, 32, 49]⟩ : ByteArray), (⟨#[127]⟩ : ByteArray), (⟨#[126]⟩ : ByteArray)] : List ByteArray).getD ((v0.getD v2.toNat (0 : Int)).tmod (16 : Int)).toNat (⟨#[]⟩ : ByteArray))) then some (.inl (v0, (v1 ++ (([(⟨#[106, 111, 105, 110, 116]⟩ : ByteArray), (⟨#[97]⟩ : ByteArray), (⟨#[45, 49, 46, 53]⟩ : ByteArray), (⟨#[32]⟩ : ByteArray), (⟨#[32]⟩ : ByteArray), (⟨#[10]⟩ : ByteArray), (⟨#[9]⟩ : ByteArray), (⟨#[35]⟩ : ByteArray), (⟨#[120, 35, 121]⟩ : ByteArray), (⟨#[119, 111, 114, 108, 100]⟩ : ByteArray), (⟨#[48, 46, 50, 53]⟩ : ByteArray), (⟨#[10, 10]⟩ : ByteArray), (⟨#[32, 32]⟩ : ByteArray), (⟨#[115, 104, 97, 112, 101, 32, 98, 32, 49]⟩ : ByteArray), (⟨#[127]⟩ : ByteArray), (⟨#[126]⟩ : ByteArray)] : List ByteArray).getD ((v0.getD v2.toNat (0 : Int)).tmod (16 : Int)).toNat (⟨#[]⟩ : ByteArray))), (IntKind.wrap .i64 (v2 + (1 : Int))))) else none) else none) else none) else none) else none) else some (.inr v1)) else some (.inr v1))
noncomputable def armplanlaw6_typical.p0.step (s : List (Int) × ByteArray × Int) : Option ((List (Int) × ByteArray × Int) ⊕ ((ByteArray))) := armplanlaw6_typical.p0.round s.1 s.2.1 s.2.2
noncomputable def armplanlaw6_typical.p0.inS : Shape := ⟨[(0, .lf (.dat (.int .u8))), (3, .lf (.sc .str)), (4, .lf (.sc (.int .i64)))], []⟩
noncomputable def armplanlaw6_typical.p0.w0 : Way := { ex := (.ex 0), S := ⟨[(3, .lf (.sc .str))], []⟩, R := ByteArray, post := fun r => ((r, ()), ()), un := fun x => x.1.1 }
noncomputable def armplanlaw6_typical.p0.outs : List Way := [armplanlaw6_typical.p0.w0]
noncomputable def armplanlaw6_typical.p0.un (x : Tup armplanlaw6_typical.p0.inS) : List (Int) × ByteArray × Int := (x.1.1, x.1.2.1, x.1.2.2.1)
noncomputable def armplanlaw6_typical.p0.lp : LProc := { inS := armplanlaw6_typical.p0.inS, outs := armplanlaw6_typical.p0.outs, F := fun x => loopF armplanlaw6_typical.p0.step (armplanlaw6_typical.p0.un x) }
noncomputable def armplanlaw6_typical.F0 (a0 : List (Int)) : Option (ByteArray) :=
  ((loopF armplanlaw6_typical.p0.step (a0, (⟨#[]⟩ : ByteArray), (0 : Int))).bind fun y1 => some y1)
noncomputable def armplanlaw6_typical.F : (List (Int)) → Option (ByteArray) := lock armplanlaw6_typical.F0
theorem armplanlaw6_typical.F_eq : armplanlaw6_typical.F = armplanlaw6_typical.F0 := lock_eq _
noncomputable def armplanlaw6_typical.p : Proc := { nargs := 1, inS := ⟨[(0, .lf (.dat (.int .u8)))], []⟩, outS := ⟨[(0, .lf (.sc .str))], []⟩, n0 := 0, R := ByteArray, F := fun x => armplanlaw6_typical.F x.1.1, post := fun r => ((r, ()), ()), un := fun x => x.1.1 }
noncomputable def armplanlaw6_typical.E : Env := { P := Tryd.prog, ty := tyTab [], glob := glob0, proc := procTab [], lproc := lprocTab [(0, armplanlaw6_typical.p0.lp)], n0 := 0, ntmps := 25 }
theorem armplanlaw6_typical.ok : ProcsOk armplanlaw6_typical.E := AllSound.ok (l := []) (by kernel_rfl) rfl trivial
noncomputable def armplanlaw6_typical.body0 : Code := (match Tryd.f12.body with | some c => c | none => .skip)
noncomputable def armplanlaw6_typical.p0.c : Code := ((codeAt armplanlaw6_typical.body0 [.r, .r, .l, .r, .b, .b]).getD .skip)
noncomputable def armplanlaw6_typical.p0.ann : Ann := .z
set_option maxRecDepth 100000 in
theorem armplanlaw6_typical.p0.eq (x : Tup armplanlaw6_typical.p0.inS) : peRound armplanlaw6_typical.E armplanlaw6_typical.p0.c armplanlaw6_typical.p0.ann _ armplanlaw6_typical.p0.inS armplanlaw6_typical.p0.un armplanlaw6_typical.p0.outs x = armplanlaw6_typical.p0.step (armplanlaw6_typical.p0.un x) := by
  kernel_rfl
set_option maxRecDepth 100000 in
theorem armplanlaw6_typical.p0.sound : LProcSound armplanlaw6_typical.E (.loop armplanlaw6_typical.p0.c) armplanlaw6_typical.p0.lp :=
  loop_sound (c := armplanlaw6_typical.p0.c) (ann := armplanlaw6_typical.p0.ann) armplanlaw6_typical.ok ((SubsOk_z _ _) : SubsOk armplanlaw6_typical.E armplanlaw6_typical.p0.c armplanlaw6_typical.p0.ann) (by intro a ha; simp only [armplanlaw6_typical.p0.outs, List.mem_cons, List.not_mem_nil, or_false] at ha; rcases ha with rfl <;> exact fun _ => rfl) armplanlaw6_typical.p0.eq
noncomputable def armplanlaw6_typical.ann : Ann := .s (.z) (.s (.z) (.s (.s (.z) (.b (.sub 0))) (.z)))
set_option maxRecDepth 100000 in
theorem armplanlaw6_typical.eq (x : Tup armplanlaw6_typical.p.inS) : peFn armplanlaw6_typical.E Tryd.f12 armplanlaw6_typical.ann armplanlaw6_typical.p x = armplanlaw6_typical.p.F x := by
  have h : peFn armplanlaw6_typical.E Tryd.f12 armplanlaw6_typical.ann armplanlaw6_typical.p x = armplanlaw6_typical.F0 x.1.1 := by kernel_rfl
  exact h.trans (by show _ = armplanlaw6_typical.F x.1.1; rw [armplanlaw6_typical.F_eq])
set_option maxRecDepth 100000 in
theorem armplanlaw6_typical.sound : ProcSound Tryd.prog glob0 12 armplanlaw6_typical.p :=
  fn_sound (E := armplanlaw6_typical.E) (c := armplanlaw6_typical.body0) (ann := armplanlaw6_typical.ann) armplanlaw6_typical.ok Tryd.func12 (of_decide_eq_true (by kernel_rfl)) rfl rfl rfl (by decide +kernel) (⟨(SubsOk_z _ _), ⟨(SubsOk_z _ _), ⟨⟨(SubsOk_z _ _), (sub_of rfl armplanlaw6_typical.p0.sound)⟩, (SubsOk_z _ _)⟩⟩⟩ : SubsOk armplanlaw6_typical.E armplanlaw6_typical.body0 armplanlaw6_typical.ann) (fun _ => rfl) rfl armplanlaw6_typical.eq

/-! ### armplan/token.Split$1: function 23 -/
noncomputable def token_Split_1.F0 (a0 : Int) (a1 : Int) (a2 : ByteArray) (a3 : Int) (a4 : Int) (a5 : List ((ByteArray × (Int × Int)))) : Option (Int × ByteArray × Int × Int × List ((ByteArray × (Int × Int)))) :=
  (bif decide (a1 ≥ (0 : Int)) then (bif decide (0 ≤ a1) then (bif decide (a1 ≤ a0) then (bif decide (a0 ≤ (a2.size : Int)) then (bif decide (a5.length + ([((a2.extract a1.toNat a0.toNat), (a3, (IntKind.wrap .i64 ((IntKind.wrap .i64 (a1 - a4)) + (1 : Int)))))] : List ((ByteArray × (Int × Int)))).length < 4398046511104) then some ((-1 : Int), a2, a3, a4, (a5 ++ ([((a2.extract a1.toNat a0.toNat), (a3, (IntKind.wrap .i64 ((IntKind.wrap .i64 (a1 - a4)) + (1 : Int)))))] : List ((ByteArray × (Int × Int)))))) else none) else none) else none) else none) else some (a1, a2, a3, a4, a5))
noncomputable def token_Split_1.F : Int → Int → ByteArray → Int → Int → (List ((ByteArray × (Int × Int)))) → Option (Int × ByteArray × Int × Int × List ((ByteArray × (Int × Int)))) := lock token_Split_1.F0
theorem token_Split_1.F_eq : token_Split_1.F = token_Split_1.F0 := lock_eq _
noncomputable def token_Split_1.p : Proc := { nargs := 6, inS := ⟨[(0, .lf (.sc (.int .i64))), (1, .lf (.bp 0 0)), (2, .lf (.bp 1 0)), (3, .lf (.bp 2 0)), (4, .lf (.bp 3 0)), (5, .lf (.bp 4 0))], [.box [.sc (.int .i64)], .box [.own 5], .box [.sc .str], .box [.sc (.int .i64)], .box [.sc (.int .i64)], .row 36 (.pair .str (.pair (.int .i64) (.int .i64)))]⟩, outS := ⟨[], [.box [.sc (.int .i64)], .box [.own 5], .box [.sc .str], .box [.sc (.int .i64)], .box [.sc (.int .i64)], .row 36 (.pair .str (.pair (.int .i64) (.int .i64)))]⟩, n0 := 5, R := Int × ByteArray × Int × Int × List ((ByteArray × (Int × Int))), F := fun x => token_Split_1.F x.1.1 x.2.1.1 x.2.2.2.1.1 x.2.2.2.2.1.1 x.2.2.2.2.2.1.1 x.2.2.2.2.2.2.1, post := fun r => ((), ((r.1, ()), (((), ()), ((r.2.1, ()), ((r.2.2.1, ()), ((r.2.2.2.1, ()), (r.2.2.2.2, ()))))))), un := fun x => (x.2.1.1, x.2.2.2.1.1, x.2.2.2.2.1.1, x.2.2.2.2.2.1.1, x.2.2.2.2.2.2.1) }
noncomputable def token_Split_1.E : Env := { P := Tryd.prog, ty := tyTab [(36, (.pair .str (.pair (.int .i64) (.int .i64))))], glob := glob0, proc := procTab [], lproc := lprocTab [], n0 := 5, ntmps := 22 }
theorem token_Split_1.ok : ProcsOk token_Split_1.E := AllSound.ok (l := []) (by kernel_rfl) rfl trivial
noncomputable def token_Split_1.body0 : Code := (match Tryd.f23.body with | some c => c | none => .skip)
noncomputable def token_Split_1.ann : Ann := .z
set_option maxRecDepth 100000 in
theorem token_Split_1.eq (x : Tup token_Split_1.p.inS) : peFn token_Split_1.E Tryd.f23 token_Split_1.ann token_Split_1.p x = token_Split_1.p.F x := by
  have h : peFn token_Split_1.E Tryd.f23 token_Split_1.ann token_Split_1.p x = token_Split_1.F0 x.1.1 x.2.1.1 x.2.2.2.1.1 x.2.2.2.2.1.1 x.2.2.2.2.2.1.1 x.2.2.2.2.2.2.1 := by kernel_rfl
  exact h.trans (by show _ = token_Split_1.F x.1.1 x.2.1.1 x.2.2.2.1.1 x.2.2.2.2.1.1 x.2.2.2.2.2.1.1 x.2.2.2.2.2.2.1; rw [token_Split_1.F_eq])
set_option maxRecDepth 100000 in
theorem token_Split_1.sound : ProcSound Tryd.prog glob0 23 token_Split_1.p :=
  fn_sound (E := token_Split_1.E) (c := token_Split_1.body0) (ann := token_Split_1.ann) token_Split_1.ok Tryd.func23 (of_decide_eq_true (by kernel_rfl)) rfl rfl rfl (by decide +kernel) ((SubsOk_z _ _) : SubsOk token_Split_1.E token_Split_1.body0 token_Split_1.ann) (fun _ => rfl) rfl token_Split_1.eq

/-! ### armplan/token.Split: function 13 -/
noncomputable def token_Split.p0.round (v0 : Bool) (v1 : ByteArray) (v2 : Int) (v3 : Int) (v4 : Int) (v5 : Int) (v6 : Int) (v7 : ByteArray) (v8 : Int) (v9 : List ((ByteArray × (Int × Int)))) : Option ((Bool × ByteArray × Int × Int × Int × Int × Int × ByteArray × Int × List ((ByteArray × (Int × Int)))) ⊕ ((Int × Int) ⊕ (ByteArray × Int × Int × Int × Int × Int × List ((ByteArray × (Int × Int)))))) :=
  (bif decide (v8 < (v7.size : Int)) then (bif ((rnC v7 v8) == (10 : Int)) then ((token_Split_1.F v8 v6 v1 v4 v5 v9).bind fun r9 => some (.inl (false, r9.2.1, v2, v3, (IntKind.wrap .i64 (r9.2.2.1 + (1 : Int))), (IntKind.wrap .i64 (v8 + (1 : Int))), r9.1, v7, (v8 + rnW v7 v8), r9.2.2.2.2))) else (bif v0 then some (.inl (v0, v1, v2, v3, v4, v5, v6, v7, (v8 + rnW v7 v8), v9)) else (bif ((rnC v7 v8) == (35 : Int)) then ((token_Split_1.F v8 v6 v1 v4 v5 v9).bind fun r10 => some (.inl (true, r10.2.1, v2, v3, r10.2.2.1, r10.2.2.2.1, r10.1, v7, (v8 + rnW v7 v8), r10.2.2.2.2))) else (bif ((rnC v7 v8) == (32 : Int)) then ((token_Split_1.F v8 v6 v1 v4 v5 v9).bind fun r11 => some (.inl (v0, r11.2.1, v2, v3, r11.2.2.1, r11.2.2.2.1, r11.1, v7, (v8 + rnW v7 v8), r11.2.2.2.2))) else (bif ((rnC v7 v8) == (9 : Int)) then ((token_Split_1.F v8 v6 v1 v4 v5 v9).bind fun r12 => some (.inl (v0, r12.2.1, v2, v3, r12.2.2.1, r12.2.2.2.1, r12.1, v7, (v8 + rnW v7 v8), r12.2.2.2.2))) else (bif decide ((rnC v7 v8) > (32 : Int)) then (bif decide ((rnC v7 v8) ≤ (126 : Int)) then (bif decide (v6 < (0 : Int)) then some (.inl (v0, v1, v2, v3, v4, v5, v8, v7, (v8 + rnW v7 v8), v9)) else some (.inl (v0, v1, v2, v3, v4, v5, v6, v7, (v8 + rnW v7 v8), v9))) else some (.inr (.inl ((601 : Int), v4)))) else some (.inr (.inl ((601 : Int), v4))))))))) else some (.inr (.inr (v1, v2, v3, v6, v4, v5, v9))))
noncomputable def token_Split.p0.step (s : Bool × ByteArray × Int × Int × Int × Int × Int × ByteArray × Int × List ((ByteArray × (Int × Int)))) : Option ((Bool × ByteArray × Int × Int × Int × Int × Int × ByteArray × Int × List ((ByteArray × (Int × Int)))) ⊕ ((Int × Int) ⊕ (ByteArray × Int × Int × Int × Int × Int × List ((ByteArray × (Int × Int)))))) := token_Split.p0.round s.1 s.2.1 s.2.2.1 s.2.2.2.1 s.2.2.2.2.1 s.2.2.2.2.2.1 s.2.2.2.2.2.2.1 s.2.2.2.2.2.2.2.1 s.2.2.2.2.2.2.2.2.1 s.2.2.2.2.2.2.2.2.2
noncomputable def token_Split.p0.inS : Shape := ⟨[(1, .lf (.bp 0 0)), (3, .lf (.bp 1 0)), (4, .lf (.bp 2 0)), (5, .lf (.bp 3 0)), (6, .lf (.bp 4 0)), (7, .lf (.bp 5 0)), (8, .lf (.sc .bool)), (9, .lf (.fn 23 [5, 2, 0, 3, 4])), (18, .lf (.bp 6 0))], [.box [.sc .str], .box [.sc (.int .i64), .sc (.int .i64)], .box [.own 7], .box [.sc (.int .i64)], .box [.sc (.int .i64)], .box [.sc (.int .i64)], .iter, .row 36 (.pair .str (.pair (.int .i64) (.int .i64)))]⟩
noncomputable def token_Split.p0.w0 : Way := { ex := .rt, S := ⟨[(2, .lf (.cst (.slice none 0 0))), (3, .lf (.bp 0 0))], [.box [.sc (.int .i64), .sc (.int .i64)]]⟩, R := Int × Int, post := fun r => (((), ((), ())), ((r.1, (r.2, ())), ())), un := fun x => (x.2.1.1, x.2.1.2.1) }
noncomputable def token_Split.p0.w1 : Way := { ex := (.ex 0), S := ⟨[(1, .lf (.bp 0 0)), (3, .lf (.bp 1 0)), (4, .lf (.bp 2 0)), (9, .lf (.fn 23 [3, 2, 0, 4, 5]))], [.box [.sc .str], .box [.sc (.int .i64), .sc (.int .i64)], .box [.own 6], .box [.sc (.int .i64)], .box [.sc (.int .i64)], .box [.sc (.int .i64)], .row 36 (.pair .str (.pair (.int .i64) (.int .i64)))]⟩, R := ByteArray × Int × Int × Int × Int × Int × List ((ByteArray × (Int × Int))), post := fun r => (((), ((), ((), ((), ())))), ((r.1, ()), ((r.2.1, (r.2.2.1, ())), (((), ()), ((r.2.2.2.1, ()), ((r.2.2.2.2.1, ()), ((r.2.2.2.2.2.1, ()), (r.2.2.2.2.2.2, ())))))))), un := fun x => (x.2.1.1, x.2.2.1.1, x.2.2.1.2.1, x.2.2.2.2.1.1, x.2.2.2.2.2.1.1, x.2.2.2.2.2.2.1.1, x.2.2.2.2.2.2.2.1) }
noncomputable def token_Split.p0.outs : List Way := [token_Split.p0.w0, token_Split.p0.w1]
noncomputable def token_Split.p0.un (x : Tup token_Split.p0.inS) : Bool × ByteArray × Int × Int × Int × Int × Int × ByteArray × Int × List ((ByteArray × (Int × Int))) := (x.1.2.2.2.2.2.2.1, x.2.1.1, x.2.2.1.1, x.2.2.1.2.1, x.2.2.2.2.1.1, x.2.2.2.2.2.1.1, x.2.2.2.2.2.2.1.1, x.2.2.2.2.2.2.2.1.1, x.2.2.2.2.2.2.2.1.2, x.2.2.2.2.2.2.2.2.1)
noncomputable def token_Split.p0.lp : LProc := { inS := token_Split.p0.inS, outs := token_Split.p0.outs, F := fun x => loopF token_Split.p0.step (token_Split.p0.un x) }
noncomputable def token_Split.F0 (a0 : ByteArray) : Option (Int × Int × List ((ByteArray × (Int × Int)))) :=
  (bif decide ((a0.size : Int) > (16384 : Int)) then some ((601 : Int), (0 : Int), ([] : List ((ByteArray × (Int × Int))))) else ((loopF token_Split.p0.step (false, a0, (0 : Int), (0 : Int), (1 : Int), (0 : Int), (-1 : Int), a0, (0 : Int), ([] : List ((ByteArray × (Int × Int)))))).bind fun y13 => (Sum.elim (fun y14 => some (y14.1, y14.2, ([] : List ((ByteArray × (Int × Int)))))) (fun z15 => ((token_Split_1.F (z15.1.size : Int) z15.2.2.2.1 z15.1 z15.2.2.2.2.1 z15.2.2.2.2.2.1 z15.2.2.2.2.2.2).bind fun r16 => some ((0 : Int), (0 : Int), r16.2.2.2.2))) y13)))
noncomputable def token_Split.F : ByteArray → Option (Int × Int × List ((ByteArray × (Int × Int)))) := lock token_Split.F0
theorem token_Split.F_eq : token_Split.F = token_Split.F0 := lock_eq _
noncomputable def token_Split.p : Proc := { nargs := 1, inS := ⟨[(0, .lf (.sc .str))], []⟩, outS := ⟨[(0, .lf (.own 0)), (1, .ag [.sc (.int .i64), .sc (.int .i64)])], [.row 36 (.pair .str (.pair (.int .i64) (.int .i64)))]⟩, n0 := 0, R := Int × Int × List ((ByteArray × (Int × Int))), F := fun x => token_Split.F x.1.1, post := fun r => (((), ((r.1, (r.2.1, ())), ())), (r.2.2, ())), un := fun x => (x.1.2.1.1, x.1.2.1.2.1, x.2.1) }
noncomputable def token_Split.E : Env := { P := Tryd.prog, ty := tyTab [(36, (.pair .str (.pair (.int .i64) (.int .i64))))], glob := glob0, proc := procTab [(23, token_Split_1.p)], lproc := lprocTab [(0, token_Split.p0.lp)], n0 := 0, ntmps := 69 }
theorem token_Split.ok : ProcsOk token_Split.E := AllSound.ok (l := [(23, token_Split_1.p)]) (by kernel_rfl) rfl ⟨token_Split_1.sound, trivial⟩
noncomputable def token_Split.body0 : Code := (match Tryd.f13.body with | some c => c | none => .skip)
noncomputable def token_Split.p0.c : Code := ((codeAt token_Split.body0 [.r, .r, .r, .r, .r, .l, .r, .b, .b]).getD .skip)
noncomputable def token_Split.p0.ann : Ann := .z
set_option maxRecDepth 100000 in
theorem token_Split.p0.eq (x : Tup token_Split.p0.inS) : peRound token_Split.E token_Split.p0.c token_Split.p0.ann _ token_Split.p0.inS token_Split.p0.un token_Split.p0.outs x = token_Split.p0.step (token_Split.p0.un x) := by
  kernel_rfl
set_option maxRecDepth 100000 in
theorem token_Split.p0.sound : LProcSound token_Split.E (.loop token_Split.p0.c) token_Split.p0.lp :=
  loop_sound (c := token_Split.p0.c) (ann := token_Split.p0.ann) token_Split.ok ((SubsOk_z _ _) : SubsOk token_Split.E token_Split.p0.c token_Split.p0.ann) (by intro a ha; simp only [token_Split.p0.outs, List.mem_cons, List.not_mem_nil, or_false] at ha; rcases ha with rfl | rfl <;> exact fun _ => rfl) token_Split.p0.eq
noncomputable def token_Split.ann : Ann := .s (.z) (.s (.z) (.s (.z) (.s (.z) (.s (.z) (.s (.s (.z) (.b (.sub 0))) (.z))))))
set_option maxRecDepth 100000 in
theorem token_Split.eq (x : Tup token_Split.p.inS) : peFn token_Split.E Tryd.f13 token_Split.ann token_Split.p x = token_Split.p.F x := by
  have h : peFn token_Split.E Tryd.f13 token_Split.ann token_Split.p x = token_Split.F0 x.1.1 := by kernel_rfl
  exact h.trans (by show _ = token_Split.F x.1.1; rw [token_Split.F_eq])
set_option maxRecDepth 100000 in
theorem token_Split.sound : ProcSound Tryd.prog glob0 13 token_Split.p :=
  fn_sound (E := token_Split.E) (c := token_Split.body0) (ann := token_Split.ann) token_Split.ok Tryd.func13 (of_decide_eq_true (by kernel_rfl)) rfl rfl rfl (by decide +kernel) (⟨(SubsOk_z _ _), ⟨(SubsOk_z _ _), ⟨(SubsOk_z _ _), ⟨(SubsOk_z _ _), ⟨(SubsOk_z _ _), ⟨⟨(SubsOk_z _ _), (sub_of rfl token_Split.p0.sound)⟩, (SubsOk_z _ _)⟩⟩⟩⟩⟩⟩ : SubsOk token_Split.E token_Split.body0 token_Split.ann) (fun _ => rfl) rfl token_Split.eq

/-! ### armplan/armplanref6.Decimal: function 15 -/
noncomputable def armplanref6_Decimal.p0.round (v0 : Int) (v1 : Int) (v2 : ByteArray) : Option ((Int × Int × ByteArray) ⊕ ((ByteArray))) :=
  (bif decide (v0 > (0 : Int)) then (bif decide (0 ≤ (v0.tmod (10 : Int))) then (bif decide ((v0.tmod (10 : Int)) ≤ (IntKind.wrap .i64 ((v0.tmod (10 : Int)) + (1 : Int)))) then (bif decide ((IntKind.wrap .i64 ((v0.tmod (10 : Int)) + (1 : Int))) ≤ ((⟨#[48, 49, 50, 51, 52, 53, 54, 55, 56, 57]⟩ : ByteArray).size : Int)) then (bif (catOk ((⟨#[48, 49, 50, 51, 52, 53, 54, 55, 56, 57]⟩ : ByteArray).extract (v0.tmod (10 : Int)).toNat (IntKind.wrap .i64 ((v0.tmod (10 : Int)) + (1 : Int))).toNat) v2) then some (.inl ((IntKind.wrap .i64 (v0.tdiv (10 : Int))), v1, (((⟨#[48, 49, 50, 51, 52, 53, 54, 55, 56, 57]⟩ : ByteArray).extract (v0.tmod (10 : Int)).toNat (IntKind.wrap .i64 ((v0.tmod (10 : Int)) + (1 : Int))).toNat) ++ v2))) else none) else none) else none) else none) else (bif decide ((v2.size : Int) < v1) then (bif decide (0 ≤ (v0.tmod (10 : Int))) then (bif decide ((v0.tmod (10 : Int)) ≤ (IntKind.wrap .i64 ((v0.tmod (10 : Int)) + (1 : Int)))) then (bif decide ((IntKind.wrap .i64 ((v0.tmod (10 : Int)) + (1 : Int))) ≤ ((⟨#[48, 49, 50, 51, 52, 53, 54, 55, 56, 57]⟩ : ByteArray).size : Int)) then (bif (catOk ((⟨#[48, 49, 50, 51, 52, 53, 54, 55, 56, 57]⟩ : ByteArray).extract (v0.tmod (10 : Int)).toNat (IntKind.wrap .i64 ((v0.tmod (10 : Int)) + (1 : Int))).toNat) v2) then some (.inl ((IntKind.wrap .i64 (v0.tdiv (10 : Int))), v1, (((⟨#[48, 49, 50, 51, 52, 53, 54, 55, 56, 57]⟩ : ByteArray).extract (v0.tmod (10 : Int)).toNat (IntKind.wrap .i64 ((v0.tmod (10 : Int)) + (1 : Int))).toNat) ++ v2))) else none) else none) else none) else none) else some (.inr v2)))
noncomputable def armplanref6_Decimal.p0.step (s : Int × Int × ByteArray) : Option ((Int × Int × ByteArray) ⊕ ((ByteArray))) := armplanref6_Decimal.p0.round s.1 s.2.1 s.2.2
noncomputable def armplanref6_Decimal.p0.inS : Shape := ⟨[(0, .lf (.sc (.int .i64))), (1, .lf (.sc (.int .i64))), (5, .lf (.sc .str))], []⟩
noncomputable def armplanref6_Decimal.p0.w0 : Way := { ex := (.ex 0), S := ⟨[(5, .lf (.sc .str))], []⟩, R := ByteArray, post := fun r => ((r, ()), ()), un := fun x => x.1.1 }
noncomputable def armplanref6_Decimal.p0.outs : List Way := [armplanref6_Decimal.p0.w0]
noncomputable def armplanref6_Decimal.p0.un (x : Tup armplanref6_Decimal.p0.inS) : Int × Int × ByteArray := (x.1.1, x.1.2.1, x.1.2.2.1)
noncomputable def armplanref6_Decimal.p0.lp : LProc := { inS := armplanref6_Decimal.p0.inS, outs := armplanref6_Decimal.p0.outs, F := fun x => loopF armplanref6_Decimal.p0.step (armplanref6_Decimal.p0.un x) }
noncomputable def armplanref6_Decimal.F0 (a0 : Int) (a1 : Int) : Option (ByteArray) :=
  ((loopF armplanref6_Decimal.p0.step (a0, a1, (⟨#[]⟩ : ByteArray))).bind fun y1 => some y1)
noncomputable def armplanref6_Decimal.F : Int → Int → Option (ByteArray) := lock armplanref6_Decimal.F0
theorem armplanref6_Decimal.F_eq : armplanref6_Decimal.F = armplanref6_Decimal.F0 := lock_eq _
noncomputable def armplanref6_Decimal.p : Proc := { nargs := 2, inS := ⟨[(0, .lf (.sc (.int .i64))), (1, .lf (.sc (.int .i64)))], []⟩, outS := ⟨[(0, .lf (.sc .str))], []⟩, n0 := 0, R := ByteArray, F := fun x => armplanref6_Decimal.F x.1.1 x.1.2.1, post := fun r => ((r, ()), ()), un := fun x => x.1.1 }
noncomputable def armplanref6_Decimal.E : Env := { P := Tryd.prog, ty := tyTab [], glob := glob0, proc := procTab [], lproc := lprocTab [(0, armplanref6_Decimal.p0.lp)], n0 := 0, ntmps := 26 }
theorem armplanref6_Decimal.ok : ProcsOk armplanref6_Decimal.E := AllSound.ok (l := []) (by kernel_rfl) rfl trivial
noncomputable def armplanref6_Decimal.body0 : Code := (match Tryd.f15.body with | some c => c | none => .skip)
noncomputable def armplanref6_Decimal.p0.c : Code := ((codeAt armplanref6_Decimal.body0 [.r, .r, .l, .b, .b]).getD .skip)
noncomputable def armplanref6_Decimal.p0.ann : Ann := .z
set_option maxRecDepth 100000 in
theorem armplanref6_Decimal.p0.eq (x : Tup armplanref6_Decimal.p0.inS) : peRound armplanref6_Decimal.E armplanref6_Decimal.p0.c armplanref6_Decimal.p0.ann _ armplanref6_Decimal.p0.inS armplanref6_Decimal.p0.un armplanref6_Decimal.p0.outs x = armplanref6_Decimal.p0.step (armplanref6_Decimal.p0.un x) := by
  kernel_rfl
set_option maxRecDepth 100000 in
theorem armplanref6_Decimal.p0.sound : LProcSound armplanref6_Decimal.E (.loop armplanref6_Decimal.p0.c) armplanref6_Decimal.p0.lp :=
  loop_sound (c := armplanref6_Decimal.p0.c) (ann := armplanref6_Decimal.p0.ann) armplanref6_Decimal.ok ((SubsOk_z _ _) : SubsOk armplanref6_Decimal.E armplanref6_Decimal.p0.c armplanref6_Decimal.p0.ann) (by intro a ha; simp only [armplanref6_Decimal.p0.outs, List.mem_cons, List.not_mem_nil, or_false] at ha; rcases ha with rfl <;> exact fun _ => rfl) armplanref6_Decimal.p0.eq
noncomputable def armplanref6_Decimal.ann : Ann := .s (.z) (.s (.z) (.s (.b (.sub 0)) (.z)))
set_option maxRecDepth 100000 in
theorem armplanref6_Decimal.eq (x : Tup armplanref6_Decimal.p.inS) : peFn armplanref6_Decimal.E Tryd.f15 armplanref6_Decimal.ann armplanref6_Decimal.p x = armplanref6_Decimal.p.F x := by
  have h : peFn armplanref6_Decimal.E Tryd.f15 armplanref6_Decimal.ann armplanref6_Decimal.p x = armplanref6_Decimal.F0 x.1.1 x.1.2.1 := by kernel_rfl
  exact h.trans (by show _ = armplanref6_Decimal.F x.1.1 x.1.2.1; rw [armplanref6_Decimal.F_eq])
set_option maxRecDepth 100000 in
theorem armplanref6_Decimal.sound : ProcSound Tryd.prog glob0 15 armplanref6_Decimal.p :=
  fn_sound (E := armplanref6_Decimal.E) (c := armplanref6_Decimal.body0) (ann := armplanref6_Decimal.ann) armplanref6_Decimal.ok Tryd.func15 (of_decide_eq_true (by kernel_rfl)) rfl rfl rfl (by decide +kernel) (⟨(SubsOk_z _ _), ⟨(SubsOk_z _ _), ⟨(sub_of rfl armplanref6_Decimal.p0.sound), (SubsOk_z _ _)⟩⟩⟩ : SubsOk armplanref6_Decimal.E armplanref6_Decimal.body0 armplanref6_Decimal.ann) (fun _ => rfl) rfl armplanref6_Decimal.eq

/-! ### armplan/token.Name: function 16 -/
noncomputable def token_Name.p0.round (v0 : ByteArray) (v1 : ByteArray) (v2 : Int) : Option ((ByteArray × ByteArray × Int) ⊕ ((Bool) ⊕ (ByteArray))) :=
  (bif decide (v2 < (v1.size : Int)) then (bif decide ((rnC v1 v2) ≥ (97 : Int)) then (bif (!decide ((rnC v1 v2) ≤ (122 : Int))) then (bif (v2 == (0 : Int)) then some (.inr (.inl false)) else (bif ((rnC v1 v2) != (95 : Int)) then (bif decide ((rnC v1 v2) < (48 : Int)) then some (.inr (.inl false)) else (bif decide ((rnC v1 v2) > (57 : Int)) then some (.inr (.inl false)) else some (.inl (v0, v1, (v2 + rnW v1 v2))))) else some (.inl (v0, v1, (v2 + rnW v1 v2))))) else some (.inl (v0, v1, (v2 + rnW v1 v2)))) else (bif (v2 == (0 : Int)) then some (.inr (.inl false)) else (bif ((rnC v1 v2) != (95 : Int)) then (bif decide ((rnC v1 v2) < (48 : Int)) then some (.inr (.inl false)) else (bif decide ((rnC v1 v2) > (57 : Int)) then some (.inr (.inl false)) else some (.inl (v0, v1, (v2 + rnW v1 v2))))) else some (.inl (v0, v1, (v2 + rnW v1 v2)))))) else some (.inr (.inr v0)))
noncomputable def token_Name.p0.step (s : ByteArray × ByteArray × Int) : Option ((ByteArray × ByteArray × Int) ⊕ ((Bool) ⊕ (ByteArray))) := token_Name.p0.round s.1 s.2.1 s.2.2
noncomputable def token_Name.p0.inS : Shape := ⟨[(0, .lf (.sc .str)), (7, .lf (.bp 0 0))], [.iter]⟩
noncomputable def token_Name.p0.w0 : Way := { ex := .rt, S := ⟨[(2, .lf (.sc .bool))], []⟩, R := Bool, post := fun r => ((r, ()), ()), un := fun x => x.1.1 }
noncomputable def token_Name.p0.w1 : Way := { ex := (.ex 0), S := ⟨[(0, .lf (.sc .str))], []⟩, R := ByteArray, post := fun r => ((r, ()), ()), un := fun x => x.1.1 }
noncomputable def token_Name.p0.outs : List Way := [token_Name.p0.w0, token_Name.p0.w1]
noncomputable def token_Name.p0.un (x : Tup token_Name.p0.inS) : ByteArray × ByteArray × Int := (x.1.1, x.2.1.1, x.2.1.2)
noncomputable def token_Name.p0.lp : LProc := { inS := token_Name.p0.inS, outs := token_Name.p0.outs, F := fun x => loopF token_Name.p0.step (token_Name.p0.un x) }
noncomputable def token_Name.F0 (a0 : ByteArray) : Option (Bool) :=
  ((loopF token_Name.p0.step (a0, a0, (0 : Int))).bind fun y1 => (Sum.elim (fun y2 => some y2) (fun z3 => (bif decide ((z3.size : Int) ≥ (1 : Int)) then (bif decide ((z3.size : Int) ≤ (16 : Int)) then some (!(eqS z3 (⟨#[119, 111, 114, 108, 100]⟩ : ByteArray))) else some false) else some false)) y1))
noncomputable def token_Name.F : ByteArray → Option (Bool) := lock token_Name.F0
theorem token_Name.F_eq : token_Name.F = token_Name.F0 := lock_eq _
noncomputable def token_Name.p : Proc := { nargs := 1, inS := ⟨[(0, .lf (.sc .str))], []⟩, outS := ⟨[(0, .lf (.sc .bool))], []⟩, n0 := 0, R := Bool, F := fun x => token_Name.F x.1.1, post := fun r => ((r, ()), ()), un := fun x => x.1.1 }
noncomputable def token_Name.E : Env := { P := Tryd.prog, ty := tyTab [], glob := glob0, proc := procTab [], lproc := lprocTab [(0, token_Name.p0.lp)], n0 := 0, ntmps := 48 }
theorem token_Name.ok : ProcsOk token_Name.E := AllSound.ok (l := []) (by kernel_rfl) rfl trivial
noncomputable def token_Name.body0 : Code := (match Tryd.f16.body with | some c => c | none => .skip)
noncomputable def token_Name.p0.c : Code := ((codeAt token_Name.body0 [.r, .l, .r, .b, .b]).getD .skip)
noncomputable def token_Name.p0.ann : Ann := .z
set_option maxRecDepth 100000 in
theorem token_Name.p0.eq (x : Tup token_Name.p0.inS) : peRound token_Name.E token_Name.p0.c token_Name.p0.ann _ token_Name.p0.inS token_Name.p0.un token_Name.p0.outs x = token_Name.p0.step (token_Name.p0.un x) := by
  kernel_rfl
set_option maxRecDepth 100000 in
theorem token_Name.p0.sound : LProcSound token_Name.E (.loop token_Name.p0.c) token_Name.p0.lp :=
  loop_sound (c := token_Name.p0.c) (ann := token_Name.p0.ann) token_Name.ok ((SubsOk_z _ _) : SubsOk token_Name.E token_Name.p0.c token_Name.p0.ann) (by intro a ha; simp only [token_Name.p0.outs, List.mem_cons, List.not_mem_nil, or_false] at ha; rcases ha with rfl | rfl <;> exact fun _ => rfl) token_Name.p0.eq
noncomputable def token_Name.ann : Ann := .s (.z) (.s (.s (.z) (.b (.sub 0))) (.z))
set_option maxRecDepth 100000 in
theorem token_Name.eq (x : Tup token_Name.p.inS) : peFn token_Name.E Tryd.f16 token_Name.ann token_Name.p x = token_Name.p.F x := by
  have h : peFn token_Name.E Tryd.f16 token_Name.ann token_Name.p x = token_Name.F0 x.1.1 := by kernel_rfl
  exact h.trans (by show _ = token_Name.F x.1.1; rw [token_Name.F_eq])
set_option maxRecDepth 100000 in
theorem token_Name.sound : ProcSound Tryd.prog glob0 16 token_Name.p :=
  fn_sound (E := token_Name.E) (c := token_Name.body0) (ann := token_Name.ann) token_Name.ok Tryd.func16 (of_decide_eq_true (by kernel_rfl)) rfl rfl rfl (by decide +kernel) (⟨(SubsOk_z _ _), ⟨⟨(SubsOk_z _ _), (sub_of rfl token_Name.p0.sound)⟩, (SubsOk_z _ _)⟩⟩ : SubsOk token_Name.E token_Name.body0 token_Name.ann) (fun _ => rfl) rfl token_Name.eq

/-! ### armplan/armplanref6.Name: function 17 -/
noncomputable def armplanref6_Name.p0.round (v0 : ByteArray) (v1 : Int) : Option ((ByteArray × Int) ⊕ ((Bool) ⊕ (Unit))) :=
  (bif decide (v1 < (v0.size : Int)) then (bif decide (0 ≤ v1) then (bif decide (v1 < (v0.size : Int)) then (bif decide ((btI v0 v1) ≥ (97 : Int)) then (bif decide (0 ≤ v1) then (bif decide (v1 < (v0.size : Int)) then (bif (!decide ((btI v0 v1) ≤ (122 : Int))) then (bif (v1 == (0 : Int)) then some (.inr (.inl false)) else (bif decide (0 ≤ v1) then (bif decide (v1 < (v0.size : Int)) then (bif ((btI v0 v1) != (95 : Int)) then (bif decide (0 ≤ v1) then (bif decide (v1 < (v0.size : Int)) then (bif decide ((btI v0 v1) < (48 : Int)) then some (.inr (.inl false)) else (bif decide (0 ≤ v1) then (bif decide (v1 < (v0.size : Int)) then (bif decide ((btI v0 v1) > (57 : Int)) then some (.inr (.inl false)) else some (.inl (v0, (IntKind.wrap .i64 (v1 + (1 : Int)))))) else none) else none)) else none) else none) else some (.inl (v0, (IntKind.wrap .i64 (v1 + (1 : Int)))))) else none) else none)) else some (.inl (v0, (IntKind.wrap .i64 (v1 + (1 : Int)))))) else none) else none) else (bif (v1 == (0 : Int)) then some (.inr (.inl false)) else (bif decide (0 ≤ v1) then (bif decide (v1 < (v0.size : Int)) then (bif ((btI v0 v1) != (95 : Int)) then (bif decide (0 ≤ v1) then (bif decide (v1 < (v0.size : Int)) then (bif decide ((btI v0 v1) < (48 : Int)) then some (.inr (.inl false)) else (bif decide (0 ≤ v1) then (bif decide (v1 < (v0.size : Int)) then (bif decide ((btI v0 v1) > (57 : Int)) then some (.inr (.inl false)) else some (.inl (v0, (IntKind.wrap .i64 (v1 + (1 : Int)))))) else none) else none)) else none) else none) else some (.inl (v0, (IntKind.wrap .i64 (v1 + (1 : Int)))))) else none) else none))) else none) else none) else some (.inr (.inr ())))
noncomputable def armplanref6_Name.p0.step (s : ByteArray × Int) : Option ((ByteArray × Int) ⊕ ((Bool) ⊕ (Unit))) := armplanref6_Name.p0.round s.1 s.2
noncomputable def armplanref6_Name.p0.inS : Shape := ⟨[(0, .lf (.sc .str)), (3, .lf (.sc (.int .i64)))], []⟩
noncomputable def armplanref6_Name.p0.w0 : Way := { ex := .rt, S := ⟨[(2, .lf (.sc .bool))], []⟩, R := Bool, post := fun r => ((r, ()), ()), un := fun x => x.1.1 }
noncomputable def armplanref6_Name.p0.w1 : Way := { ex := (.ex 0), S := ⟨[], []⟩, R := Unit, post := fun r => ((), ()), un := fun x => () }
noncomputable def armplanref6_Name.p0.outs : List Way := [armplanref6_Name.p0.w0, armplanref6_Name.p0.w1]
noncomputable def armplanref6_Name.p0.un (x : Tup armplanref6_Name.p0.inS) : ByteArray × Int := (x.1.1, x.1.2.1)
noncomputable def armplanref6_Name.p0.lp : LProc := { inS := armplanref6_Name.p0.inS, outs := armplanref6_Name.p0.outs, F := fun x => loopF armplanref6_Name.p0.step (armplanref6_Name.p0.un x) }
noncomputable def armplanref6_Name.F0 (a0 : ByteArray) : Option (Bool) :=
  (bif decide ((a0.size : Int) < (1 : Int)) then some false else (bif decide ((a0.size : Int) > (16 : Int)) then some false else (bif (eqS a0 (⟨#[119, 111, 114, 108, 100]⟩ : ByteArray)) then some false else ((loopF armplanref6_Name.p0.step (a0, (0 : Int))).bind fun y1 => (Sum.elim (fun y2 => some y2) (fun z3 => some true) y1)))))
noncomputable def armplanref6_Name.F : ByteArray → Option (Bool) := lock armplanref6_Name.F0
theorem armplanref6_Name.F_eq : armplanref6_Name.F = armplanref6_Name.F0 := lock_eq _
noncomputable def armplanref6_Name.p : Proc := { nargs := 1, inS := ⟨[(0, .lf (.sc .str))], []⟩, outS := ⟨[(0, .lf (.sc .bool))], []⟩, n0 := 0, R := Bool, F := fun x => armplanref6_Name.F x.1.1, post := fun r => ((r, ()), ()), un := fun x => x.1.1 }
noncomputable def armplanref6_Name.E : Env := { P := Tryd.prog, ty := tyTab [], glob := glob0, proc := procTab [], lproc := lprocTab [(0, armplanref6_Name.p0.lp)], n0 := 0, ntmps := 57 }
theorem armplanref6_Name.ok : ProcsOk armplanref6_Name.E := AllSound.ok (l := []) (by kernel_rfl) rfl trivial
noncomputable def armplanref6_Name.body0 : Code := (match Tryd.f17.body with | some c => c | none => .skip)
noncomputable def armplanref6_Name.p0.c : Code := ((codeAt armplanref6_Name.body0 [.r, .r, .l, .r, .b, .b]).getD .skip)
noncomputable def armplanref6_Name.p0.ann : Ann := .z
set_option maxRecDepth 100000 in
theorem armplanref6_Name.p0.eq (x : Tup armplanref6_Name.p0.inS) : peRound armplanref6_Name.E armplanref6_Name.p0.c armplanref6_Name.p0.ann _ armplanref6_Name.p0.inS armplanref6_Name.p0.un armplanref6_Name.p0.outs x = armplanref6_Name.p0.step (armplanref6_Name.p0.un x) := by
  kernel_rfl
set_option maxRecDepth 100000 in
theorem armplanref6_Name.p0.sound : LProcSound armplanref6_Name.E (.loop armplanref6_Name.p0.c) armplanref6_Name.p0.lp :=
  loop_sound (c := armplanref6_Name.p0.c) (ann := armplanref6_Name.p0.ann) armplanref6_Name.ok ((SubsOk_z _ _) : SubsOk armplanref6_Name.E armplanref6_Name.p0.c armplanref6_Name.p0.ann) (by intro a ha; simp only [armplanref6_Name.p0.outs, List.mem_cons, List.not_mem_nil, or_false] at ha; rcases ha with rfl | rfl <;> exact fun _ => rfl) armplanref6_Name.p0.eq
noncomputable def armplanref6_Name.ann : Ann := .s (.z) (.s (.z) (.s (.s (.z) (.b (.sub 0))) (.z)))
set_option maxRecDepth 100000 in
theorem armplanref6_Name.eq (x : Tup armplanref6_Name.p.inS) : peFn armplanref6_Name.E Tryd.f17 armplanref6_Name.ann armplanref6_Name.p x = armplanref6_Name.p.F x := by
  have h : peFn armplanref6_Name.E Tryd.f17 armplanref6_Name.ann armplanref6_Name.p x = armplanref6_Name.F0 x.1.1 := by kernel_rfl
  exact h.trans (by show _ = armplanref6_Name.F x.1.1; rw [armplanref6_Name.F_eq])
set_option maxRecDepth 100000 in
theorem armplanref6_Name.sound : ProcSound Tryd.prog glob0 17 armplanref6_Name.p :=
  fn_sound (E := armplanref6_Name.E) (c := armplanref6_Name.body0) (ann := armplanref6_Name.ann) armplanref6_Name.ok Tryd.func17 (of_decide_eq_true (by kernel_rfl)) rfl rfl rfl (by decide +kernel) (⟨(SubsOk_z _ _), ⟨(SubsOk_z _ _), ⟨⟨(SubsOk_z _ _), (sub_of rfl armplanref6_Name.p0.sound)⟩, (SubsOk_z _ _)⟩⟩⟩ : SubsOk armplanref6_Name.E armplanref6_Name.body0 armplanref6_Name.ann) (fun _ => rfl) rfl armplanref6_Name.eq

/-! ### armplan/token.Format: function 19 -/
noncomputable def token_Format.p1.F0 (v0 : Int) (v1 : ByteArray) : Option ((ByteArray)) :=
  (bif ((65536 : Int) != 0) then ((libFormatInt.F (IntKind.wrap .i64 (v0.tdiv (65536 : Int))) (10 : Int)).bind fun r15 => (bif (catOk v1 r15) then (bif ((65536 : Int) != 0) then (bif ((v0.tmod (65536 : Int)) == (0 : Int)) then some (v1 ++ r15) else (bif ((131072 : Int) != 0) then ((libFormatInt.F (IntKind.wrap .i64 ((IntKind.wrap .i64 ((IntKind.wrap .i64 ((IntKind.wrap .i64 ((2 : Int) * (v0.tmod (65536 : Int)))) * (100000 : Int))) + (65536 : Int))).tdiv (131072 : Int))) (10 : Int)).bind fun r16 => ((libRepeat.F (⟨#[48]⟩ : ByteArray) (IntKind.wrap .i64 ((5 : Int) - (r16.size : Int)))).bind fun r17 => (bif (catOk r17 r16) then (bif (catOk (v1 ++ r15) (⟨#[46]⟩ : ByteArray)) then ((libTrimRight.F (r17 ++ r16) (⟨#[48]⟩ : ByteArray)).bind fun r18 => (bif (catOk ((v1 ++ r15) ++ (⟨#[46]⟩ : ByteArray)) r18) then some (((v1 ++ r15) ++ (⟨#[46]⟩ : ByteArray)) ++ r18) else none)) else none) else none))) else none)) else none) else none)) else none)
noncomputable def token_Format.p1 : Int → ByteArray → Option ((ByteArray)) := lock token_Format.p1.F0
theorem token_Format.p1.F_eq : token_Format.p1 = token_Format.p1.F0 := lock_eq _
noncomputable def token_Format.p1.inS : Shape := ⟨[(0, .lf (.sc (.int .i64))), (3, .lf (.sc .str))], []⟩
noncomputable def token_Format.p1.w0 : Way := { ex := .rt, S := ⟨[(2, .lf (.sc .str))], []⟩, R := ByteArray, post := fun r => ((r, ()), ()), un := fun x => x.1.1 }
noncomputable def token_Format.p1.outs : List Way := [token_Format.p1.w0]
noncomputable def token_Format.p1.lp : LProc := { inS := token_Format.p1.inS, outs := token_Format.p1.outs, F := fun x => token_Format.p1 x.1.1 x.1.2.1 }
noncomputable def token_Format.p0.F0 (v0 : Int) : Option ((ByteArray)) :=
  (bif decide (v0 < (0 : Int)) then ((token_Format.p1 (IntKind.wrap .i64 (0 - v0)) (⟨#[45]⟩ : ByteArray)).bind fun y19 => some y19) else ((token_Format.p1 v0 (⟨#[]⟩ : ByteArray)).bind fun y20 => some y20))
noncomputable def token_Format.p0 : Int → Option ((ByteArray)) := lock token_Format.p0.F0
theorem token_Format.p0.F_eq : token_Format.p0 = token_Format.p0.F0 := lock_eq _
noncomputable def token_Format.p0.inS : Shape := ⟨[(0, .lf (.sc (.int .i64)))], []⟩
noncomputable def token_Format.p0.w0 : Way := { ex := .rt, S := ⟨[(2, .lf (.sc .str))], []⟩, R := ByteArray, post := fun r => ((r, ()), ()), un := fun x => x.1.1 }
noncomputable def token_Format.p0.outs : List Way := [token_Format.p0.w0]
noncomputable def token_Format.p0.lp : LProc := { inS := token_Format.p0.inS, outs := token_Format.p0.outs, F := fun x => token_Format.p0 x.1.1 }
noncomputable def token_Format.F0 (a0 : Int) : Option (ByteArray) :=
  ((token_Format.p0 (bif decide ((2147483648 : Int) < (bif decide ((-2147483648 : Int) > a0) then (-2147483648 : Int) else a0)) then (2147483648 : Int) else (bif decide ((-2147483648 : Int) > a0) then (-2147483648 : Int) else a0))).bind fun y21 => some y21)
noncomputable def token_Format.F : Int → Option (ByteArray) := lock token_Format.F0
theorem token_Format.F_eq : token_Format.F = token_Format.F0 := lock_eq _
noncomputable def token_Format.p : Proc := { nargs := 1, inS := ⟨[(0, .lf (.sc (.int .i64)))], []⟩, outS := ⟨[(0, .lf (.sc .str))], []⟩, n0 := 0, R := ByteArray, F := fun x => token_Format.F x.1.1, post := fun r => ((r, ()), ()), un := fun x => x.1.1 }
noncomputable def token_Format.E : Env := { P := Tryd.prog, ty := tyTab [], glob := glob0, proc := procTab [(32, lib_FormatInt.p), (33, lib_Repeat.p), (34, lib_TrimRight.p)], lproc := lprocTab [(0, token_Format.p0.lp), (1, token_Format.p1.lp)], n0 := 0, ntmps := 41 }
theorem token_Format.ok : ProcsOk token_Format.E := AllSound.ok (l := [(32, lib_FormatInt.p), (33, lib_Repeat.p), (34, lib_TrimRight.p)]) (by kernel_rfl) rfl ⟨lib_FormatInt.sound, lib_Repeat.sound, lib_TrimRight.sound, trivial⟩
noncomputable def token_Format.body0 : Code := (match Tryd.f19.body with | some c => c | none => .skip)
noncomputable def token_Format.p1.c : Code := ((codeAt token_Format.body0 [.r, .r, .r, .r]).getD .skip)
noncomputable def token_Format.p1.ann : Ann := .z
set_option maxRecDepth 100000 in
theorem token_Format.p1.eq (x : Tup token_Format.p1.inS) : peL token_Format.E token_Format.p1.c token_Format.p1.ann token_Format.p1.lp x = token_Format.p1.lp.F x := by
  have h : peL token_Format.E token_Format.p1.c token_Format.p1.ann token_Format.p1.lp x = token_Format.p1.F0 x.1.1 x.1.2.1 := by kernel_rfl
  exact h.trans (by show _ = token_Format.p1 x.1.1 x.1.2.1; rw [token_Format.p1.F_eq])
set_option maxRecDepth 100000 in
theorem token_Format.p1.sound : LProcSound token_Format.E token_Format.p1.c token_Format.p1.lp :=
  piece_sound (c := token_Format.p1.c) (ann := token_Format.p1.ann) token_Format.ok ((SubsOk_z _ _) : SubsOk token_Format.E token_Format.p1.c token_Format.p1.ann) (by intro a ha; simp only [token_Format.p1.lp, token_Format.p1.outs, List.mem_cons, List.not_mem_nil, or_false] at ha; rcases ha with rfl <;> exact fun _ => rfl) token_Format.p1.eq
noncomputable def token_Format.p0.c : Code := ((codeAt token_Format.body0 [.r, .r]).getD .skip)
noncomputable def token_Format.p0.ann : Ann := .s (.z) (.s (.z) (.sub 1))
set_option maxRecDepth 100000 in
theorem token_Format.p0.eq (x : Tup token_Format.p0.inS) : peL token_Format.E token_Format.p0.c token_Format.p0.ann token_Format.p0.lp x = token_Format.p0.lp.F x := by
  have h : peL token_Format.E token_Format.p0.c token_Format.p0.ann token_Format.p0.lp x = token_Format.p0.F0 x.1.1 := by kernel_rfl
  exact h.trans (by show _ = token_Format.p0 x.1.1; rw [token_Format.p0.F_eq])
set_option maxRecDepth 100000 in
theorem token_Format.p0.sound : LProcSound token_Format.E token_Format.p0.c token_Format.p0.lp :=
  piece_sound (c := token_Format.p0.c) (ann := token_Format.p0.ann) token_Format.ok (⟨(SubsOk_z _ _), ⟨(SubsOk_z _ _), (sub_of rfl token_Format.p1.sound)⟩⟩ : SubsOk token_Format.E token_Format.p0.c token_Format.p0.ann) (by intro a ha; simp only [token_Format.p0.lp, token_Format.p0.outs, List.mem_cons, List.not_mem_nil, or_false] at ha; rcases ha with rfl <;> exact fun _ => rfl) token_Format.p0.eq
noncomputable def token_Format.ann : Ann := .s (.z) (.s (.z) (.sub 0))
set_option maxRecDepth 100000 in
theorem token_Format.eq (x : Tup token_Format.p.inS) : peFn token_Format.E Tryd.f19 token_Format.ann token_Format.p x = token_Format.p.F x := by
  have h : peFn token_Format.E Tryd.f19 token_Format.ann token_Format.p x = token_Format.F0 x.1.1 := by kernel_rfl
  exact h.trans (by show _ = token_Format.F x.1.1; rw [token_Format.F_eq])
set_option maxRecDepth 100000 in
theorem token_Format.sound : ProcSound Tryd.prog glob0 19 token_Format.p :=
  fn_sound (E := token_Format.E) (c := token_Format.body0) (ann := token_Format.ann) token_Format.ok Tryd.func19 (of_decide_eq_true (by kernel_rfl)) rfl rfl rfl (by decide +kernel) (⟨(SubsOk_z _ _), ⟨(SubsOk_z _ _), (sub_of rfl token_Format.p0.sound)⟩⟩ : SubsOk token_Format.E token_Format.body0 token_Format.ann) (fun _ => rfl) rfl token_Format.eq

/-! ### armplan/armplanref6.Format: function 20 -/
noncomputable def armplanref6_Format.p2.round (v0 : ByteArray) (v1 : ByteArray) : Option ((ByteArray × ByteArray) ⊕ ((ByteArray × ByteArray))) :=
  (bif decide (0 ≤ (IntKind.wrap .i64 ((v1.size : Int) - (1 : Int)))) then (bif decide ((IntKind.wrap .i64 ((v1.size : Int) - (1 : Int))) < (v1.size : Int)) then (bif ((btI v1 (IntKind.wrap .i64 ((v1.size : Int) - (1 : Int)))) == (48 : Int)) then (bif decide (0 ≤ (IntKind.wrap .i64 ((v1.size : Int) - (1 : Int)))) then (bif decide ((IntKind.wrap .i64 ((v1.size : Int) - (1 : Int))) ≤ (v1.size : Int)) then some (.inl (v0, (v1.extract 0 (IntKind.wrap .i64 ((v1.size : Int) - (1 : Int))).toNat))) else none) else none) else some (.inr (v0, v1))) else none) else none)
noncomputable def armplanref6_Format.p2.step (s : ByteArray × ByteArray) : Option ((ByteArray × ByteArray) ⊕ ((ByteArray × ByteArray))) := armplanref6_Format.p2.round s.1 s.2
noncomputable def armplanref6_Format.p2.inS : Shape := ⟨[(4, .lf (.sc .str)), (6, .lf (.sc .str))], []⟩
noncomputable def armplanref6_Format.p2.w0 : Way := { ex := (.ex 0), S := ⟨[(4, .lf (.sc .str)), (6, .lf (.sc .str))], []⟩, R := ByteArray × ByteArray, post := fun r => ((r.1, (r.2, ())), ()), un := fun x => (x.1.1, x.1.2.1) }
noncomputable def armplanref6_Format.p2.outs : List Way := [armplanref6_Format.p2.w0]
noncomputable def armplanref6_Format.p2.un (x : Tup armplanref6_Format.p2.inS) : ByteArray × ByteArray := (x.1.1, x.1.2.1)
noncomputable def armplanref6_Format.p2.lp : LProc := { inS := armplanref6_Format.p2.inS, outs := armplanref6_Format.p2.outs, F := fun x => loopF armplanref6_Format.p2.step (armplanref6_Format.p2.un x) }
noncomputable def armplanref6_Format.p1.F0 (v0 : Int) (v1 : ByteArray) : Option ((ByteArray)) :=
  (bif ((65536 : Int) != 0) then ((armplanref6_Decimal.F (IntKind.wrap .i64 (v0.tdiv (65536 : Int))) (1 : Int)).bind fun r12 => (bif (catOk v1 r12) then (bif ((65536 : Int) != 0) then (bif ((v0.tmod (65536 : Int)) == (0 : Int)) then some (v1 ++ r12) else (bif ((131072 : Int) != 0) then ((armplanref6_Decimal.F (IntKind.wrap .i64 ((IntKind.wrap .i64 ((IntKind.wrap .i64 ((IntKind.wrap .i64 ((2 : Int) * (v0.tmod (65536 : Int)))) * (100000 : Int))) + (65536 : Int))).tdiv (131072 : Int))) (5 : Int)).bind fun r13 => ((loopF armplanref6_Format.p2.step ((v1 ++ r12), r13)).bind fun y14 => (bif (catOk y14.1 (⟨#[46]⟩ : ByteArray)) then (bif (catOk (y14.1 ++ (⟨#[46]⟩ : ByteArray)) y14.2) then some ((y14.1 ++ (⟨#[46]⟩ : ByteArray)) ++ y14.2) else none) else none))) else none)) else none) else none)) else none)
noncomputable def armplanref6_Format.p1 : Int → ByteArray → Option ((ByteArray)) := lock armplanref6_Format.p1.F0
theorem armplanref6_Format.p1.F_eq : armplanref6_Format.p1 = armplanref6_Format.p1.F0 := lock_eq _
noncomputable def armplanref6_Format.p1.inS : Shape := ⟨[(3, .lf (.sc (.int .i64))), (4, .lf (.sc .str))], []⟩
noncomputable def armplanref6_Format.p1.w0 : Way := { ex := .rt, S := ⟨[(2, .lf (.sc .str))], []⟩, R := ByteArray, post := fun r => ((r, ()), ()), un := fun x => x.1.1 }
noncomputable def armplanref6_Format.p1.outs : List Way := [armplanref6_Format.p1.w0]
noncomputable def armplanref6_Format.p1.lp : LProc := { inS := armplanref6_Format.p1.inS, outs := armplanref6_Format.p1.outs, F := fun x => armplanref6_Format.p1 x.1.1 x.1.2.1 }
noncomputable def armplanref6_Format.p0.F0 (v0 : Int) : Option ((ByteArray)) :=
  (bif decide (v0 < (0 : Int)) then ((armplanref6_Format.p1 (IntKind.wrap .i64 (0 - v0)) (⟨#[45]⟩ : ByteArray)).bind fun y15 => some y15) else ((armplanref6_Format.p1 v0 (⟨#[]⟩ : ByteArray)).bind fun y16 => some y16))
noncomputable def armplanref6_Format.p0 : Int → Option ((ByteArray)) := lock armplanref6_Format.p0.F0
theorem armplanref6_Format.p0.F_eq : armplanref6_Format.p0 = armplanref6_Format.p0.F0 := lock_eq _
noncomputable def armplanref6_Format.p0.inS : Shape := ⟨[(3, .lf (.sc (.int .i64)))], []⟩
noncomputable def armplanref6_Format.p0.w0 : Way := { ex := .rt, S := ⟨[(2, .lf (.sc .str))], []⟩, R := ByteArray, post := fun r => ((r, ()), ()), un := fun x => x.1.1 }
noncomputable def armplanref6_Format.p0.outs : List Way := [armplanref6_Format.p0.w0]
noncomputable def armplanref6_Format.p0.lp : LProc := { inS := armplanref6_Format.p0.inS, outs := armplanref6_Format.p0.outs, F := fun x => armplanref6_Format.p0 x.1.1 }
noncomputable def armplanref6_Format.F0 (a0 : Int) : Option (ByteArray) :=
  ((armplanref6_Format.p0 (bif decide ((bif decide ((2147483648 : Int) < a0) then (2147483648 : Int) else a0) > (-2147483648 : Int)) then (bif decide ((2147483648 : Int) < a0) then (2147483648 : Int) else a0) else (-2147483648 : Int))).bind fun y17 => some y17)
noncomputable def armplanref6_Format.F : Int → Option (ByteArray) := lock armplanref6_Format.F0
theorem armplanref6_Format.F_eq : armplanref6_Format.F = armplanref6_Format.F0 := lock_eq _
noncomputable def armplanref6_Format.p : Proc := { nargs := 1, inS := ⟨[(0, .lf (.sc (.int .i64)))], []⟩, outS := ⟨[(0, .lf (.sc .str))], []⟩, n0 := 0, R := ByteArray, F := fun x => armplanref6_Format.F x.1.1, post := fun r => ((r, ()), ()), un := fun x => x.1.1 }
noncomputable def armplanref6_Format.E : Env := { P := Tryd.prog, ty := tyTab [], glob := glob0, proc := procTab [(15, armplanref6_Decimal.p)], lproc := lprocTab [(0, armplanref6_Format.p0.lp), (1, armplanref6_Format.p1.lp), (2, armplanref6_Format.p2.lp)], n0 := 0, ntmps := 45 }
theorem armplanref6_Format.ok : ProcsOk armplanref6_Format.E := AllSound.ok (l := [(15, armplanref6_Decimal.p)]) (by kernel_rfl) rfl ⟨armplanref6_Decimal.sound, trivial⟩
noncomputable def armplanref6_Format.body0 : Code := (match Tryd.f20.body with | some c => c | none => .skip)
noncomputable def armplanref6_Format.p2.c : Code := ((codeAt armplanref6_Format.body0 [.r, .r, .r, .r, .r, .r, .r, .r, .l, .b, .b]).getD .skip)
noncomputable def armplanref6_Format.p2.ann : Ann := .z
set_option maxRecDepth 100000 in
theorem armplanref6_Format.p2.eq (x : Tup armplanref6_Format.p2.inS) : peRound armplanref6_Format.E armplanref6_Format.p2.c armplanref6_Format.p2.ann _ armplanref6_Format.p2.inS armplanref6_Format.p2.un armplanref6_Format.p2.outs x = armplanref6_Format.p2.step (armplanref6_Format.p2.un x) := by
  kernel_rfl
set_option maxRecDepth 100000 in
theorem armplanref6_Format.p2.sound : LProcSound armplanref6_Format.E (.loop armplanref6_Format.p2.c) armplanref6_Format.p2.lp :=
  loop_sound (c := armplanref6_Format.p2.c) (ann := armplanref6_Format.p2.ann) armplanref6_Format.ok ((SubsOk_z _ _) : SubsOk armplanref6_Format.E armplanref6_Format.p2.c armplanref6_Format.p2.ann) (by intro a ha; simp only [armplanref6_Format.p2.outs, List.mem_cons, List.not_mem_nil, or_false] at ha; rcases ha with rfl <;> exact fun _ => rfl) armplanref6_Format.p2.eq
noncomputable def armplanref6_Format.p1.c : Code := ((codeAt armplanref6_Format.body0 [.r, .r, .r, .r]).getD .skip)
noncomputable def armplanref6_Format.p1.ann : Ann := .s (.z) (.s (.z) (.s (.z) (.s (.z) (.s (.b (.sub 2)) (.z)))))
set_option maxRecDepth 100000 in
theorem armplanref6_Format.p1.eq (x : Tup armplanref6_Format.p1.inS) : peL armplanref6_Format.E armplanref6_Format.p1.c armplanref6_Format.p1.ann armplanref6_Format.p1.lp x = armplanref6_Format.p1.lp.F x := by
  have h : peL armplanref6_Format.E armplanref6_Format.p1.c armplanref6_Format.p1.ann armplanref6_Format.p1.lp x = armplanref6_Format.p1.F0 x.1.1 x.1.2.1 := by kernel_rfl
  exact h.trans (by show _ = armplanref6_Format.p1 x.1.1 x.1.2.1; rw [armplanref6_Format.p1.F_eq])
set_option maxRecDepth 100000 in
theorem armplanref6_Format.p1.sound : LProcSound armplanref6_Format.E armplanref6_Format.p1.c armplanref6_Format.p1.lp :=
  piece_sound (c := armplanref6_Format.p1.c) (ann := armplanref6_Format.p1.ann) armplanref6_Format.ok (⟨(SubsOk_z _ _), ⟨(SubsOk_z _ _), ⟨(SubsOk_z _ _), ⟨(SubsOk_z _ _), ⟨(sub_of rfl armplanref6_Format.p2.sound), (SubsOk_z _ _)⟩⟩⟩⟩⟩ : SubsOk armplanref6_Format.E armplanref6_Format.p1.c armplanref6_Format.p1.ann) (by intro a ha; simp only [armplanref6_Format.p1.lp, armplanref6_Format.p1.outs, List.mem_cons, List.not_mem_nil, or_false] at ha; rcases ha with rfl <;> exact fun _ => rfl) armplanref6_Format.p1.eq
noncomputable def armplanref6_Format.p0.c : Code := ((codeAt armplanref6_Format.body0 [.r, .r]).getD .skip)
noncomputable def armplanref6_Format.p0.ann : Ann := .s (.z) (.s (.z) (.sub 1))
set_option maxRecDepth 100000 in
theorem armplanref6_Format.p0.eq (x : Tup armplanref6_Format.p0.inS) : peL armplanref6_Format.E armplanref6_Format.p0.c armplanref6_Format.p0.ann armplanref6_Format.p0.lp x = armplanref6_Format.p0.lp.F x := by
  have h : peL armplanref6_Format.E armplanref6_Format.p0.c armplanref6_Format.p0.ann armplanref6_Format.p0.lp x = armplanref6_Format.p0.F0 x.1.1 := by kernel_rfl
  exact h.trans (by show _ = armplanref6_Format.p0 x.1.1; rw [armplanref6_Format.p0.F_eq])
set_option maxRecDepth 100000 in
theorem armplanref6_Format.p0.sound : LProcSound armplanref6_Format.E armplanref6_Format.p0.c armplanref6_Format.p0.lp :=
  piece_sound (c := armplanref6_Format.p0.c) (ann := armplanref6_Format.p0.ann) armplanref6_Format.ok (⟨(SubsOk_z _ _), ⟨(SubsOk_z _ _), (sub_of rfl armplanref6_Format.p1.sound)⟩⟩ : SubsOk armplanref6_Format.E armplanref6_Format.p0.c armplanref6_Format.p0.ann) (by intro a ha; simp only [armplanref6_Format.p0.lp, armplanref6_Format.p0.outs, List.mem_cons, List.not_mem_nil, or_false] at ha; rcases ha with rfl <;> exact fun _ => rfl) armplanref6_Format.p0.eq
noncomputable def armplanref6_Format.ann : Ann := .s (.z) (.s (.z) (.sub 0))
set_option maxRecDepth 100000 in
theorem armplanref6_Format.eq (x : Tup armplanref6_Format.p.inS) : peFn armplanref6_Format.E Tryd.f20 armplanref6_Format.ann armplanref6_Format.p x = armplanref6_Format.p.F x := by
  have h : peFn armplanref6_Format.E Tryd.f20 armplanref6_Format.ann armplanref6_Format.p x = armplanref6_Format.F0 x.1.1 := by kernel_rfl
  exact h.trans (by show _ = armplanref6_Format.F x.1.1; rw [armplanref6_Format.F_eq])
set_option maxRecDepth 100000 in
theorem armplanref6_Format.sound : ProcSound Tryd.prog glob0 20 armplanref6_Format.p :=
  fn_sound (E := armplanref6_Format.E) (c := armplanref6_Format.body0) (ann := armplanref6_Format.ann) armplanref6_Format.ok Tryd.func20 (of_decide_eq_true (by kernel_rfl)) rfl rfl rfl (by decide +kernel) (⟨(SubsOk_z _ _), ⟨(SubsOk_z _ _), (sub_of rfl armplanref6_Format.p0.sound)⟩⟩ : SubsOk armplanref6_Format.E armplanref6_Format.body0 armplanref6_Format.ann) (fun _ => rfl) rfl armplanref6_Format.eq

/-! ### armplan/armplanmake.Same[armplan/api.Word]: function 21 -/
noncomputable def armplanmake_Same_Word.p0.round (v0 : List ((ByteArray × (Int × Int)))) (v1 : List ((ByteArray × (Int × Int)))) (v2 : Int) : Option ((List ((ByteArray × (Int × Int))) × List ((ByteArray × (Int × Int))) × Int) ⊕ ((Bool) ⊕ (Unit))) :=
  (bif decide (v2 < (v0.length : Int)) then (bif decide (0 ≤ v2) then (bif decide (v2 < (v0.length : Int)) then (bif decide (0 ≤ v2) then (bif decide (v2 < (v1.length : Int)) then (bif (!((eqS (v0.getD v2.toNat ((⟨#[]⟩ : ByteArray), ((0 : Int), (0 : Int)))).1 (v1.getD v2.toNat ((⟨#[]⟩ : ByteArray), ((0 : Int), (0 : Int)))).1) && ((((v0.getD v2.toNat ((⟨#[]⟩ : ByteArray), ((0 : Int), (0 : Int)))).2).1 == ((v1.getD v2.toNat ((⟨#[]⟩ : ByteArray), ((0 : Int), (0 : Int)))).2).1) && ((((v0.getD v2.toNat ((⟨#[]⟩ : ByteArray), ((0 : Int), (0 : Int)))).2).2 == ((v1.getD v2.toNat ((⟨#[]⟩ : ByteArray), ((0 : Int), (0 : Int)))).2).2) && true)))) then some (.inr (.inl false)) else some (.inl (v0, v1, (IntKind.wrap .i64 (v2 + (1 : Int)))))) else none) else none) else none) else none) else some (.inr (.inr ())))
noncomputable def armplanmake_Same_Word.p0.step (s : List ((ByteArray × (Int × Int))) × List ((ByteArray × (Int × Int))) × Int) : Option ((List ((ByteArray × (Int × Int))) × List ((ByteArray × (Int × Int))) × Int) ⊕ ((Bool) ⊕ (Unit))) := armplanmake_Same_Word.p0.round s.1 s.2.1 s.2.2
noncomputable def armplanmake_Same_Word.p0.inS : Shape := ⟨[(0, .lf (.dat (.pair .str (.pair (.int .i64) (.int .i64))))), (1, .lf (.dat (.pair .str (.pair (.int .i64) (.int .i64))))), (5, .lf (.sc (.int .i64)))], []⟩
noncomputable def armplanmake_Same_Word.p0.w0 : Way := { ex := .rt, S := ⟨[(4, .lf (.sc .bool))], []⟩, R := Bool, post := fun r => ((r, ()), ()), un := fun x => x.1.1 }
noncomputable def armplanmake_Same_Word.p0.w1 : Way := { ex := (.ex 0), S := ⟨[], []⟩, R := Unit, post := fun r => ((), ()), un := fun x => () }
noncomputable def armplanmake_Same_Word.p0.outs : List Way := [armplanmake_Same_Word.p0.w0, armplanmake_Same_Word.p0.w1]
noncomputable def armplanmake_Same_Word.p0.un (x : Tup armplanmake_Same_Word.p0.inS) : List ((ByteArray × (Int × Int))) × List ((ByteArray × (Int × Int))) × Int := (x.1.1, x.1.2.1, x.1.2.2.1)
noncomputable def armplanmake_Same_Word.p0.lp : LProc := { inS := armplanmake_Same_Word.p0.inS, outs := armplanmake_Same_Word.p0.outs, F := fun x => loopF armplanmake_Same_Word.p0.step (armplanmake_Same_Word.p0.un x) }
noncomputable def armplanmake_Same_Word.F0 (a0 : List ((ByteArray × (Int × Int)))) (a1 : List ((ByteArray × (Int × Int)))) : Option (Bool) :=
  (bif ((a0.length : Int) != (a1.length : Int)) then some false else ((loopF armplanmake_Same_Word.p0.step (a0, a1, (0 : Int))).bind fun y1 => (Sum.elim (fun y2 => some y2) (fun z3 => some true) y1)))
noncomputable def armplanmake_Same_Word.F : (List ((ByteArray × (Int × Int)))) → (List ((ByteArray × (Int × Int)))) → Option (Bool) := lock armplanmake_Same_Word.F0
theorem armplanmake_Same_Word.F_eq : armplanmake_Same_Word.F = armplanmake_Same_Word.F0 := lock_eq _
noncomputable def armplanmake_Same_Word.p : Proc := { nargs := 2, inS := ⟨[(0, .lf (.dat (.pair .str (.pair (.int .i64) (.int .i64))))), (1, .lf (.dat (.pair .str (.pair (.int .i64) (.int .i64)))))], []⟩, outS := ⟨[(0, .lf (.sc .bool))], []⟩, n0 := 0, R := Bool, F := fun x => armplanmake_Same_Word.F x.1.1 x.1.2.1, post := fun r => ((r, ()), ()), un := fun x => x.1.1 }
noncomputable def armplanmake_Same_Word.E : Env := { P := Tryd.prog, ty := tyTab [], glob := glob0, proc := procTab [], lproc := lprocTab [(0, armplanmake_Same_Word.p0.lp)], n0 := 0, ntmps := 26 }
theorem armplanmake_Same_Word.ok : ProcsOk armplanmake_Same_Word.E := AllSound.ok (l := []) (by kernel_rfl) rfl trivial
noncomputable def armplanmake_Same_Word.body0 : Code := (match Tryd.f21.body with | some c => c | none => .skip)
noncomputable def armplanmake_Same_Word.p0.c : Code := ((codeAt armplanmake_Same_Word.body0 [.r, .r, .l, .r, .b, .b]).getD .skip)
noncomputable def armplanmake_Same_Word.p0.ann : Ann := .z
set_option maxRecDepth 100000 in
theorem armplanmake_Same_Word.p0.eq (x : Tup armplanmake_Same_Word.p0.inS) : peRound armplanmake_Same_Word.E armplanmake_Same_Word.p0.c armplanmake_Same_Word.p0.ann _ armplanmake_Same_Word.p0.inS armplanmake_Same_Word.p0.un armplanmake_Same_Word.p0.outs x = armplanmake_Same_Word.p0.step (armplanmake_Same_Word.p0.un x) := by
  kernel_rfl
set_option maxRecDepth 100000 in
theorem armplanmake_Same_Word.p0.sound : LProcSound armplanmake_Same_Word.E (.loop armplanmake_Same_Word.p0.c) armplanmake_Same_Word.p0.lp :=
  loop_sound (c := armplanmake_Same_Word.p0.c) (ann := armplanmake_Same_Word.p0.ann) armplanmake_Same_Word.ok ((SubsOk_z _ _) : SubsOk armplanmake_Same_Word.E armplanmake_Same_Word.p0.c armplanmake_Same_Word.p0.ann) (by intro a ha; simp only [armplanmake_Same_Word.p0.outs, List.mem_cons, List.not_mem_nil, or_false] at ha; rcases ha with rfl | rfl <;> exact fun _ => rfl) armplanmake_Same_Word.p0.eq
noncomputable def armplanmake_Same_Word.ann : Ann := .s (.z) (.s (.z) (.s (.s (.z) (.b (.sub 0))) (.z)))
set_option maxRecDepth 100000 in
theorem armplanmake_Same_Word.eq (x : Tup armplanmake_Same_Word.p.inS) : peFn armplanmake_Same_Word.E Tryd.f21 armplanmake_Same_Word.ann armplanmake_Same_Word.p x = armplanmake_Same_Word.p.F x := by
  have h : peFn armplanmake_Same_Word.E Tryd.f21 armplanmake_Same_Word.ann armplanmake_Same_Word.p x = armplanmake_Same_Word.F0 x.1.1 x.1.2.1 := by kernel_rfl
  exact h.trans (by show _ = armplanmake_Same_Word.F x.1.1 x.1.2.1; rw [armplanmake_Same_Word.F_eq])
set_option maxRecDepth 100000 in
theorem armplanmake_Same_Word.sound : ProcSound Tryd.prog glob0 21 armplanmake_Same_Word.p :=
  fn_sound (E := armplanmake_Same_Word.E) (c := armplanmake_Same_Word.body0) (ann := armplanmake_Same_Word.ann) armplanmake_Same_Word.ok Tryd.func21 (of_decide_eq_true (by kernel_rfl)) rfl rfl rfl (by decide +kernel) (⟨(SubsOk_z _ _), ⟨(SubsOk_z _ _), ⟨⟨(SubsOk_z _ _), (sub_of rfl armplanmake_Same_Word.p0.sound)⟩, (SubsOk_z _ _)⟩⟩⟩ : SubsOk armplanmake_Same_Word.E armplanmake_Same_Word.body0 armplanmake_Same_Word.ann) (fun _ => rfl) rfl armplanmake_Same_Word.eq

/-! ### armplan/token.digits: function 26 -/
noncomputable def token_digits.p0.round (v0 : ByteArray) (v1 : Int) (v2 : ByteArray) (v3 : Int) : Option ((ByteArray × Int × ByteArray × Int) ⊕ ((Bool) ⊕ (ByteArray × Int))) :=
  (bif decide (v3 < (v2.size : Int)) then (bif decide ((rnC v2 v3) < (48 : Int)) then some (.inr (.inl false)) else (bif decide ((rnC v2 v3) > (57 : Int)) then some (.inr (.inl false)) else some (.inl (v0, v1, v2, (v3 + rnW v2 v3))))) else some (.inr (.inr (v0, v1))))
noncomputable def token_digits.p0.step (s : ByteArray × Int × ByteArray × Int) : Option ((ByteArray × Int × ByteArray × Int) ⊕ ((Bool) ⊕ (ByteArray × Int))) := token_digits.p0.round s.1 s.2.1 s.2.2.1 s.2.2.2
noncomputable def token_digits.p0.inS : Shape := ⟨[(0, .lf (.sc .str)), (1, .lf (.sc (.int .i64))), (8, .lf (.bp 0 0))], [.iter]⟩
noncomputable def token_digits.p0.w0 : Way := { ex := .rt, S := ⟨[(4, .lf (.sc .bool))], []⟩, R := Bool, post := fun r => ((r, ()), ()), un := fun x => x.1.1 }
noncomputable def token_digits.p0.w1 : Way := { ex := (.ex 0), S := ⟨[(0, .lf (.sc .str)), (1, .lf (.sc (.int .i64)))], []⟩, R := ByteArray × Int, post := fun r => ((r.1, (r.2, ())), ()), un := fun x => (x.1.1, x.1.2.1) }
noncomputable def token_digits.p0.outs : List Way := [token_digits.p0.w0, token_digits.p0.w1]
noncomputable def token_digits.p0.un (x : Tup token_digits.p0.inS) : ByteArray × Int × ByteArray × Int := (x.1.1, x.1.2.1, x.2.1.1, x.2.1.2)
noncomputable def token_digits.p0.lp : LProc := { inS := token_digits.p0.inS, outs := token_digits.p0.outs, F := fun x => loopF token_digits.p0.step (token_digits.p0.un x) }
noncomputable def token_digits.F0 (a0 : ByteArray) (a1 : Int) : Option (Bool) :=
  ((loopF token_digits.p0.step (a0, a1, a0, (0 : Int))).bind fun y1 => (Sum.elim (fun y2 => some y2) (fun z3 => (bif decide ((z3.1.size : Int) ≥ (1 : Int)) then some (decide ((z3.1.size : Int) ≤ z3.2)) else some false)) y1))
noncomputable def token_digits.F : ByteArray → Int → Option (Bool) := lock token_digits.F0
theorem token_digits.F_eq : token_digits.F = token_digits.F0 := lock_eq _
noncomputable def token_digits.p : Proc := { nargs := 2, inS := ⟨[(0, .lf (.sc .str)), (1, .lf (.sc (.int .i64)))], []⟩, outS := ⟨[(0, .lf (.sc .bool))], []⟩, n0 := 0, R := Bool, F := fun x => token_digits.F x.1.1 x.1.2.1, post := fun r => ((r, ()), ()), un := fun x => x.1.1 }
noncomputable def token_digits.E : Env := { P := Tryd.prog, ty := tyTab [], glob := glob0, proc := procTab [], lproc := lprocTab [(0, token_digits.p0.lp)], n0 := 0, ntmps := 27 }
theorem token_digits.ok : ProcsOk token_digits.E := AllSound.ok (l := []) (by kernel_rfl) rfl trivial
noncomputable def token_digits.body0 : Code := (match Tryd.f26.body with | some c => c | none => .skip)
noncomputable def token_digits.p0.c : Code := ((codeAt token_digits.body0 [.r, .l, .r, .b, .b]).getD .skip)
noncomputable def token_digits.p0.ann : Ann := .z
set_option maxRecDepth 100000 in
theorem token_digits.p0.eq (x : Tup token_digits.p0.inS) : peRound token_digits.E token_digits.p0.c token_digits.p0.ann _ token_digits.p0.inS token_digits.p0.un token_digits.p0.outs x = token_digits.p0.step (token_digits.p0.un x) := by
  kernel_rfl
set_option maxRecDepth 100000 in
theorem token_digits.p0.sound : LProcSound token_digits.E (.loop token_digits.p0.c) token_digits.p0.lp :=
  loop_sound (c := token_digits.p0.c) (ann := token_digits.p0.ann) token_digits.ok ((SubsOk_z _ _) : SubsOk token_digits.E token_digits.p0.c token_digits.p0.ann) (by intro a ha; simp only [token_digits.p0.outs, List.mem_cons, List.not_mem_nil, or_false] at ha; rcases ha with rfl | rfl <;> exact fun _ => rfl) token_digits.p0.eq
noncomputable def token_digits.ann : Ann := .s (.z) (.s (.s (.z) (.b (.sub 0))) (.z))
set_option maxRecDepth 100000 in
theorem token_digits.eq (x : Tup token_digits.p.inS) : peFn token_digits.E Tryd.f26 token_digits.ann token_digits.p x = token_digits.p.F x := by
  have h : peFn token_digits.E Tryd.f26 token_digits.ann token_digits.p x = token_digits.F0 x.1.1 x.1.2.1 := by kernel_rfl
  exact h.trans (by show _ = token_digits.F x.1.1 x.1.2.1; rw [token_digits.F_eq])
set_option maxRecDepth 100000 in
theorem token_digits.sound : ProcSound Tryd.prog glob0 26 token_digits.p :=
  fn_sound (E := token_digits.E) (c := token_digits.body0) (ann := token_digits.ann) token_digits.ok Tryd.func26 (of_decide_eq_true (by kernel_rfl)) rfl rfl rfl (by decide +kernel) (⟨(SubsOk_z _ _), ⟨⟨(SubsOk_z _ _), (sub_of rfl token_digits.p0.sound)⟩, (SubsOk_z _ _)⟩⟩ : SubsOk token_digits.E token_digits.body0 token_digits.ann) (fun _ => rfl) rfl token_digits.eq

/-! ### armplan/token.signed: function 28 -/
noncomputable def token_signed.F0 (a0 : Int) (a1 : Bool) : Option (Int) :=
  (bif a1 then some (IntKind.wrap .i64 (0 - a0)) else some a0)
noncomputable def token_signed.F : Int → Bool → Option (Int) := lock token_signed.F0
theorem token_signed.F_eq : token_signed.F = token_signed.F0 := lock_eq _
noncomputable def token_signed.p : Proc := { nargs := 2, inS := ⟨[(0, .lf (.sc (.int .i64))), (1, .lf (.sc .bool))], []⟩, outS := ⟨[(0, .lf (.sc (.int .i64)))], []⟩, n0 := 0, R := Int, F := fun x => token_signed.F x.1.1 x.1.2.1, post := fun r => ((r, ()), ()), un := fun x => x.1.1 }
noncomputable def token_signed.E : Env := { P := Tryd.prog, ty := tyTab [], glob := glob0, proc := procTab [], lproc := lprocTab [], n0 := 0, ntmps := 9 }
theorem token_signed.ok : ProcsOk token_signed.E := AllSound.ok (l := []) (by kernel_rfl) rfl trivial
noncomputable def token_signed.body0 : Code := (match Tryd.f28.body with | some c => c | none => .skip)
noncomputable def token_signed.ann : Ann := .z
set_option maxRecDepth 100000 in
theorem token_signed.eq (x : Tup token_signed.p.inS) : peFn token_signed.E Tryd.f28 token_signed.ann token_signed.p x = token_signed.p.F x := by
  have h : peFn token_signed.E Tryd.f28 token_signed.ann token_signed.p x = token_signed.F0 x.1.1 x.1.2.1 := by kernel_rfl
  exact h.trans (by show _ = token_signed.F x.1.1 x.1.2.1; rw [token_signed.F_eq])
set_option maxRecDepth 100000 in
theorem token_signed.sound : ProcSound Tryd.prog glob0 28 token_signed.p :=
  fn_sound (E := token_signed.E) (c := token_signed.body0) (ann := token_signed.ann) token_signed.ok Tryd.func28 (of_decide_eq_true (by kernel_rfl)) rfl rfl rfl (by decide +kernel) ((SubsOk_z _ _) : SubsOk token_signed.E token_signed.body0 token_signed.ann) (fun _ => rfl) rfl token_signed.eq

/-! ### armplan/token.Integer: function 30 -/
noncomputable def token_Integer.F0 (a0 : ByteArray) : Option (Int × Bool) :=
  ((libCutPrefix.F a0 (⟨#[45]⟩ : ByteArray)).bind fun r1 => ((token_digits.F r1.1 (15 : Int)).bind fun r2 => (bif (!r2) then some ((0 : Int), false) else ((libParseInt.F r1.1 (10 : Int) (64 : Int)).bind fun r3 => ((token_signed.F r3 r1.2).bind fun r4 => some (r4, true))))))
noncomputable def token_Integer.F : ByteArray → Option (Int × Bool) := lock token_Integer.F0
theorem token_Integer.F_eq : token_Integer.F = token_Integer.F0 := lock_eq _
noncomputable def token_Integer.p : Proc := { nargs := 1, inS := ⟨[(0, .lf (.sc .str))], []⟩, outS := ⟨[(0, .lf (.sc (.int .i64))), (1, .lf (.sc .bool))], []⟩, n0 := 0, R := Int × Bool, F := fun x => token_Integer.F x.1.1, post := fun r => ((r.1, (r.2, ())), ()), un := fun x => (x.1.1, x.1.2.1) }
noncomputable def token_Integer.E : Env := { P := Tryd.prog, ty := tyTab [], glob := glob0, proc := procTab [(24, lib_CutPrefix.p), (26, token_digits.p), (27, lib_ParseInt.p), (28, token_signed.p)], lproc := lprocTab [], n0 := 0, ntmps := 23 }
theorem token_Integer.ok : ProcsOk token_Integer.E := AllSound.ok (l := [(24, lib_CutPrefix.p), (26, token_digits.p), (27, lib_ParseInt.p), (28, token_signed.p)]) (by kernel_rfl) rfl ⟨lib_CutPrefix.sound, token_digits.sound, lib_ParseInt.sound, token_signed.sound, trivial⟩
noncomputable def token_Integer.body0 : Code := (match Tryd.f30.body with | some c => c | none => .skip)
noncomputable def token_Integer.ann : Ann := .z
set_option maxRecDepth 100000 in
theorem token_Integer.eq (x : Tup token_Integer.p.inS) : peFn token_Integer.E Tryd.f30 token_Integer.ann token_Integer.p x = token_Integer.p.F x := by
  have h : peFn token_Integer.E Tryd.f30 token_Integer.ann token_Integer.p x = token_Integer.F0 x.1.1 := by kernel_rfl
  exact h.trans (by show _ = token_Integer.F x.1.1; rw [token_Integer.F_eq])
set_option maxRecDepth 100000 in
theorem token_Integer.sound : ProcSound Tryd.prog glob0 30 token_Integer.p :=
  fn_sound (E := token_Integer.E) (c := token_Integer.body0) (ann := token_Integer.ann) token_Integer.ok Tryd.func30 (of_decide_eq_true (by kernel_rfl)) rfl rfl rfl (by decide +kernel) ((SubsOk_z _ _) : SubsOk token_Integer.E token_Integer.body0 token_Integer.ann) (fun _ => rfl) rfl token_Integer.eq

/-! ### armplan/armplanref6.permitted: function 35 -/
noncomputable def armplanref6_permitted.F0 (a0 : Int) : Option (Bool) :=
  (bif (a0 == (32 : Int)) then some true else (bif (a0 == (9 : Int)) then some true else (bif (a0 == (10 : Int)) then some true else (bif decide (a0 ≥ (33 : Int)) then some (decide (a0 ≤ (126 : Int))) else some false))))
noncomputable def armplanref6_permitted.F : Int → Option (Bool) := lock armplanref6_permitted.F0
theorem armplanref6_permitted.F_eq : armplanref6_permitted.F = armplanref6_permitted.F0 := lock_eq _
noncomputable def armplanref6_permitted.p : Proc := { nargs := 1, inS := ⟨[(0, .lf (.sc (.int .u8)))], []⟩, outS := ⟨[(0, .lf (.sc .bool))], []⟩, n0 := 0, R := Bool, F := fun x => armplanref6_permitted.F x.1.1, post := fun r => ((r, ()), ()), un := fun x => x.1.1 }
noncomputable def armplanref6_permitted.E : Env := { P := Tryd.prog, ty := tyTab [], glob := glob0, proc := procTab [], lproc := lprocTab [], n0 := 0, ntmps := 21 }
theorem armplanref6_permitted.ok : ProcsOk armplanref6_permitted.E := AllSound.ok (l := []) (by kernel_rfl) rfl trivial
noncomputable def armplanref6_permitted.body0 : Code := (match Tryd.f35.body with | some c => c | none => .skip)
noncomputable def armplanref6_permitted.ann : Ann := .z
set_option maxRecDepth 100000 in
theorem armplanref6_permitted.eq (x : Tup armplanref6_permitted.p.inS) : peFn armplanref6_permitted.E Tryd.f35 armplanref6_permitted.ann armplanref6_permitted.p x = armplanref6_permitted.p.F x := by
  have h : peFn armplanref6_permitted.E Tryd.f35 armplanref6_permitted.ann armplanref6_permitted.p x = armplanref6_permitted.F0 x.1.1 := by kernel_rfl
  exact h.trans (by show _ = armplanref6_permitted.F x.1.1; rw [armplanref6_permitted.F_eq])
set_option maxRecDepth 100000 in
theorem armplanref6_permitted.sound : ProcSound Tryd.prog glob0 35 armplanref6_permitted.p :=
  fn_sound (E := armplanref6_permitted.E) (c := armplanref6_permitted.body0) (ann := armplanref6_permitted.ann) armplanref6_permitted.ok Tryd.func35 (of_decide_eq_true (by kernel_rfl)) rfl rfl rfl (by decide +kernel) ((SubsOk_z _ _) : SubsOk armplanref6_permitted.E armplanref6_permitted.body0 armplanref6_permitted.ann) (fun _ => rfl) rfl armplanref6_permitted.eq

/-! ### armplan/armplanref6.inWord: function 36 -/
noncomputable def armplanref6_inWord.F0 (a0 : Int) : Option (Bool) :=
  (bif decide (a0 ≥ (33 : Int)) then (bif decide (a0 ≤ (126 : Int)) then some (a0 != (35 : Int)) else some false) else some false)
noncomputable def armplanref6_inWord.F : Int → Option (Bool) := lock armplanref6_inWord.F0
theorem armplanref6_inWord.F_eq : armplanref6_inWord.F = armplanref6_inWord.F0 := lock_eq _
noncomputable def armplanref6_inWord.p : Proc := { nargs := 1, inS := ⟨[(0, .lf (.sc (.int .u8)))], []⟩, outS := ⟨[(0, .lf (.sc .bool))], []⟩, n0 := 0, R := Bool, F := fun x => armplanref6_inWord.F x.1.1, post := fun r => ((r, ()), ()), un := fun x => x.1.1 }
noncomputable def armplanref6_inWord.E : Env := { P := Tryd.prog, ty := tyTab [], glob := glob0, proc := procTab [], lproc := lprocTab [], n0 := 0, ntmps := 13 }
theorem armplanref6_inWord.ok : ProcsOk armplanref6_inWord.E := AllSound.ok (l := []) (by kernel_rfl) rfl trivial
noncomputable def armplanref6_inWord.body0 : Code := (match Tryd.f36.body with | some c => c | none => .skip)
noncomputable def armplanref6_inWord.ann : Ann := .z
set_option maxRecDepth 100000 in
theorem armplanref6_inWord.eq (x : Tup armplanref6_inWord.p.inS) : peFn armplanref6_inWord.E Tryd.f36 armplanref6_inWord.ann armplanref6_inWord.p x = armplanref6_inWord.p.F x := by
  have h : peFn armplanref6_inWord.E Tryd.f36 armplanref6_inWord.ann armplanref6_inWord.p x = armplanref6_inWord.F0 x.1.1 := by kernel_rfl
  exact h.trans (by show _ = armplanref6_inWord.F x.1.1; rw [armplanref6_inWord.F_eq])
set_option maxRecDepth 100000 in
theorem armplanref6_inWord.sound : ProcSound Tryd.prog glob0 36 armplanref6_inWord.p :=
  fn_sound (E := armplanref6_inWord.E) (c := armplanref6_inWord.body0) (ann := armplanref6_inWord.ann) armplanref6_inWord.ok Tryd.func36 (of_decide_eq_true (by kernel_rfl)) rfl rfl rfl (by decide +kernel) ((SubsOk_z _ _) : SubsOk armplanref6_inWord.E armplanref6_inWord.body0 armplanref6_inWord.ann) (fun _ => rfl) rfl armplanref6_inWord.eq

/-! ### internal/stringslite.Cut: function 38 -/
noncomputable def stringslite_Cut.F0 (a0 : ByteArray) (a1 : ByteArray) : Option (ByteArray × ByteArray × Bool) :=
  ((libIndex.F a0 a1).bind fun r1 => (bif decide (r1 ≥ (0 : Int)) then (bif decide (0 ≤ r1) then (bif decide (r1 ≤ (a0.size : Int)) then (bif decide (0 ≤ (IntKind.wrap .i64 (r1 + (a1.size : Int)))) then (bif decide ((IntKind.wrap .i64 (r1 + (a1.size : Int))) ≤ (a0.size : Int)) then some ((a0.extract 0 r1.toNat), (a0.extract (IntKind.wrap .i64 (r1 + (a1.size : Int))).toNat a0.size), true) else none) else none) else none) else none) else some (a0, (⟨#[]⟩ : ByteArray), false)))
noncomputable def stringslite_Cut.F : ByteArray → ByteArray → Option (ByteArray × ByteArray × Bool) := lock stringslite_Cut.F0
theorem stringslite_Cut.F_eq : stringslite_Cut.F = stringslite_Cut.F0 := lock_eq _
noncomputable def stringslite_Cut.p : Proc := { nargs := 2, inS := ⟨[(0, .lf (.sc .str)), (1, .lf (.sc .str))], []⟩, outS := ⟨[(0, .lf (.sc .str)), (1, .lf (.sc .str)), (2, .lf (.sc .bool))], []⟩, n0 := 0, R := ByteArray × ByteArray × Bool, F := fun x => stringslite_Cut.F x.1.1 x.1.2.1, post := fun r => ((r.1, (r.2.1, (r.2.2, ()))), ()), un := fun x => (x.1.1, x.1.2.1, x.1.2.2.1) }
noncomputable def stringslite_Cut.E : Env := { P := Tryd.prog, ty := tyTab [], glob := glob0, proc := procTab [(55, lib_Index.p)], lproc := lprocTab [], n0 := 0, ntmps := 23 }
theorem stringslite_Cut.ok : ProcsOk stringslite_Cut.E := AllSound.ok (l := [(55, lib_Index.p)]) (by kernel_rfl) rfl ⟨lib_Index.sound, trivial⟩
noncomputable def stringslite_Cut.body0 : Code := (match Tryd.f38.body with | some c => c | none => .skip)
noncomputable def stringslite_Cut.ann : Ann := .z
set_option maxRecDepth 100000 in
theorem stringslite_Cut.eq (x : Tup stringslite_Cut.p.inS) : peFn stringslite_Cut.E Tryd.f38 stringslite_Cut.ann stringslite_Cut.p x = stringslite_Cut.p.F x := by
  have h : peFn stringslite_Cut.E Tryd.f38 stringslite_Cut.ann stringslite_Cut.p x = stringslite_Cut.F0 x.1.1 x.1.2.1 := by kernel_rfl
  exact h.trans (by show _ = stringslite_Cut.F x.1.1 x.1.2.1; rw [stringslite_Cut.F_eq])
set_option maxRecDepth 100000 in
theorem stringslite_Cut.sound : ProcSound Tryd.prog glob0 38 stringslite_Cut.p :=
  fn_sound (E := stringslite_Cut.E) (c := stringslite_Cut.body0) (ann := stringslite_Cut.ann) stringslite_Cut.ok Tryd.func38 (of_decide_eq_true (by kernel_rfl)) rfl rfl rfl (by decide +kernel) ((SubsOk_z _ _) : SubsOk stringslite_Cut.E stringslite_Cut.body0 stringslite_Cut.ann) (fun _ => rfl) rfl stringslite_Cut.eq

/-! ### armplan/armplanref6.sign: function 41 -/
noncomputable def armplanref6_sign.F0 (a0 : ByteArray) : Option (ByteArray × Bool) :=
  (bif decide ((a0.size : Int) > (0 : Int)) then (bif decide ((0 : Int) < (a0.size : Int)) then (bif ((btI a0 (0 : Int)) == (45 : Int)) then (bif decide ((1 : Int) ≤ (a0.size : Int)) then some ((a0.extract 1 a0.size), true) else none) else some (a0, false)) else none) else some (a0, false))
noncomputable def armplanref6_sign.F : ByteArray → Option (ByteArray × Bool) := lock armplanref6_sign.F0
theorem armplanref6_sign.F_eq : armplanref6_sign.F = armplanref6_sign.F0 := lock_eq _
noncomputable def armplanref6_sign.p : Proc := { nargs := 1, inS := ⟨[(0, .lf (.sc .str))], []⟩, outS := ⟨[(0, .lf (.sc .str)), (1, .lf (.sc .bool))], []⟩, n0 := 0, R := ByteArray × Bool, F := fun x => armplanref6_sign.F x.1.1, post := fun r => ((r.1, (r.2, ())), ()), un := fun x => (x.1.1, x.1.2.1) }
noncomputable def armplanref6_sign.E : Env := { P := Tryd.prog, ty := tyTab [], glob := glob0, proc := procTab [], lproc := lprocTab [], n0 := 0, ntmps := 15 }
theorem armplanref6_sign.ok : ProcsOk armplanref6_sign.E := AllSound.ok (l := []) (by kernel_rfl) rfl trivial
noncomputable def armplanref6_sign.body0 : Code := (match Tryd.f41.body with | some c => c | none => .skip)
noncomputable def armplanref6_sign.ann : Ann := .z
set_option maxRecDepth 100000 in
theorem armplanref6_sign.eq (x : Tup armplanref6_sign.p.inS) : peFn armplanref6_sign.E Tryd.f41 armplanref6_sign.ann armplanref6_sign.p x = armplanref6_sign.p.F x := by
  have h : peFn armplanref6_sign.E Tryd.f41 armplanref6_sign.ann armplanref6_sign.p x = armplanref6_sign.F0 x.1.1 := by kernel_rfl
  exact h.trans (by show _ = armplanref6_sign.F x.1.1; rw [armplanref6_sign.F_eq])
set_option maxRecDepth 100000 in
theorem armplanref6_sign.sound : ProcSound Tryd.prog glob0 41 armplanref6_sign.p :=
  fn_sound (E := armplanref6_sign.E) (c := armplanref6_sign.body0) (ann := armplanref6_sign.ann) armplanref6_sign.ok Tryd.func41 (of_decide_eq_true (by kernel_rfl)) rfl rfl rfl (by decide +kernel) ((SubsOk_z _ _) : SubsOk armplanref6_sign.E armplanref6_sign.body0 armplanref6_sign.ann) (fun _ => rfl) rfl armplanref6_sign.eq

/-! ### armplan/armplanref6.digits: function 42 -/
noncomputable def armplanref6_digits.p0.round (v0 : ByteArray) (v1 : Int) (v2 : Int) : Option ((ByteArray × Int × Int) ⊕ ((Int × Int))) :=
  (bif decide (v1 < (v0.size : Int)) then (bif decide (0 ≤ v1) then (bif decide (v1 < (v0.size : Int)) then (bif decide ((btI v0 v1) ≥ (48 : Int)) then (bif decide (0 ≤ v1) then (bif decide (v1 < (v0.size : Int)) then (bif decide ((btI v0 v1) ≤ (57 : Int)) then (bif decide (v1 < (15 : Int)) then (bif decide (0 ≤ v1) then (bif decide (v1 < (v0.size : Int)) then some (.inl (v0, (IntKind.wrap .i64 (v1 + (1 : Int))), (IntKind.wrap .i64 ((IntKind.wrap .i64 ((10 : Int) * v2)) + (IntKind.wrap .i64 (IntKind.wrap .u8 ((btI v0 v1) - (48 : Int)))))))) else none) else none) else some (.inl (v0, (IntKind.wrap .i64 (v1 + (1 : Int))), v2))) else some (.inr (v1, v2))) else none) else none) else some (.inr (v1, v2))) else none) else none) else some (.inr (v1, v2)))
noncomputable def armplanref6_digits.p0.step (s : ByteArray × Int × Int) : Option ((ByteArray × Int × Int) ⊕ ((Int × Int))) := armplanref6_digits.p0.round s.1 s.2.1 s.2.2
noncomputable def armplanref6_digits.p0.inS : Shape := ⟨[(0, .lf (.sc .str)), (4, .lf (.sc (.int .i64))), (5, .lf (.sc (.int .i64)))], []⟩
noncomputable def armplanref6_digits.p0.w0 : Way := { ex := (.ex 0), S := ⟨[(4, .lf (.sc (.int .i64))), (5, .lf (.sc (.int .i64)))], []⟩, R := Int × Int, post := fun r => ((r.1, (r.2, ())), ()), un := fun x => (x.1.1, x.1.2.1) }
noncomputable def armplanref6_digits.p0.outs : List Way := [armplanref6_digits.p0.w0]
noncomputable def armplanref6_digits.p0.un (x : Tup armplanref6_digits.p0.inS) : ByteArray × Int × Int := (x.1.1, x.1.2.1, x.1.2.2.1)
noncomputable def armplanref6_digits.p0.lp : LProc := { inS := armplanref6_digits.p0.inS, outs := armplanref6_digits.p0.outs, F := fun x => loopF armplanref6_digits.p0.step (armplanref6_digits.p0.un x) }
noncomputable def armplanref6_digits.F0 (a0 : ByteArray) : Option (Int × Int) :=
  ((loopF armplanref6_digits.p0.step (a0, (0 : Int), (0 : Int))).bind fun y1 => some (y1.1, y1.2))
noncomputable def armplanref6_digits.F : ByteArray → Option (Int × Int) := lock armplanref6_digits.F0
theorem armplanref6_digits.F_eq : armplanref6_digits.F = armplanref6_digits.F0 := lock_eq _
noncomputable def armplanref6_digits.p : Proc := { nargs := 1, inS := ⟨[(0, .lf (.sc .str))], []⟩, outS := ⟨[(0, .lf (.sc (.int .i64))), (1, .lf (.sc (.int .i64)))], []⟩, n0 := 0, R := Int × Int, F := fun x => armplanref6_digits.F x.1.1, post := fun r => ((r.1, (r.2, ())), ()), un := fun x => (x.1.1, x.1.2.1) }
noncomputable def armplanref6_digits.E : Env := { P := Tryd.prog, ty := tyTab [], glob := glob0, proc := procTab [], lproc := lprocTab [(0, armplanref6_digits.p0.lp)], n0 := 0, ntmps := 36 }
theorem armplanref6_digits.ok : ProcsOk armplanref6_digits.E := AllSound.ok (l := []) (by kernel_rfl) rfl trivial
noncomputable def armplanref6_digits.body0 : Code := (match Tryd.f42.body with | some c => c | none => .skip)
noncomputable def armplanref6_digits.p0.c : Code := ((codeAt armplanref6_digits.body0 [.r, .r, .l, .b, .b]).getD .skip)
noncomputable def armplanref6_digits.p0.ann : Ann := .z
set_option maxRecDepth 100000 in
theorem armplanref6_digits.p0.eq (x : Tup armplanref6_digits.p0.inS) : peRound armplanref6_digits.E armplanref6_digits.p0.c armplanref6_digits.p0.ann _ armplanref6_digits.p0.inS armplanref6_digits.p0.un armplanref6_digits.p0.outs x = armplanref6_digits.p0.step (armplanref6_digits.p0.un x) := by
  kernel_rfl
set_option maxRecDepth 100000 in
theorem armplanref6_digits.p0.sound : LProcSound armplanref6_digits.E (.loop armplanref6_digits.p0.c) armplanref6_digits.p0.lp :=
  loop_sound (c := armplanref6_digits.p0.c) (ann := armplanref6_digits.p0.ann) armplanref6_digits.ok ((SubsOk_z _ _) : SubsOk armplanref6_digits.E armplanref6_digits.p0.c armplanref6_digits.p0.ann) (by intro a ha; simp only [armplanref6_digits.p0.outs, List.mem_cons, List.not_mem_nil, or_false] at ha; rcases ha with rfl <;> exact fun _ => rfl) armplanref6_digits.p0.eq
noncomputable def armplanref6_digits.ann : Ann := .s (.z) (.s (.z) (.s (.b (.sub 0)) (.z)))
set_option maxRecDepth 100000 in
theorem armplanref6_digits.eq (x : Tup armplanref6_digits.p.inS) : peFn armplanref6_digits.E Tryd.f42 armplanref6_digits.ann armplanref6_digits.p x = armplanref6_digits.p.F x := by
  have h : peFn armplanref6_digits.E Tryd.f42 armplanref6_digits.ann armplanref6_digits.p x = armplanref6_digits.F0 x.1.1 := by kernel_rfl
  exact h.trans (by show _ = armplanref6_digits.F x.1.1; rw [armplanref6_digits.F_eq])
set_option maxRecDepth 100000 in
theorem armplanref6_digits.sound : ProcSound Tryd.prog glob0 42 armplanref6_digits.p :=
  fn_sound (E := armplanref6_digits.E) (c := armplanref6_digits.body0) (ann := armplanref6_digits.ann) armplanref6_digits.ok Tryd.func42 (of_decide_eq_true (by kernel_rfl)) rfl rfl rfl (by decide +kernel) (⟨(SubsOk_z _ _), ⟨(SubsOk_z _ _), ⟨(sub_of rfl armplanref6_digits.p0.sound), (SubsOk_z _ _)⟩⟩⟩ : SubsOk armplanref6_digits.E armplanref6_digits.body0 armplanref6_digits.ann) (fun _ => rfl) rfl armplanref6_digits.eq

/-! ### armplan/armplanref6.Split: function 22 -/
noncomputable def armplanref6_Split.p1.round (v0 : ByteArray) (v1 : Int) (v2 : Int) (v3 : Bool) (v4 : Int) (v5 : Int) (v6 : Int) (v7 : Int) (v8 : List ((ByteArray × (Int × Int)))) : Option ((ByteArray × Int × Int × Bool × Int × Int × Int × Int × List ((ByteArray × (Int × Int)))) ⊕ ((ByteArray × Int × Int × Bool × Int × Int × Int × Int × List ((ByteArray × (Int × Int)))))) :=
  (bif decide (v5 < (v0.size : Int)) then (bif decide (0 ≤ v5) then (bif decide (v5 < (v0.size : Int)) then ((armplanref6_inWord.F (btI v0 v5)).bind fun r14 => (bif r14 then some (.inl (v0, v1, v2, v3, v4, (IntKind.wrap .i64 (v5 + (1 : Int))), v6, v7, v8)) else some (.inr (v0, v1, v2, v3, v4, v5, v6, v7, v8)))) else none) else none) else some (.inr (v0, v1, v2, v3, v4, v5, v6, v7, v8)))
noncomputable def armplanref6_Split.p1.step (s : ByteArray × Int × Int × Bool × Int × Int × Int × Int × List ((ByteArray × (Int × Int)))) : Option ((ByteArray × Int × Int × Bool × Int × Int × Int × Int × List ((ByteArray × (Int × Int)))) ⊕ ((ByteArray × Int × Int × Bool × Int × Int × Int × Int × List ((ByteArray × (Int × Int)))))) := armplanref6_Split.p1.round s.1 s.2.1 s.2.2.1 s.2.2.2.1 s.2.2.2.2.1 s.2.2.2.2.2.1 s.2.2.2.2.2.2.1 s.2.2.2.2.2.2.2.1 s.2.2.2.2.2.2.2.2
noncomputable def armplanref6_Split.p1.inS : Shape := ⟨[(0, .lf (.sc .str)), (3, .lf (.bp 0 0)), (4, .lf (.own 1)), (5, .lf (.sc (.int .i64))), (6, .lf (.sc (.int .i64))), (7, .lf (.sc .bool)), (8, .lf (.sc (.int .i64))), (10, .lf (.sc (.int .i64)))], [.box [.sc (.int .i64), .sc (.int .i64)], .row 36 (.pair .str (.pair (.int .i64) (.int .i64)))]⟩
noncomputable def armplanref6_Split.p1.w0 : Way := { ex := (.ex 3), S := ⟨[(0, .lf (.sc .str)), (3, .lf (.bp 0 0)), (4, .lf (.own 1)), (5, .lf (.sc (.int .i64))), (6, .lf (.sc (.int .i64))), (7, .lf (.sc .bool)), (8, .lf (.sc (.int .i64))), (10, .lf (.sc (.int .i64)))], [.box [.sc (.int .i64), .sc (.int .i64)], .row 36 (.pair .str (.pair (.int .i64) (.int .i64)))]⟩, R := ByteArray × Int × Int × Bool × Int × Int × Int × Int × List ((ByteArray × (Int × Int))), post := fun r => ((r.1, ((), ((), (r.2.1, (r.2.2.1, (r.2.2.2.1, (r.2.2.2.2.1, (r.2.2.2.2.2.1, ())))))))), ((r.2.2.2.2.2.2.1, (r.2.2.2.2.2.2.2.1, ())), (r.2.2.2.2.2.2.2.2, ()))), un := fun x => (x.1.1, x.1.2.2.2.1, x.1.2.2.2.2.1, x.1.2.2.2.2.2.1, x.1.2.2.2.2.2.2.1, x.1.2.2.2.2.2.2.2.1, x.2.1.1, x.2.1.2.1, x.2.2.1) }
noncomputable def armplanref6_Split.p1.outs : List Way := [armplanref6_Split.p1.w0]
noncomputable def armplanref6_Split.p1.un (x : Tup armplanref6_Split.p1.inS) : ByteArray × Int × Int × Bool × Int × Int × Int × Int × List ((ByteArray × (Int × Int))) := (x.1.1, x.1.2.2.2.1, x.1.2.2.2.2.1, x.1.2.2.2.2.2.1, x.1.2.2.2.2.2.2.1, x.1.2.2.2.2.2.2.2.1, x.2.1.1, x.2.1.2.1, x.2.2.1)
noncomputable def armplanref6_Split.p1.lp : LProc := { inS := armplanref6_Split.p1.inS, outs := armplanref6_Split.p1.outs, F := fun x => loopF armplanref6_Split.p1.step (armplanref6_Split.p1.un x) }
noncomputable def armplanref6_Split.p0.round (v0 : ByteArray) (v1 : Int) (v2 : Int) (v3 : Bool) (v4 : Int) (v5 : Int) (v6 : Int) (v7 : List ((ByteArray × (Int × Int)))) : Option ((ByteArray × Int × Int × Bool × Int × Int × Int × List ((ByteArray × (Int × Int)))) ⊕ ((Int × Int) ⊕ (Int × Int × List ((ByteArray × (Int × Int)))))) :=
  (bif decide (v4 < (v0.size : Int)) then (bif decide (0 ≤ v4) then (bif decide (v4 < (v0.size : Int)) then (bif ((btI v0 v4) == (10 : Int)) then some (.inl (v0, (IntKind.wrap .i64 (v1 + (1 : Int))), (IntKind.wrap .i64 (v4 + (1 : Int))), false, (IntKind.wrap .i64 (v4 + (1 : Int))), v5, v6, v7)) else (bif v3 then some (.inl (v0, v1, v2, v3, (IntKind.wrap .i64 (v4 + (1 : Int))), v5, v6, v7)) else (bif ((btI v0 v4) == (35 : Int)) then some (.inl (v0, v1, v2, true, (IntKind.wrap .i64 (v4 + (1 : Int))), v5, v6, v7)) else ((armplanref6_permitted.F (btI v0 v4)).bind fun r11 => (bif (!r11) then some (.inr (.inl ((601 : Int), v1))) else ((armplanref6_inWord.F (btI v0 v4)).bind fun r12 => (bif r12 then ((loopF armplanref6_Split.p1.step (v0, v1, v2, v3, v4, v4, v5, v6, v7)).bind fun y15 => (bif decide (0 ≤ y15.2.2.2.2.1) then (bif decide (y15.2.2.2.2.1 ≤ y15.2.2.2.2.2.1) then (bif decide (y15.2.2.2.2.2.1 ≤ (y15.1.size : Int)) then (bif decide (y15.2.2.2.2.2.2.2.2.length + ([((y15.1.extract y15.2.2.2.2.1.toNat y15.2.2.2.2.2.1.toNat), (y15.2.1, (IntKind.wrap .i64 ((IntKind.wrap .i64 (y15.2.2.2.2.1 - y15.2.2.1)) + (1 : Int)))))] : List ((ByteArray × (Int × Int)))).length < 4398046511104) then some (.inl (y15.1, y15.2.1, y15.2.2.1, y15.2.2.2.1, y15.2.2.2.2.2.1, y15.2.2.2.2.2.2.1, y15.2.2.2.2.2.2.2.1, (y15.2.2.2.2.2.2.2.2 ++ ([((y15.1.extract y15.2.2.2.2.1.toNat y15.2.2.2.2.2.1.toNat), (y15.2.1, (IntKind.wrap .i64 ((IntKind.wrap .i64 (y15.2.2.2.2.1 - y15.2.2.1)) + (1 : Int)))))] : List ((ByteArray × (Int × Int))))))) else none) else none) else none) else none)) else some (.inl (v0, v1, v2, v3, (IntKind.wrap .i64 (v4 + (1 : Int))), v5, v6, v7))))))))) else none) else none) else some (.inr (.inr (v5, v6, v7))))
noncomputable def armplanref6_Split.p0.step (s : ByteArray × Int × Int × Bool × Int × Int × Int × List ((ByteArray × (Int × Int)))) : Option ((ByteArray × Int × Int × Bool × Int × Int × Int × List ((ByteArray × (Int × Int)))) ⊕ ((Int × Int) ⊕ (Int × Int × List ((ByteArray × (Int × Int)))))) := armplanref6_Split.p0.round s.1 s.2.1 s.2.2.1 s.2.2.2.1 s.2.2.2.2.1 s.2.2.2.2.2.1 s.2.2.2.2.2.2.1 s.2.2.2.2.2.2.2
noncomputable def armplanref6_Split.p0.inS : Shape := ⟨[(0, .lf (.sc .str)), (3, .lf (.bp 0 0)), (4, .lf (.own 1)), (5, .lf (.sc (.int .i64))), (6, .lf (.sc (.int .i64))), (7, .lf (.sc .bool)), (8, .lf (.sc (.int .i64)))], [.box [.sc (.int .i64), .sc (.int .i64)], .row 36 (.pair .str (.pair (.int .i64) (.int .i64)))]⟩
noncomputable def armplanref6_Split.p0.w0 : Way := { ex := .rt, S := ⟨[(2, .lf (.cst (.slice none 0 0))), (3, .lf (.bp 0 0))], [.box [.sc (.int .i64), .sc (.int .i64)]]⟩, R := Int × Int, post := fun r => (((), ((), ())), ((r.1, (r.2, ())), ())), un := fun x => (x.2.1.1, x.2.1.2.1) }
noncomputable def armplanref6_Split.p0.w1 : Way := { ex := (.ex 0), S := ⟨[(3, .lf (.bp 0 0)), (4, .lf (.own 1))], [.box [.sc (.int .i64), .sc (.int .i64)], .row 36 (.pair .str (.pair (.int .i64) (.int .i64)))]⟩, R := Int × Int × List ((ByteArray × (Int × Int))), post := fun r => (((), ((), ())), ((r.1, (r.2.1, ())), (r.2.2, ()))), un := fun x => (x.2.1.1, x.2.1.2.1, x.2.2.1) }
noncomputable def armplanref6_Split.p0.outs : List Way := [armplanref6_Split.p0.w0, armplanref6_Split.p0.w1]
noncomputable def armplanref6_Split.p0.un (x : Tup armplanref6_Split.p0.inS) : ByteArray × Int × Int × Bool × Int × Int × Int × List ((ByteArray × (Int × Int))) := (x.1.1, x.1.2.2.2.1, x.1.2.2.2.2.1, x.1.2.2.2.2.2.1, x.1.2.2.2.2.2.2.1, x.2.1.1, x.2.1.2.1, x.2.2.1)
noncomputable def armplanref6_Split.p0.lp : LProc := { inS := armplanref6_Split.p0.inS, outs := armplanref6_Split.p0.outs, F := fun x => loopF armplanref6_Split.p0.step (armplanref6_Split.p0.un x) }
noncomputable def armplanref6_Split.F0 (a0 : ByteArray) : Option (Int × Int × List ((ByteArray × (Int × Int)))) :=
  (bif decide ((a0.size : Int) > (16384 : Int)) then some ((601 : Int), (0 : Int), ([] : List ((ByteArray × (Int × Int))))) else ((loopF armplanref6_Split.p0.step (a0, (1 : Int), (0 : Int), false, (0 : Int), (0 : Int), (0 : Int), ([] : List ((ByteArray × (Int × Int)))))).bind fun y16 => (Sum.elim (fun y17 => some (y17.1, y17.2, ([] : List ((ByteArray × (Int × Int)))))) (fun z18 => some ((0 : Int), (0 : Int), z18.2.2)) y16)))
noncomputable def armplanref6_Split.F : ByteArray → Option (Int × Int × List ((ByteArray × (Int × Int)))) := lock armplanref6_Split.F0
theorem armplanref6_Split.F_eq : armplanref6_Split.F = armplanref6_Split.F0 := lock_eq _
noncomputable def armplanref6_Split.p : Proc := { nargs := 1, inS := ⟨[(0, .lf (.sc .str))], []⟩, outS := ⟨[(0, .lf (.own 0)), (1, .ag [.sc (.int .i64), .sc (.int .i64)])], [.row 36 (.pair .str (.pair (.int .i64) (.int .i64)))]⟩, n0 := 0, R := Int × Int × List ((ByteArray × (Int × Int))), F := fun x => armplanref6_Split.F x.1.1, post := fun r => (((), ((r.1, (r.2.1, ())), ())), (r.2.2, ())), un := fun x => (x.1.2.1.1, x.1.2.1.2.1, x.2.1) }
noncomputable def armplanref6_Split.E : Env := { P := Tryd.prog, ty := tyTab [(36, (.pair .str (.pair (.int .i64) (.int .i64))))], glob := glob0, proc := procTab [(35, armplanref6_permitted.p), (36, armplanref6_inWord.p)], lproc := lprocTab [(0, armplanref6_Split.p0.lp), (1, armplanref6_Split.p1.lp)], n0 := 0, ntmps := 74 }
theorem armplanref6_Split.ok : ProcsOk armplanref6_Split.E := AllSound.ok (l := [(35, armplanref6_permitted.p), (36, armplanref6_inWord.p)]) (by kernel_rfl) rfl ⟨armplanref6_permitted.sound, armplanref6_inWord.sound, trivial⟩
noncomputable def armplanref6_Split.body0 : Code := (match Tryd.f22.body with | some c => c | none => .skip)
noncomputable def armplanref6_Split.p1.c : Code := ((codeAt armplanref6_Split.body0 [.r, .r, .r, .r, .l, .r, .b, .b, .r, .b, .r, .l, .b, .r, .r, .r, .r, .r, .r, .r, .r, .r, .l, .r, .l, .b, .b]).getD .skip)
noncomputable def armplanref6_Split.p1.ann : Ann := .z
set_option maxRecDepth 100000 in
theorem armplanref6_Split.p1.eq (x : Tup armplanref6_Split.p1.inS) : peRound armplanref6_Split.E armplanref6_Split.p1.c armplanref6_Split.p1.ann _ armplanref6_Split.p1.inS armplanref6_Split.p1.un armplanref6_Split.p1.outs x = armplanref6_Split.p1.step (armplanref6_Split.p1.un x) := by
  kernel_rfl
set_option maxRecDepth 100000 in
theorem armplanref6_Split.p1.sound : LProcSound armplanref6_Split.E (.loop armplanref6_Split.p1.c) armplanref6_Split.p1.lp :=
  loop_sound (c := armplanref6_Split.p1.c) (ann := armplanref6_Split.p1.ann) armplanref6_Split.ok ((SubsOk_z _ _) : SubsOk armplanref6_Split.E armplanref6_Split.p1.c armplanref6_Split.p1.ann) (by intro a ha; simp only [armplanref6_Split.p1.outs, List.mem_cons, List.not_mem_nil, or_false] at ha; rcases ha with rfl <;> exact fun _ => rfl) armplanref6_Split.p1.eq
noncomputable def armplanref6_Split.p0.c : Code := ((codeAt armplanref6_Split.body0 [.r, .r, .r, .r, .l, .r, .b, .b]).getD .skip)
noncomputable def armplanref6_Split.p0.ann : Ann := .s (.z) (.b (.s (.z) (.s (.b (.s (.z) (.s (.z) (.s (.z) (.s (.z) (.s (.z) (.s (.z) (.s (.z) (.s (.z) (.s (.z) (.s (.s (.z) (.s (.b (.sub 1)) (.z))) (.z)))))))))))) (.z))))
set_option maxRecDepth 100000 in
theorem armplanref6_Split.p0.eq (x : Tup armplanref6_Split.p0.inS) : peRound armplanref6_Split.E armplanref6_Split.p0.c armplanref6_Split.p0.ann _ armplanref6_Split.p0.inS armplanref6_Split.p0.un armplanref6_Split.p0.outs x = armplanref6_Split.p0.step (armplanref6_Split.p0.un x) := by
  kernel_rfl
set_option maxRecDepth 100000 in
theorem armplanref6_Split.p0.sound : LProcSound armplanref6_Split.E (.loop armplanref6_Split.p0.c) armplanref6_Split.p0.lp :=
  loop_sound (c := armplanref6_Split.p0.c) (ann := armplanref6_Split.p0.ann) armplanref6_Split.ok (⟨(SubsOk_z _ _), ⟨(SubsOk_z _ _), ⟨⟨(SubsOk_z _ _), ⟨(SubsOk_z _ _), ⟨(SubsOk_z _ _), ⟨(SubsOk_z _ _), ⟨(SubsOk_z _ _), ⟨(SubsOk_z _ _), ⟨(SubsOk_z _ _), ⟨(SubsOk_z _ _), ⟨(SubsOk_z _ _), ⟨⟨(SubsOk_z _ _), ⟨(sub_of rfl armplanref6_Split.p1.sound), (SubsOk_z _ _)⟩⟩, (SubsOk_z _ _)⟩⟩⟩⟩⟩⟩⟩⟩⟩⟩, (SubsOk_z _ _)⟩⟩⟩ : SubsOk armplanref6_Split.E armplanref6_Split.p0.c armplanref6_Split.p0.ann) (by intro a ha; simp only [armplanref6_Split.p0.outs, List.mem_cons, List.not_mem_nil, or_false] at ha; rcases ha with rfl | rfl <;> exact fun _ => rfl) armplanref6_Split.p0.eq
noncomputable def armplanref6_Split.ann : Ann := .s (.z) (.s (.z) (.s (.z) (.s (.z) (.s (.s (.z) (.b (.sub 0))) (.z)))))
set_option maxRecDepth 100000 in
theorem armplanref6_Split.eq (x : Tup armplanref6_Split.p.inS) : peFn armplanref6_Split.E Tryd.f22 armplanref6_Split.ann armplanref6_Split.p x = armplanref6_Split.p.F x := by
  have h : peFn armplanref6_Split.E Tryd.f22 armplanref6_Split.ann armplanref6_Split.p x = armplanref6_Split.F0 x.1.1 := by kernel_rfl
  exact h.trans (by show _ = armplanref6_Split.F x.1.1; rw [armplanref6_Split.F_eq])
set_option maxRecDepth 100000 in
theorem armplanref6_Split.sound : ProcSound Tryd.prog glob0 22 armplanref6_Split.p :=
  fn_sound (E := armplanref6_Split.E) (c := armplanref6_Split.body0) (ann := armplanref6_Split.ann) armplanref6_Split.ok Tryd.func22 (of_decide_eq_true (by kernel_rfl)) rfl rfl rfl (by decide +kernel) (⟨(SubsOk_z _ _), ⟨(SubsOk_z _ _), ⟨(SubsOk_z _ _), ⟨(SubsOk_z _ _), ⟨⟨(SubsOk_z _ _), (sub_of rfl armplanref6_Split.p0.sound)⟩, (SubsOk_z _ _)⟩⟩⟩⟩⟩ : SubsOk armplanref6_Split.E armplanref6_Split.body0 armplanref6_Split.ann) (fun _ => rfl) rfl armplanref6_Split.eq

/-! ### strings.Cut: function 25 -/
noncomputable def strings_Cut.F0 (a0 : ByteArray) (a1 : ByteArray) : Option (ByteArray × ByteArray × Bool) :=
  ((stringslite_Cut.F a0 a1).bind fun r1 => some (r1.1, r1.2.1, r1.2.2))
noncomputable def strings_Cut.F : ByteArray → ByteArray → Option (ByteArray × ByteArray × Bool) := lock strings_Cut.F0
theorem strings_Cut.F_eq : strings_Cut.F = strings_Cut.F0 := lock_eq _
noncomputable def strings_Cut.p : Proc := { nargs := 2, inS := ⟨[(0, .lf (.sc .str)), (1, .lf (.sc .str))], []⟩, outS := ⟨[(0, .lf (.sc .str)), (1, .lf (.sc .str)), (2, .lf (.sc .bool))], []⟩, n0 := 0, R := ByteArray × ByteArray × Bool, F := fun x => strings_Cut.F x.1.1 x.1.2.1, post := fun r => ((r.1, (r.2.1, (r.2.2, ()))), ()), un := fun x => (x.1.1, x.1.2.1, x.1.2.2.1) }
noncomputable def strings_Cut.E : Env := { P := Tryd.prog, ty := tyTab [], glob := glob0, proc := procTab [(38, stringslite_Cut.p)], lproc := lprocTab [], n0 := 0, ntmps := 13 }
theorem strings_Cut.ok : ProcsOk strings_Cut.E := AllSound.ok (l := [(38, stringslite_Cut.p)]) (by kernel_rfl) rfl ⟨stringslite_Cut.sound, trivial⟩
noncomputable def strings_Cut.body0 : Code := (match Tryd.f25.body with | some c => c | none => .skip)
noncomputable def strings_Cut.ann : Ann := .z
set_option maxRecDepth 100000 in
theorem strings_Cut.eq (x : Tup strings_Cut.p.inS) : peFn strings_Cut.E Tryd.f25 strings_Cut.ann strings_Cut.p x = strings_Cut.p.F x := by
  have h : peFn strings_Cut.E Tryd.f25 strings_Cut.ann strings_Cut.p x = strings_Cut.F0 x.1.1 x.1.2.1 := by kernel_rfl
  exact h.trans (by show _ = strings_Cut.F x.1.1 x.1.2.1; rw [strings_Cut.F_eq])
set_option maxRecDepth 100000 in
theorem strings_Cut.sound : ProcSound Tryd.prog glob0 25 strings_Cut.p :=
  fn_sound (E := strings_Cut.E) (c := strings_Cut.body0) (ann := strings_Cut.ann) strings_Cut.ok Tryd.func25 (of_decide_eq_true (by kernel_rfl)) rfl rfl rfl (by decide +kernel) ((SubsOk_z _ _) : SubsOk strings_Cut.E strings_Cut.body0 strings_Cut.ann) (fun _ => rfl) rfl strings_Cut.eq

/-! ### armplan/armplanref6.Number: function 29 -/
noncomputable def armplanref6_Number.p0.round (v0 : Bool) (v1 : Int) (v2 : Int) (v3 : Int) (v4 : Int) (v5 : Int) : Option ((Bool × Int × Int × Int × Int × Int) ⊕ ((Bool × Int × Int × Int))) :=
  (bif decide (v5 < v2) then some (.inl (v0, v1, v2, v3, (IntKind.wrap .i64 (v4 * (10 : Int))), (IntKind.wrap .i64 (v5 + (1 : Int))))) else some (.inr (v0, v1, v3, v4)))
noncomputable def armplanref6_Number.p0.step (s : Bool × Int × Int × Int × Int × Int) : Option ((Bool × Int × Int × Int × Int × Int) ⊕ ((Bool × Int × Int × Int))) := armplanref6_Number.p0.round s.1 s.2.1 s.2.2.1 s.2.2.2.1 s.2.2.2.2.1 s.2.2.2.2.2
noncomputable def armplanref6_Number.p0.inS : Shape := ⟨[(5, .lf (.sc .bool)), (8, .lf (.sc (.int .i64))), (9, .lf (.sc (.int .i64))), (10, .lf (.sc (.int .i64))), (11, .lf (.sc (.int .i64))), (12, .lf (.sc (.int .i64)))], []⟩
noncomputable def armplanref6_Number.p0.w0 : Way := { ex := (.ex 0), S := ⟨[(5, .lf (.sc .bool)), (8, .lf (.sc (.int .i64))), (10, .lf (.sc (.int .i64))), (11, .lf (.sc (.int .i64)))], []⟩, R := Bool × Int × Int × Int, post := fun r => ((r.1, (r.2.1, (r.2.2.1, (r.2.2.2, ())))), ()), un := fun x => (x.1.1, x.1.2.1, x.1.2.2.1, x.1.2.2.2.1) }
noncomputable def armplanref6_Number.p0.outs : List Way := [armplanref6_Number.p0.w0]
noncomputable def armplanref6_Number.p0.un (x : Tup armplanref6_Number.p0.inS) : Bool × Int × Int × Int × Int × Int := (x.1.1, x.1.2.1, x.1.2.2.1, x.1.2.2.2.1, x.1.2.2.2.2.1, x.1.2.2.2.2.2.1)
noncomputable def armplanref6_Number.p0.lp : LProc := { inS := armplanref6_Number.p0.inS, outs := armplanref6_Number.p0.outs, F := fun x => loopF armplanref6_Number.p0.step (armplanref6_Number.p0.un x) }
noncomputable def armplanref6_Number.F0 (a0 : ByteArray) : Option (Int × Bool) :=
  ((armplanref6_sign.F a0).bind fun r1 => ((armplanref6_digits.F r1.1).bind fun r2 => (bif decide (r2.1 < (1 : Int)) then some ((0 : Int), false) else (bif decide (r2.1 > (5 : Int)) then some ((0 : Int), false) else (bif decide (0 ≤ r2.1) then (bif decide (r2.1 ≤ (r1.1.size : Int)) then (bif decide (((r1.1.extract r2.1.toNat r1.1.size).size : Int) > (0 : Int)) then (bif decide ((1 : Int) ≤ ((r1.1.extract r2.1.toNat r1.1.size).size : Int)) then ((armplanref6_digits.F ((r1.1.extract r2.1.toNat r1.1.size).extract 1 (r1.1.extract r2.1.toNat r1.1.size).size)).bind fun r3 => (bif decide ((0 : Int) < ((r1.1.extract r2.1.toNat r1.1.size).size : Int)) then (bif ((btI (r1.1.extract r2.1.toNat r1.1.size) (0 : Int)) != (46 : Int)) then some ((0 : Int), false) else (bif decide (r3.1 < (1 : Int)) then some ((0 : Int), false) else (bif decide (r3.1 > (6 : Int)) then some ((0 : Int), false) else (bif (r3.1 != (IntKind.wrap .i64 (((r1.1.extract r2.1.toNat r1.1.size).size : Int) - (1 : Int)))) then some ((0 : Int), false) else ((loopF armplanref6_Number.p0.step (r1.2, (IntKind.wrap .i64 (r2.2 * (65536 : Int))), r3.1, r3.2, (1 : Int), (0 : Int))).bind fun y4 => (bif ((IntKind.wrap .i64 ((2 : Int) * y4.2.2.2)) != 0) then (bif decide ((IntKind.wrap .i64 (y4.2.1 + (IntKind.wrap .i64 ((IntKind.wrap .i64 ((IntKind.wrap .i64 ((IntKind.wrap .i64 ((2 : Int) * y4.2.2.1)) * (65536 : Int))) + y4.2.2.2)).tdiv (IntKind.wrap .i64 ((2 : Int) * y4.2.2.2)))))) > (2147483648 : Int)) then some ((0 : Int), false) else (bif y4.1 then some ((IntKind.wrap .i64 (0 - (IntKind.wrap .i64 (y4.2.1 + (IntKind.wrap .i64 ((IntKind.wrap .i64 ((IntKind.wrap .i64 ((IntKind.wrap .i64 ((2 : Int) * y4.2.2.1)) * (65536 : Int))) + y4.2.2.2)).tdiv (IntKind.wrap .i64 ((2 : Int) * y4.2.2.2)))))))), true) else some ((IntKind.wrap .i64 (y4.2.1 + (IntKind.wrap .i64 ((IntKind.wrap .i64 ((IntKind.wrap .i64 ((IntKind.wrap .i64 ((2 : Int) * y4.2.2.1)) * (65536 : Int))) + y4.2.2.2)).tdiv (IntKind.wrap .i64 ((2 : Int) * y4.2.2.2)))))), true))) else none)))))) else none)) else none) else (bif decide ((IntKind.wrap .i64 (r2.2 * (65536 : Int))) > (2147483648 : Int)) then some ((0 : Int), false) else (bif r1.2 then some ((IntKind.wrap .i64 (0 - (IntKind.wrap .i64 (r2.2 * (65536 : Int))))), true) else some ((IntKind.wrap .i64 (r2.2 * (65536 : Int))), true)))) else none) else none)))))
noncomputable def armplanref6_Number.F : ByteArray → Option (Int × Bool) := lock armplanref6_Number.F0
theorem armplanref6_Number.F_eq : armplanref6_Number.F = armplanref6_Number.F0 := lock_eq _
noncomputable def armplanref6_Number.p : Proc := { nargs := 1, inS := ⟨[(0, .lf (.sc .str))], []⟩, outS := ⟨[(0, .lf (.sc (.int .i64))), (1, .lf (.sc .bool))], []⟩, n0 := 0, R := Int × Bool, F := fun x => armplanref6_Number.F x.1.1, post := fun r => ((r.1, (r.2, ())), ()), un := fun x => (x.1.1, x.1.2.1) }
noncomputable def armplanref6_Number.E : Env := { P := Tryd.prog, ty := tyTab [], glob := glob0, proc := procTab [(41, armplanref6_sign.p), (42, armplanref6_digits.p)], lproc := lprocTab [(0, armplanref6_Number.p0.lp)], n0 := 0, ntmps := 84 }
theorem armplanref6_Number.ok : ProcsOk armplanref6_Number.E := AllSound.ok (l := [(41, armplanref6_sign.p), (42, armplanref6_digits.p)]) (by kernel_rfl) rfl ⟨armplanref6_sign.sound, armplanref6_digits.sound, trivial⟩
noncomputable def armplanref6_Number.body0 : Code := (match Tryd.f29.body with | some c => c | none => .skip)
noncomputable def armplanref6_Number.p0.c : Code := ((codeAt armplanref6_Number.body0 [.r, .r, .r, .r, .r, .r, .l, .r, .l, .r, .r, .r, .l, .r, .b, .b]).getD .skip)
noncomputable def armplanref6_Number.p0.ann : Ann := .z
set_option maxRecDepth 100000 in
theorem armplanref6_Number.p0.eq (x : Tup armplanref6_Number.p0.inS) : peRound armplanref6_Number.E armplanref6_Number.p0.c armplanref6_Number.p0.ann _ armplanref6_Number.p0.inS armplanref6_Number.p0.un armplanref6_Number.p0.outs x = armplanref6_Number.p0.step (armplanref6_Number.p0.un x) := by
  kernel_rfl
set_option maxRecDepth 100000 in
theorem armplanref6_Number.p0.sound : LProcSound armplanref6_Number.E (.loop armplanref6_Number.p0.c) armplanref6_Number.p0.lp :=
  loop_sound (c := armplanref6_Number.p0.c) (ann := armplanref6_Number.p0.ann) armplanref6_Number.ok ((SubsOk_z _ _) : SubsOk armplanref6_Number.E armplanref6_Number.p0.c armplanref6_Number.p0.ann) (by intro a ha; simp only [armplanref6_Number.p0.outs, List.mem_cons, List.not_mem_nil, or_false] at ha; rcases ha with rfl <;> exact fun _ => rfl) armplanref6_Number.p0.eq
noncomputable def armplanref6_Number.ann : Ann := .s (.z) (.s (.z) (.s (.z) (.s (.z) (.s (.z) (.s (.z) (.s (.s (.z) (.s (.s (.z) (.s (.z) (.s (.z) (.s (.s (.z) (.b (.sub 0))) (.z))))) (.z))) (.z)))))))
set_option maxRecDepth 100000 in
theorem armplanref6_Number.eq (x : Tup armplanref6_Number.p.inS) : peFn armplanref6_Number.E Tryd.f29 armplanref6_Number.ann armplanref6_Number.p x = armplanref6_Number.p.F x := by
  have h : peFn armplanref6_Number.E Tryd.f29 armplanref6_Number.ann armplanref6_Number.p x = armplanref6_Number.F0 x.1.1 := by kernel_rfl
  exact h.trans (by show _ = armplanref6_Number.F x.1.1; rw [armplanref6_Number.F_eq])
set_option maxRecDepth 100000 in
theorem armplanref6_Number.sound : ProcSound Tryd.prog glob0 29 armplanref6_Number.p :=
  fn_sound (E := armplanref6_Number.E) (c := armplanref6_Number.body0) (ann := armplanref6_Number.ann) armplanref6_Number.ok Tryd.func29 (of_decide_eq_true (by kernel_rfl)) rfl rfl rfl (by decide +kernel) (⟨(SubsOk_z _ _), ⟨(SubsOk_z _ _), ⟨(SubsOk_z _ _), ⟨(SubsOk_z _ _), ⟨(SubsOk_z _ _), ⟨(SubsOk_z _ _), ⟨⟨(SubsOk_z _ _), ⟨⟨(SubsOk_z _ _), ⟨(SubsOk_z _ _), ⟨(SubsOk_z _ _), ⟨⟨(SubsOk_z _ _), (sub_of rfl armplanref6_Number.p0.sound)⟩, (SubsOk_z _ _)⟩⟩⟩⟩, (SubsOk_z _ _)⟩⟩, (SubsOk_z _ _)⟩⟩⟩⟩⟩⟩⟩ : SubsOk armplanref6_Number.E armplanref6_Number.body0 armplanref6_Number.ann) (fun _ => rfl) rfl armplanref6_Number.eq

/-! ### armplan/armplanref6.Integer: function 31 -/
noncomputable def armplanref6_Integer.F0 (a0 : ByteArray) : Option (Int × Bool) :=
  ((armplanref6_sign.F a0).bind fun r1 => ((armplanref6_digits.F r1.1).bind fun r2 => (bif decide (r2.1 < (1 : Int)) then some ((0 : Int), false) else (bif decide (r2.1 > (15 : Int)) then some ((0 : Int), false) else (bif (r2.1 != (r1.1.size : Int)) then some ((0 : Int), false) else (bif r1.2 then some ((IntKind.wrap .i64 (0 - r2.2)), true) else some (r2.2, true)))))))
noncomputable def armplanref6_Integer.F : ByteArray → Option (Int × Bool) := lock armplanref6_Integer.F0
theorem armplanref6_Integer.F_eq : armplanref6_Integer.F = armplanref6_Integer.F0 := lock_eq _
noncomputable def armplanref6_Integer.p : Proc := { nargs := 1, inS := ⟨[(0, .lf (.sc .str))], []⟩, outS := ⟨[(0, .lf (.sc (.int .i64))), (1, .lf (.sc .bool))], []⟩, n0 := 0, R := Int × Bool, F := fun x => armplanref6_Integer.F x.1.1, post := fun r => ((r.1, (r.2, ())), ()), un := fun x => (x.1.1, x.1.2.1) }
noncomputable def armplanref6_Integer.E : Env := { P := Tryd.prog, ty := tyTab [], glob := glob0, proc := procTab [(41, armplanref6_sign.p), (42, armplanref6_digits.p)], lproc := lprocTab [], n0 := 0, ntmps := 34 }
theorem armplanref6_Integer.ok : ProcsOk armplanref6_Integer.E := AllSound.ok (l := [(41, armplanref6_sign.p), (42, armplanref6_digits.p)]) (by kernel_rfl) rfl ⟨armplanref6_sign.sound, armplanref6_digits.sound, trivial⟩
noncomputable def armplanref6_Integer.body0 : Code := (match Tryd.f31.body with | some c => c | none => .skip)
noncomputable def armplanref6_Integer.ann : Ann := .z
set_option maxRecDepth 100000 in
theorem armplanref6_Integer.eq (x : Tup armplanref6_Integer.p.inS) : peFn armplanref6_Integer.E Tryd.f31 armplanref6_Integer.ann armplanref6_Integer.p x = armplanref6_Integer.p.F x := by
  have h : peFn armplanref6_Integer.E Tryd.f31 armplanref6_Integer.ann armplanref6_Integer.p x = armplanref6_Integer.F0 x.1.1 := by kernel_rfl
  exact h.trans (by show _ = armplanref6_Integer.F x.1.1; rw [armplanref6_Integer.F_eq])
set_option maxRecDepth 100000 in
theorem armplanref6_Integer.sound : ProcSound Tryd.prog glob0 31 armplanref6_Integer.p :=
  fn_sound (E := armplanref6_Integer.E) (c := armplanref6_Integer.body0) (ann := armplanref6_Integer.ann) armplanref6_Integer.ok Tryd.func31 (of_decide_eq_true (by kernel_rfl)) rfl rfl rfl (by decide +kernel) ((SubsOk_z _ _) : SubsOk armplanref6_Integer.E armplanref6_Integer.body0 armplanref6_Integer.ann) (fun _ => rfl) rfl armplanref6_Integer.eq

/-! ### armplan/armplanlaw6.splits: function 11 -/
noncomputable def armplanlaw6_splits.F0 (a0 : ByteArray) : Option (Bool) :=
  ((token_Split.F a0).bind fun r1 => ((armplanref6_Split.F a0).bind fun r2 => ((armplanmake_Same_Word.F r1.2.2 r2.2.2).bind fun r3 => (bif r3 then some ((r1.1 == r2.1) && ((r1.2.1 == r2.2.1) && true)) else some false))))
noncomputable def armplanlaw6_splits.F : ByteArray → Option (Bool) := lock armplanlaw6_splits.F0
theorem armplanlaw6_splits.F_eq : armplanlaw6_splits.F = armplanlaw6_splits.F0 := lock_eq _
noncomputable def armplanlaw6_splits.p : Proc := { nargs := 1, inS := ⟨[(0, .lf (.sc .str))], []⟩, outS := ⟨[(0, .lf (.sc .bool))], []⟩, n0 := 0, R := Bool, F := fun x => armplanlaw6_splits.F x.1.1, post := fun r => ((r, ()), ()), un := fun x => x.1.1 }
noncomputable def armplanlaw6_splits.E : Env := { P := Tryd.prog, ty := tyTab [], glob := glob0, proc := procTab [(13, token_Split.p), (22, armplanref6_Split.p), (21, armplanmake_Same_Word.p)], lproc := lprocTab [], n0 := 0, ntmps := 25 }
theorem armplanlaw6_splits.ok : ProcsOk armplanlaw6_splits.E := AllSound.ok (l := [(13, token_Split.p), (22, armplanref6_Split.p), (21, armplanmake_Same_Word.p)]) (by kernel_rfl) rfl ⟨token_Split.sound, armplanref6_Split.sound, armplanmake_Same_Word.sound, trivial⟩
noncomputable def armplanlaw6_splits.body0 : Code := (match Tryd.f11.body with | some c => c | none => .skip)
noncomputable def armplanlaw6_splits.ann : Ann := .z
set_option maxRecDepth 100000 in
theorem armplanlaw6_splits.eq (x : Tup armplanlaw6_splits.p.inS) : peFn armplanlaw6_splits.E Tryd.f11 armplanlaw6_splits.ann armplanlaw6_splits.p x = armplanlaw6_splits.p.F x := by
  have h : peFn armplanlaw6_splits.E Tryd.f11 armplanlaw6_splits.ann armplanlaw6_splits.p x = armplanlaw6_splits.F0 x.1.1 := by kernel_rfl
  exact h.trans (by show _ = armplanlaw6_splits.F x.1.1; rw [armplanlaw6_splits.F_eq])
set_option maxRecDepth 100000 in
theorem armplanlaw6_splits.sound : ProcSound Tryd.prog glob0 11 armplanlaw6_splits.p :=
  fn_sound (E := armplanlaw6_splits.E) (c := armplanlaw6_splits.body0) (ann := armplanlaw6_splits.ann) armplanlaw6_splits.ok Tryd.func11 (of_decide_eq_true (by kernel_rfl)) rfl rfl rfl (by decide +kernel) ((SubsOk_z _ _) : SubsOk armplanlaw6_splits.E armplanlaw6_splits.body0 armplanlaw6_splits.ann) (fun _ => rfl) rfl armplanlaw6_splits.eq

/-! ### armplan/token.Number: function 14 -/
noncomputable def token_Number.p0.round (v0 : Bool) (v1 : Int) (v2 : Int) (v3 : ByteArray) (v4 : Int) : Option ((Bool × Int × Int × ByteArray × Int) ⊕ ((Bool × Int × Int))) :=
  (bif decide (v4 < (v3.size : Int)) then some (.inl (v0, v1, (IntKind.wrap .i64 (v2 * (10 : Int))), v3, (v4 + rnW v3 v4))) else some (.inr (v0, v1, v2)))
noncomputable def token_Number.p0.step (s : Bool × Int × Int × ByteArray × Int) : Option ((Bool × Int × Int × ByteArray × Int) ⊕ ((Bool × Int × Int))) := token_Number.p0.round s.1 s.2.1 s.2.2.1 s.2.2.2.1 s.2.2.2.2
noncomputable def token_Number.p0.inS : Shape := ⟨[(4, .lf (.sc .bool)), (8, .lf (.sc (.int .i64))), (10, .lf (.sc (.int .i64))), (41, .lf (.bp 0 0))], [.iter]⟩
noncomputable def token_Number.p0.w0 : Way := { ex := (.ex 0), S := ⟨[(4, .lf (.sc .bool)), (8, .lf (.sc (.int .i64))), (10, .lf (.sc (.int .i64)))], []⟩, R := Bool × Int × Int, post := fun r => ((r.1, (r.2.1, (r.2.2, ()))), ()), un := fun x => (x.1.1, x.1.2.1, x.1.2.2.1) }
noncomputable def token_Number.p0.outs : List Way := [token_Number.p0.w0]
noncomputable def token_Number.p0.un (x : Tup token_Number.p0.inS) : Bool × Int × Int × ByteArray × Int := (x.1.1, x.1.2.1, x.1.2.2.1, x.2.1.1, x.2.1.2)
noncomputable def token_Number.p0.lp : LProc := { inS := token_Number.p0.inS, outs := token_Number.p0.outs, F := fun x => loopF token_Number.p0.step (token_Number.p0.un x) }
noncomputable def token_Number.F0 (a0 : ByteArray) : Option (Int × Bool) :=
  ((libCutPrefix.F a0 (⟨#[45]⟩ : ByteArray)).bind fun r1 => ((strings_Cut.F r1.1 (⟨#[46]⟩ : ByteArray)).bind fun r2 => ((token_digits.F r2.1 (5 : Int)).bind fun r3 => (bif (!r3) then some ((0 : Int), false) else (bif r2.2.2 then ((token_digits.F r2.2.1 (6 : Int)).bind fun r4 => (bif (!r4) then some ((0 : Int), false) else (bif (catOk r2.1 r2.2.1) then ((libParseInt.F (r2.1 ++ r2.2.1) (10 : Int) (64 : Int)).bind fun r5 => ((loopF token_Number.p0.step (r1.2, r5, (1 : Int), r2.2.1, (0 : Int))).bind fun y6 => (bif ((IntKind.wrap .i64 ((2 : Int) * y6.2.2)) != 0) then (bif decide ((IntKind.wrap .i64 ((IntKind.wrap .i64 ((IntKind.wrap .i64 ((IntKind.wrap .i64 ((2 : Int) * y6.2.1)) * (65536 : Int))) + y6.2.2)).tdiv (IntKind.wrap .i64 ((2 : Int) * y6.2.2)))) > (2147483648 : Int)) then some ((0 : Int), false) else ((token_signed.F (IntKind.wrap .i64 ((IntKind.wrap .i64 ((IntKind.wrap .i64 ((IntKind.wrap .i64 ((2 : Int) * y6.2.1)) * (65536 : Int))) + y6.2.2)).tdiv (IntKind.wrap .i64 ((2 : Int) * y6.2.2)))) y6.1).bind fun r7 => some (r7, true))) else none))) else none))) else (bif (catOk r2.1 r2.2.1) then ((libParseInt.F (r2.1 ++ r2.2.1) (10 : Int) (64 : Int)).bind fun r8 => ((loopF token_Number.p0.step (r1.2, r8, (1 : Int), r2.2.1, (0 : Int))).bind fun y9 => (bif ((IntKind.wrap .i64 ((2 : Int) * y9.2.2)) != 0) then (bif decide ((IntKind.wrap .i64 ((IntKind.wrap .i64 ((IntKind.wrap .i64 ((IntKind.wrap .i64 ((2 : Int) * y9.2.1)) * (65536 : Int))) + y9.2.2)).tdiv (IntKind.wrap .i64 ((2 : Int) * y9.2.2)))) > (2147483648 : Int)) then some ((0 : Int), false) else ((token_signed.F (IntKind.wrap .i64 ((IntKind.wrap .i64 ((IntKind.wrap .i64 ((IntKind.wrap .i64 ((2 : Int) * y9.2.1)) * (65536 : Int))) + y9.2.2)).tdiv (IntKind.wrap .i64 ((2 : Int) * y9.2.2)))) y9.1).bind fun r10 => some (r10, true))) else none))) else none))))))
noncomputable def token_Number.F : ByteArray → Option (Int × Bool) := lock token_Number.F0
theorem token_Number.F_eq : token_Number.F = token_Number.F0 := lock_eq _
noncomputable def token_Number.p : Proc := { nargs := 1, inS := ⟨[(0, .lf (.sc .str))], []⟩, outS := ⟨[(0, .lf (.sc (.int .i64))), (1, .lf (.sc .bool))], []⟩, n0 := 0, R := Int × Bool, F := fun x => token_Number.F x.1.1, post := fun r => ((r.1, (r.2, ())), ()), un := fun x => (x.1.1, x.1.2.1) }
noncomputable def token_Number.E : Env := { P := Tryd.prog, ty := tyTab [], glob := glob0, proc := procTab [(24, lib_CutPrefix.p), (25, strings_Cut.p), (26, token_digits.p), (27, lib_ParseInt.p), (28, token_signed.p)], lproc := lprocTab [(0, token_Number.p0.lp)], n0 := 0, ntmps := 59 }
theorem token_Number.ok : ProcsOk token_Number.E := AllSound.ok (l := [(24, lib_CutPrefix.p), (25, strings_Cut.p), (26, token_digits.p), (27, lib_ParseInt.p), (28, token_signed.p)]) (by kernel_rfl) rfl ⟨lib_CutPrefix.sound, strings_Cut.sound, token_digits.sound, lib_ParseInt.sound, token_signed.sound, trivial⟩
noncomputable def token_Number.body0 : Code := (match Tryd.f14.body with | some c => c | none => .skip)
noncomputable def token_Number.p0.c : Code := ((codeAt token_Number.body0 [.r, .r, .r, .r, .r, .r, .l, .r, .b, .b]).getD .skip)
noncomputable def token_Number.p0.ann : Ann := .z
set_option maxRecDepth 100000 in
theorem token_Number.p0.eq (x : Tup token_Number.p0.inS) : peRound token_Number.E token_Number.p0.c token_Number.p0.ann _ token_Number.p0.inS token_Number.p0.un token_Number.p0.outs x = token_Number.p0.step (token_Number.p0.un x) := by
  kernel_rfl
set_option maxRecDepth 100000 in
theorem token_Number.p0.sound : LProcSound token_Number.E (.loop token_Number.p0.c) token_Number.p0.lp :=
  loop_sound (c := token_Number.p0.c) (ann := token_Number.p0.ann) token_Number.ok ((SubsOk_z _ _) : SubsOk token_Number.E token_Number.p0.c token_Number.p0.ann) (by intro a ha; simp only [token_Number.p0.outs, List.mem_cons, List.not_mem_nil, or_false] at ha; rcases ha with rfl <;> exact fun _ => rfl) token_Number.p0.eq
noncomputable def token_Number.ann : Ann := .s (.z) (.s (.z) (.s (.z) (.s (.z) (.s (.z) (.s (.z) (.s (.s (.z) (.b (.sub 0))) (.z)))))))
set_option maxRecDepth 100000 in
theorem token_Number.eq (x : Tup token_Number.p.inS) : peFn token_Number.E Tryd.f14 token_Number.ann token_Number.p x = token_Number.p.F x := by
  have h : peFn token_Number.E Tryd.f14 token_Number.ann token_Number.p x = token_Number.F0 x.1.1 := by kernel_rfl
  exact h.trans (by show _ = token_Number.F x.1.1; rw [token_Number.F_eq])
set_option maxRecDepth 100000 in
theorem token_Number.sound : ProcSound Tryd.prog glob0 14 token_Number.p :=
  fn_sound (E := token_Number.E) (c := token_Number.body0) (ann := token_Number.ann) token_Number.ok Tryd.func14 (of_decide_eq_true (by kernel_rfl)) rfl rfl rfl (by decide +kernel) (⟨(SubsOk_z _ _), ⟨(SubsOk_z _ _), ⟨(SubsOk_z _ _), ⟨(SubsOk_z _ _), ⟨(SubsOk_z _ _), ⟨(SubsOk_z _ _), ⟨⟨(SubsOk_z _ _), (sub_of rfl token_Number.p0.sound)⟩, (SubsOk_z _ _)⟩⟩⟩⟩⟩⟩⟩ : SubsOk token_Number.E token_Number.body0 token_Number.ann) (fun _ => rfl) rfl token_Number.eq

/-! ### armplan/armplanlaw6.numbers: function 18 -/
noncomputable def armplanlaw6_numbers.F0 (a0 : ByteArray) : Option (Bool) :=
  ((token_Number.F a0).bind fun r1 => ((armplanref6_Number.F a0).bind fun r2 => ((token_Integer.F a0).bind fun r3 => ((armplanref6_Integer.F a0).bind fun r4 => (bif (r1.1 == r2.1) then (bif (r1.2 == r2.2) then (bif (r3.1 == r4.1) then (bif (r3.2 == r4.2) then ((token_Name.F a0).bind fun r5 => ((armplanref6_Name.F a0).bind fun r6 => some (r5 == r6))) else some false) else some false) else some false) else some false)))))
noncomputable def armplanlaw6_numbers.F : ByteArray → Option (Bool) := lock armplanlaw6_numbers.F0
theorem armplanlaw6_numbers.F_eq : armplanlaw6_numbers.F = armplanlaw6_numbers.F0 := lock_eq _
noncomputable def armplanlaw6_numbers.p : Proc := { nargs := 1, inS := ⟨[(0, .lf (.sc .str))], []⟩, outS := ⟨[(0, .lf (.sc .bool))], []⟩, n0 := 0, R := Bool, F := fun x => armplanlaw6_numbers.F x.1.1, post := fun r => ((r, ()), ()), un := fun x => x.1.1 }
noncomputable def armplanlaw6_numbers.E : Env := { P := Tryd.prog, ty := tyTab [], glob := glob0, proc := procTab [(14, token_Number.p), (29, armplanref6_Number.p), (30, token_Integer.p), (31, armplanref6_Integer.p), (16, token_Name.p), (17, armplanref6_Name.p)], lproc := lprocTab [], n0 := 0, ntmps := 56 }
theorem armplanlaw6_numbers.ok : ProcsOk armplanlaw6_numbers.E := AllSound.ok (l := [(14, token_Number.p), (29, armplanref6_Number.p), (30, token_Integer.p), (31, armplanref6_Integer.p), (16, token_Name.p), (17, armplanref6_Name.p)]) (by kernel_rfl) rfl ⟨token_Number.sound, armplanref6_Number.sound, token_Integer.sound, armplanref6_Integer.sound, token_Name.sound, armplanref6_Name.sound, trivial⟩
noncomputable def armplanlaw6_numbers.body0 : Code := (match Tryd.f18.body with | some c => c | none => .skip)
noncomputable def armplanlaw6_numbers.ann : Ann := .z
set_option maxRecDepth 100000 in
theorem armplanlaw6_numbers.eq (x : Tup armplanlaw6_numbers.p.inS) : peFn armplanlaw6_numbers.E Tryd.f18 armplanlaw6_numbers.ann armplanlaw6_numbers.p x = armplanlaw6_numbers.p.F x := by
  have h : peFn armplanlaw6_numbers.E Tryd.f18 armplanlaw6_numbers.ann armplanlaw6_numbers.p x = armplanlaw6_numbers.F0 x.1.1 := by kernel_rfl
  exact h.trans (by show _ = armplanlaw6_numbers.F x.1.1; rw [armplanlaw6_numbers.F_eq])
set_option maxRecDepth 100000 in
theorem armplanlaw6_numbers.sound : ProcSound Tryd.prog glob0 18 armplanlaw6_numbers.p :=
  fn_sound (E := armplanlaw6_numbers.E) (c := armplanlaw6_numbers.body0) (ann := armplanlaw6_numbers.ann) armplanlaw6_numbers.ok Tryd.func18 (of_decide_eq_true (by kernel_rfl)) rfl rfl rfl (by decide +kernel) ((SubsOk_z _ _) : SubsOk armplanlaw6_numbers.E armplanlaw6_numbers.body0 armplanlaw6_numbers.ann) (fun _ => rfl) rfl armplanlaw6_numbers.eq

/-! ### armplan/armplanlaw6.awake: function 10 -/
noncomputable def armplanlaw6_awake.F0 (_ : Unit) : Option (Bool) :=
  ((token_Split.F (⟨#[97, 32, 98, 35, 99]⟩ : ByteArray)).bind fun r1 => ((token_Number.F (⟨#[45, 49, 46, 53]⟩ : ByteArray)).bind fun r2 => (bif (r1.1 == (0 : Int)) then ((armplanmake_Same_Word.F r1.2.2 ([((⟨#[97]⟩ : ByteArray), ((1 : Int), (1 : Int))), ((⟨#[98]⟩ : ByteArray), ((1 : Int), (3 : Int)))] : List ((ByteArray × (Int × Int))))).bind fun r3 => (bif r3 then (bif r2.2 then some (r2.1 == (-98304 : Int)) else some false) else some false)) else some false)))
noncomputable def armplanlaw6_awake.F : Unit → Option (Bool) := lock armplanlaw6_awake.F0
theorem armplanlaw6_awake.F_eq : armplanlaw6_awake.F = armplanlaw6_awake.F0 := lock_eq _
noncomputable def armplanlaw6_awake.p : Proc := { nargs := 0, inS := ⟨[], []⟩, outS := ⟨[(0, .lf (.sc .bool))], []⟩, n0 := 0, R := Bool, F := fun x => armplanlaw6_awake.F (), post := fun r => ((r, ()), ()), un := fun x => x.1.1 }
noncomputable def armplanlaw6_awake.E : Env := { P := Tryd.prog, ty := tyTab [(36, (.pair .str (.pair (.int .i64) (.int .i64))))], glob := glob0, proc := procTab [(13, token_Split.p), (14, token_Number.p), (21, armplanmake_Same_Word.p)], lproc := lprocTab [], n0 := 0, ntmps := 30 }
theorem armplanlaw6_awake.ok : ProcsOk armplanlaw6_awake.E := AllSound.ok (l := [(13, token_Split.p), (14, token_Number.p), (21, armplanmake_Same_Word.p)]) (by kernel_rfl) rfl ⟨token_Split.sound, token_Number.sound, armplanmake_Same_Word.sound, trivial⟩
noncomputable def armplanlaw6_awake.body0 : Code := (match Tryd.f10.body with | some c => c | none => .skip)
noncomputable def armplanlaw6_awake.ann : Ann := .z
set_option maxRecDepth 100000 in
theorem armplanlaw6_awake.eq (x : Tup armplanlaw6_awake.p.inS) : peFn armplanlaw6_awake.E Tryd.f10 armplanlaw6_awake.ann armplanlaw6_awake.p x = armplanlaw6_awake.p.F x := by
  have h : peFn armplanlaw6_awake.E Tryd.f10 armplanlaw6_awake.ann armplanlaw6_awake.p x = armplanlaw6_awake.F0 () := by kernel_rfl
  exact h.trans (by show _ = armplanlaw6_awake.F (); rw [armplanlaw6_awake.F_eq])
set_option maxRecDepth 100000 in
theorem armplanlaw6_awake.sound : ProcSound Tryd.prog glob0 10 armplanlaw6_awake.p :=
  fn_sound (E := armplanlaw6_awake.E) (c := armplanlaw6_awake.body0) (ann := armplanlaw6_awake.ann) armplanlaw6_awake.ok Tryd.func10 (of_decide_eq_true (by kernel_rfl)) rfl rfl rfl (by decide +kernel) ((SubsOk_z _ _) : SubsOk armplanlaw6_awake.E armplanlaw6_awake.body0 armplanlaw6_awake.ann) (fun _ => rfl) rfl armplanlaw6_awake.eq

end Go.Abs
