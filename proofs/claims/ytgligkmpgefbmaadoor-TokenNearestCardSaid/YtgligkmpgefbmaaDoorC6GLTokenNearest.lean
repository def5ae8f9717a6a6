/- A part of the proof that the text with the row names: printed readings of functions, or plain lemmas about them. -/
import Derived.Test.YtgligkmpgefbmaaDoorC6G
set_option linter.unusedVariables false
set_option linter.unusedSimpArgs false
namespace Go.Abs
open Go Go.Proofs

/-! ### armplan/armplanlaw6.TokenNearest: function 6 -/
noncomputable def armplanlaw6_TokenNearest.p0.round (v0 : Int) (v1 : Int) (v2 : Int) (v3 : Int) (v4 : Int) : Option ((Int × Int × Int × Int × Int) ⊕ ((Int × Int × Int × Int))) :=
  (bif decide (v4 < v2) then some (.inl (v0, v1, v2, (IntKind.wrap .i64 (v3 * (10 : Int))), (IntKind.wrap .i64 (v4 + (1 : Int))))) else some (.inr (v0, v1, v2, v3)))
noncomputable def armplanlaw6_TokenNearest.p0.step (s : Int × Int × Int × Int × Int) : Option ((Int × Int × Int × Int × Int) ⊕ ((Int × Int × Int × Int))) := armplanlaw6_TokenNearest.p0.round s.1 s.2.1 s.2.2.1 s.2.2.2.1 s.2.2.2.2
noncomputable def armplanlaw6_TokenNearest.p0.inS : Shape := ⟨[(0, .lf (.sc (.int .u16))), (1, .lf (.sc (.int .u16))), (7, .lf (.sc (.int .i64))), (8, .lf (.sc (.int .i64))), (9, .lf (.sc (.int .i64)))], []⟩
noncomputable def armplanlaw6_TokenNearest.p0.w0 : Way := { ex := (.ex 0), S := ⟨[(0, .lf (.sc (.int .u16))), (1, .lf (.sc (.int .u16))), (7, .lf (.sc (.int .i64))), (8, .lf (.sc (.int .i64)))], []⟩, R := Int × Int × Int × Int, post := fun r => ((r.1, (r.2.1, (r.2.2.1, (r.2.2.2, ())))), ()), un := fun x => (x.1.1, x.1.2.1, x.1.2.2.1, x.1.2.2.2.1) }
noncomputable def armplanlaw6_TokenNearest.p0.outs : List Way := [armplanlaw6_TokenNearest.p0.w0]
noncomputable def armplanlaw6_TokenNearest.p0.un (x : Tup armplanlaw6_TokenNearest.p0.inS) : Int × Int × Int × Int × Int := (x.1.1, x.1.2.1, x.1.2.2.1, x.1.2.2.2.1, x.1.2.2.2.2.1)
noncomputable def armplanlaw6_TokenNearest.p0.lp : LProc := { inS := armplanlaw6_TokenNearest.p0.inS, outs := armplanlaw6_TokenNearest.p0.outs, F := fun x => loopF armplanlaw6_TokenNearest.p0.step (armplanlaw6_TokenNearest.p0.un x) }
noncomputable def armplanlaw6_TokenNearest.F0 (a0 : Int) (a1 : Int) (a2 : Int) : Option (Bool) :=
  ((loopF armplanlaw6_TokenNearest.p0.step (a0, a1, (IntKind.wrap .i64 ((IntKind.wrap .i64 (a2.tmod (4 : Int))) + (1 : Int))), (1 : Int), (0 : Int))).bind fun y1 => (bif ((32000 : Int) != 0) then (bif (y1.2.2.2 != 0) then ((armplanref6_Decimal.F (IntKind.wrap .i64 (y1.1.tmod (32000 : Int))) (1 : Int)).bind fun r2 => (bif (catOk r2 (⟨#[46]⟩ : ByteArray)) then ((armplanref6_Decimal.F ((IntKind.wrap .i64 y1.2.1).tmod y1.2.2.2) y1.2.2.1).bind fun r3 => (bif (catOk (r2 ++ (⟨#[46]⟩ : ByteArray)) r3) then ((token_Number.F ((r2 ++ (⟨#[46]⟩ : ByteArray)) ++ r3)).bind fun r4 => ((armplanlaw6_awake.F ()).bind fun r5 => (bif r5 then (bif r4.2 then (bif decide ((IntKind.wrap .i64 ((2 : Int) * (IntKind.wrap .i64 ((IntKind.wrap .i64 (r4.1 * y1.2.2.2)) - (IntKind.wrap .i64 ((IntKind.wrap .i64 ((IntKind.wrap .i64 ((IntKind.wrap .i64 (y1.1.tmod (32000 : Int))) * y1.2.2.2)) + ((IntKind.wrap .i64 y1.2.1).tmod y1.2.2.2))) * (65536 : Int))))))) ≤ y1.2.2.2) then some (decide ((IntKind.wrap .i64 ((-2 : Int) * (IntKind.wrap .i64 ((IntKind.wrap .i64 (r4.1 * y1.2.2.2)) - (IntKind.wrap .i64 ((IntKind.wrap .i64 ((IntKind.wrap .i64 ((IntKind.wrap .i64 (y1.1.tmod (32000 : Int))) * y1.2.2.2)) + ((IntKind.wrap .i64 y1.2.1).tmod y1.2.2.2))) * (65536 : Int))))))) < y1.2.2.2)) else some false) else some false) else some false))) else none)) else none)) else none) else none))
noncomputable def armplanlaw6_TokenNearest.F : Int → Int → Int → Option (Bool) := lock armplanlaw6_TokenNearest.F0
theorem armplanlaw6_TokenNearest.F_eq : armplanlaw6_TokenNearest.F = armplanlaw6_TokenNearest.F0 := lock_eq _
noncomputable def armplanlaw6_TokenNearest.p : Proc := { nargs := 3, inS := ⟨[(0, .lf (.sc (.int .u16))), (1, .lf (.sc (.int .u16))), (2, .lf (.sc (.int .u8)))], []⟩, outS := ⟨[(0, .lf (.sc .bool))], []⟩, n0 := 0, R := Bool, F := fun x => armplanlaw6_TokenNearest.F x.1.1 x.1.2.1 x.1.2.2.1, post := fun r => ((r, ()), ()), un := fun x => x.1.1 }
noncomputable def armplanlaw6_TokenNearest.E : Env := { P := Tryd.prog, ty := tyTab [], glob := glob0, proc := procTab [(15, armplanref6_Decimal.p), (14, token_Number.p), (10, armplanlaw6_awake.p)], lproc := lprocTab [(0, armplanlaw6_TokenNearest.p0.lp)], n0 := 0, ntmps := 70 }
theorem armplanlaw6_TokenNearest.ok : ProcsOk armplanlaw6_TokenNearest.E := AllSound.ok (l := [(15, armplanref6_Decimal.p), (14, token_Number.p), (10, armplanlaw6_awake.p)]) (by kernel_rfl) rfl ⟨armplanref6_Decimal.sound, token_Number.sound, armplanlaw6_awake.sound, trivial⟩
noncomputable def armplanlaw6_TokenNearest.body0 : Code := (match Tryd.f6.body with | some c => c | none => .skip)
noncomputable def armplanlaw6_TokenNearest.p0.c : Code := ((codeAt armplanlaw6_TokenNearest.body0 [.r, .r, .l, .r, .b, .b]).getD .skip)
noncomputable def armplanlaw6_TokenNearest.p0.ann : Ann := .z
set_option maxRecDepth 100000 in
theorem armplanlaw6_TokenNearest.p0.eq (x : Tup armplanlaw6_TokenNearest.p0.inS) : peRound armplanlaw6_TokenNearest.E armplanlaw6_TokenNearest.p0.c armplanlaw6_TokenNearest.p0.ann _ armplanlaw6_TokenNearest.p0.inS armplanlaw6_TokenNearest.p0.un armplanlaw6_TokenNearest.p0.outs x = armplanlaw6_TokenNearest.p0.step (armplanlaw6_TokenNearest.p0.un x) := by
  kernel_rfl
set_option maxRecDepth 100000 in
theorem armplanlaw6_TokenNearest.p0.sound : LProcSound armplanlaw6_TokenNearest.E (.loop armplanlaw6_TokenNearest.p0.c) armplanlaw6_TokenNearest.p0.lp :=
  loop_sound (c := armplanlaw6_TokenNearest.p0.c) (ann := armplanlaw6_TokenNearest.p0.ann) armplanlaw6_TokenNearest.ok ((SubsOk_z _ _) : SubsOk armplanlaw6_TokenNearest.E armplanlaw6_TokenNearest.p0.c armplanlaw6_TokenNearest.p0.ann) (by intro a ha; simp only [armplanlaw6_TokenNearest.p0.outs, List.mem_cons, List.not_mem_nil, or_false] at ha; rcases ha with rfl <;> exact fun _ => rfl) armplanlaw6_TokenNearest.p0.eq
noncomputable def armplanlaw6_TokenNearest.ann : Ann := .s (.z) (.s (.z) (.s (.s (.z) (.b (.sub 0))) (.z)))
set_option maxRecDepth 100000 in
theorem armplanlaw6_TokenNearest.eq (x : Tup armplanlaw6_TokenNearest.p.inS) : peFn armplanlaw6_TokenNearest.E Tryd.f6 armplanlaw6_TokenNearest.ann armplanlaw6_TokenNearest.p x = armplanlaw6_TokenNearest.p.F x := by
  have h : peFn armplanlaw6_TokenNearest.E Tryd.f6 armplanlaw6_TokenNearest.ann armplanlaw6_TokenNearest.p x = armplanlaw6_TokenNearest.F0 x.1.1 x.1.2.1 x.1.2.2.1 := by kernel_rfl
  exact h.trans (by show _ = armplanlaw6_TokenNearest.F x.1.1 x.1.2.1 x.1.2.2.1; rw [armplanlaw6_TokenNearest.F_eq])
set_option maxRecDepth 100000 in
theorem armplanlaw6_TokenNearest.sound : ProcSound Tryd.prog glob0 6 armplanlaw6_TokenNearest.p :=
  fn_sound (E := armplanlaw6_TokenNearest.E) (c := armplanlaw6_TokenNearest.body0) (ann := armplanlaw6_TokenNearest.ann) armplanlaw6_TokenNearest.ok Tryd.func6 (of_decide_eq_true (by kernel_rfl)) rfl rfl rfl (by decide +kernel) (⟨(SubsOk_z _ _), ⟨(SubsOk_z _ _), ⟨⟨(SubsOk_z _ _), (sub_of rfl armplanlaw6_TokenNearest.p0.sound)⟩, (SubsOk_z _ _)⟩⟩⟩ : SubsOk armplanlaw6_TokenNearest.E armplanlaw6_TokenNearest.body0 armplanlaw6_TokenNearest.ann) (fun _ => rfl) rfl armplanlaw6_TokenNearest.eq

end Go.Abs
