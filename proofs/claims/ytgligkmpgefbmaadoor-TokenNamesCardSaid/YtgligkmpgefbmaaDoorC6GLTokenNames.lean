/- A part of the proof that the text with the row names: printed readings of functions, or plain lemmas about them. -/
import Derived.Test.YtgligkmpgefbmaaDoorC6G
set_option linter.unusedVariables false
set_option linter.unusedSimpArgs false
namespace Go.Abs
open Go Go.Proofs

/-! ### armplan/armplanlaw6.TokenNames: function 7 -/
noncomputable def armplanlaw6_TokenNames.p0.round (v0 : List (Int)) (v1 : ByteArray) (v2 : Int) : Option ((List (Int) × ByteArray × Int) ⊕ ((ByteArray))) :=
  (bif decide (v2 < (v0.length : Int)) then (bif decide (v2 < (20 : Int)) then (bif decide (0 ≤ v2) then (bif decide (v2 < (v0.length : Int)) then (bif decide (0 ≤ ((v0.getD v2.toNat (0 : Int)).tmod (9 : Int))) then (bif decide (((v0.getD v2.toNat (0 : Int)).tmod (9 : Int)) < (9 : Int)) then (bif (catOk v1 (([(⟨#[97]⟩ : ByteArray), (⟨#[122]⟩ : ByteArray), (⟨#[95]⟩ : ByteArray), (⟨#[48]⟩ : ByteArray), (⟨#[119, 111, 114, 108, 100]⟩ : ByteArray), (⟨#[66]⟩ : ByteArray), (⟨#[57]⟩ : ByteArray), (⟨#[45]⟩ : ByteArray), (⟨#[97, 114, 109]⟩ : ByteArray)] : List ByteArray).getD ((v0.getD v2.toNat (0 : Int)).tmod (9 : Int)).toNat (⟨#[]⟩ : ByteArray))) then some (.inl (v0, (v1 ++ (([(⟨#[97]⟩ : ByteArray), (⟨#[122]⟩ : ByteArray), (⟨#[95]⟩ : ByteArray), (⟨#[48]⟩ : ByteArray), (⟨#[119, 111, 114, 108, 100]⟩ : ByteArray), (⟨#[66]⟩ : ByteArray), (⟨#[57]⟩ : ByteArray), (⟨#[45]⟩ : ByteArray), (⟨#[97, 114, 109]⟩ : ByteArray)] : List ByteArray).getD ((v0.getD v2.toNat (0 : Int)).tmod (9 : Int)).toNat (⟨#[]⟩ : ByteArray))), (IntKind.wrap .i64 (v2 + (1 : Int))))) else none) else none) else none) else none) else none) else some (.inr v1)) else some (.inr v1))
noncomputable def armplanlaw6_TokenNames.p0.step (s : List (Int) × ByteArray × Int) : Option ((List (Int) × ByteArray × Int) ⊕ ((ByteArray))) := armplanlaw6_TokenNames.p0.round s.1 s.2.1 s.2.2
noncomputable def armplanlaw6_TokenNames.p0.inS : Shape := ⟨[(0, .lf (.dat (.int .u8))), (3, .lf (.sc .str)), (4, .lf (.sc (.int .i64)))], []⟩
noncomputable def armplanlaw6_TokenNames.p0.w0 : Way := { ex := (.ex 0), S := ⟨[(3, .lf (.sc .str))], []⟩, R := ByteArray, post := fun r => ((r, ()), ()), un := fun x => x.1.1 }
noncomputable def armplanlaw6_TokenNames.p0.outs : List Way := [armplanlaw6_TokenNames.p0.w0]
noncomputable def armplanlaw6_TokenNames.p0.un (x : Tup armplanlaw6_TokenNames.p0.inS) : List (Int) × ByteArray × Int := (x.1.1, x.1.2.1, x.1.2.2.1)
noncomputable def armplanlaw6_TokenNames.p0.lp : LProc := { inS := armplanlaw6_TokenNames.p0.inS, outs := armplanlaw6_TokenNames.p0.outs, F := fun x => loopF armplanlaw6_TokenNames.p0.step (armplanlaw6_TokenNames.p0.un x) }
noncomputable def armplanlaw6_TokenNames.F0 (a0 : List (Int)) : Option (Bool) :=
  ((loopF armplanlaw6_TokenNames.p0.step (a0, (⟨#[]⟩ : ByteArray), (0 : Int))).bind fun y1 => ((armplanlaw6_awake.F ()).bind fun r2 => (bif r2 then ((token_Name.F y1).bind fun r3 => ((armplanref6_Name.F y1).bind fun r4 => (bif (r3 == r4) then ((token_Name.F (⟨#[119, 111, 114, 108, 100]⟩ : ByteArray)).bind fun r5 => (bif (!r5) then ((token_Name.F (⟨#[97, 114, 109, 95, 49]⟩ : ByteArray)).bind fun r6 => some r6) else some false)) else some false))) else some false)))
noncomputable def armplanlaw6_TokenNames.F : (List (Int)) → Option (Bool) := lock armplanlaw6_TokenNames.F0
theorem armplanlaw6_TokenNames.F_eq : armplanlaw6_TokenNames.F = armplanlaw6_TokenNames.F0 := lock_eq _
noncomputable def armplanlaw6_TokenNames.p : Proc := { nargs := 1, inS := ⟨[(0, .lf (.dat (.int .u8)))], []⟩, outS := ⟨[(0, .lf (.sc .bool))], []⟩, n0 := 0, R := Bool, F := fun x => armplanlaw6_TokenNames.F x.1.1, post := fun r => ((r, ()), ()), un := fun x => x.1.1 }
noncomputable def armplanlaw6_TokenNames.E : Env := { P := Tryd.prog, ty := tyTab [], glob := glob0, proc := procTab [(10, armplanlaw6_awake.p), (16, token_Name.p), (17, armplanref6_Name.p)], lproc := lprocTab [(0, armplanlaw6_TokenNames.p0.lp)], n0 := 0, ntmps := 39 }
theorem armplanlaw6_TokenNames.ok : ProcsOk armplanlaw6_TokenNames.E := AllSound.ok (l := [(10, armplanlaw6_awake.p), (16, token_Name.p), (17, armplanref6_Name.p)]) (by kernel_rfl) rfl ⟨armplanlaw6_awake.sound, token_Name.sound, armplanref6_Name.sound, trivial⟩
noncomputable def armplanlaw6_TokenNames.body0 : Code := (match Tryd.f7.body with | some c => c | none => .skip)
noncomputable def armplanlaw6_TokenNames.p0.c : Code := ((codeAt armplanlaw6_TokenNames.body0 [.r, .r, .l, .r, .b, .b]).getD .skip)
noncomputable def armplanlaw6_TokenNames.p0.ann : Ann := .z
set_option maxRecDepth 100000 in
theorem armplanlaw6_TokenNames.p0.eq (x : Tup armplanlaw6_TokenNames.p0.inS) : peRound armplanlaw6_TokenNames.E armplanlaw6_TokenNames.p0.c armplanlaw6_TokenNames.p0.ann _ armplanlaw6_TokenNames.p0.inS armplanlaw6_TokenNames.p0.un armplanlaw6_TokenNames.p0.outs x = armplanlaw6_TokenNames.p0.step (armplanlaw6_TokenNames.p0.un x) := by
  kernel_rfl
set_option maxRecDepth 100000 in
theorem armplanlaw6_TokenNames.p0.sound : LProcSound armplanlaw6_TokenNames.E (.loop armplanlaw6_TokenNames.p0.c) armplanlaw6_TokenNames.p0.lp :=
  loop_sound (c := armplanlaw6_TokenNames.p0.c) (ann := armplanlaw6_TokenNames.p0.ann) armplanlaw6_TokenNames.ok ((SubsOk_z _ _) : SubsOk armplanlaw6_TokenNames.E armplanlaw6_TokenNames.p0.c armplanlaw6_TokenNames.p0.ann) (by intro a ha; simp only [armplanlaw6_TokenNames.p0.outs, List.mem_cons, List.not_mem_nil, or_false] at ha; rcases ha with rfl <;> exact fun _ => rfl) armplanlaw6_TokenNames.p0.eq
noncomputable def armplanlaw6_TokenNames.ann : Ann := .s (.z) (.s (.z) (.s (.s (.z) (.b (.sub 0))) (.z)))
set_option maxRecDepth 100000 in
theorem armplanlaw6_TokenNames.eq (x : Tup armplanlaw6_TokenNames.p.inS) : peFn armplanlaw6_TokenNames.E Tryd.f7 armplanlaw6_TokenNames.ann armplanlaw6_TokenNames.p x = armplanlaw6_TokenNames.p.F x := by
  have h : peFn armplanlaw6_TokenNames.E Tryd.f7 armplanlaw6_TokenNames.ann armplanlaw6_TokenNames.p x = armplanlaw6_TokenNames.F0 x.1.1 := by kernel_rfl
  exact h.trans (by show _ = armplanlaw6_TokenNames.F x.1.1; rw [armplanlaw6_TokenNames.F_eq])
set_option maxRecDepth 100000 in
theorem armplanlaw6_TokenNames.sound : ProcSound Tryd.prog glob0 7 armplanlaw6_TokenNames.p :=
  fn_sound (E := armplanlaw6_TokenNames.E) (c := armplanlaw6_TokenNames.body0) (ann := armplanlaw6_TokenNames.ann) armplanlaw6_TokenNames.ok Tryd.func7 (of_decide_eq_true (by kernel_rfl)) rfl rfl rfl (by decide +kernel) (⟨(SubsOk_z _ _), ⟨(SubsOk_z _ _), ⟨⟨(SubsOk_z _ _), (sub_of rfl armplanlaw6_TokenNames.p0.sound)⟩, (SubsOk_z _ _)⟩⟩⟩ : SubsOk armplanlaw6_TokenNames.E armplanlaw6_TokenNames.body0 armplanlaw6_TokenNames.ann) (fun _ => rfl) rfl armplanlaw6_TokenNames.eq

end Go.Abs
