/- A part of the proof that the text with the row names: printed readings of functions, or plain lemmas about them. -/
import Derived.Test.YtgligkmpgefbmaaDoorC6G
set_option linter.unusedVariables false
set_option linter.unusedSimpArgs false
namespace Go.Abs
open Go Go.Proofs

/-! ### armplan/armplanlaw6.TokenNumbers: function 8 -/
noncomputable def armplanlaw6_TokenNumbers.p0.round (v0 : ByteArray) (v1 : List (Int)) (v2 : ByteArray) (v3 : Int) : Option ((ByteArray × List (Int) × ByteArray × Int) ⊕ ((ByteArray × ByteArray))) :=
  (bif decide (v3 < (v1.length : Int)) then (bif decide (v3 < (18 : Int)) then (bif decide (0 ≤ v3) then (bif decide (v3 < (v1.length : Int)) then (bif decide (0 ≤ ((v1.getD v3.toNat (0 : Int)).tmod (8 : Int))) then (bif decide (((v1.getD v3.toNat (0 : Int)).tmod (8 : Int)) < (8 : Int)) then (bif (catOk v2 (([(⟨#[48]⟩ : ByteArray), (⟨#[49]⟩ : ByteArray), (⟨#[55]⟩ : ByteArray), (⟨#[57]⟩ : ByteArray), (⟨#[46]⟩ : ByteArray), (⟨#[45]⟩ : ByteArray), (⟨#[50, 53]⟩ : ByteArray), (⟨#[120]⟩ : ByteArray)] : List ByteArray).getD ((v1.getD v3.toNat (0 : Int)).tmod (8 : Int)).toNat (⟨#[]⟩ : ByteArray))) then some (.inl (v0, v1, (v2 ++ (([(⟨#[48]⟩ : ByteArray), (⟨#[49]⟩ : ByteArray), (⟨#[55]⟩ : ByteArray), (⟨#[57]⟩ : ByteArray), (⟨#[46]⟩ : ByteArray), (⟨#[45]⟩ : ByteArray), (⟨#[50, 53]⟩ : ByteArray), (⟨#[120]⟩ : ByteArray)] : List ByteArray).getD ((v1.getD v3.toNat (0 : Int)).tmod (8 : Int)).toNat (⟨#[]⟩ : ByteArray))), (IntKind.wrap .i64 (v3 + (1 : Int))))) else none) else none) else none) else none) else none) else some (.inr (v0, v2))) else some (.inr (v0, v2)))
noncomputable def armplanlaw6_TokenNumbers.p0.step (s : ByteArray × List (Int) × ByteArray × Int) : Option ((ByteArray × List (Int) × ByteArray × Int) ⊕ ((ByteArray × ByteArray))) := armplanlaw6_TokenNumbers.p0.round s.1 s.2.1 s.2.2.1 s.2.2.2
noncomputable def armplanlaw6_TokenNumbers.p0.inS : Shape := ⟨[(0, .lf (.sc .str)), (1, .lf (.dat (.int .u8))), (5, .lf (.sc .str)), (6, .lf (.sc (.int .i64)))], []⟩
noncomputable def armplanlaw6_TokenNumbers.p0.w0 : Way := { ex := (.ex 0), S := ⟨[(0, .lf (.sc .str)), (5, .lf (.sc .str))], []⟩, R := ByteArray × ByteArray, post := fun r => ((r.1, (r.2, ())), ()), un := fun x => (x.1.1, x.1.2.1) }
noncomputable def armplanlaw6_TokenNumbers.p0.outs : List Way := [armplanlaw6_TokenNumbers.p0.w0]
noncomputable def armplanlaw6_TokenNumbers.p0.un (x : Tup armplanlaw6_TokenNumbers.p0.inS) : ByteArray × List (Int) × ByteArray × Int := (x.1.1, x.1.2.1, x.1.2.2.1, x.1.2.2.2.1)
noncomputable def armplanlaw6_TokenNumbers.p0.lp : LProc := { inS := armplanlaw6_TokenNumbers.p0.inS, outs := armplanlaw6_TokenNumbers.p0.outs, F := fun x => loopF armplanlaw6_TokenNumbers.p0.step (armplanlaw6_TokenNumbers.p0.un x) }
noncomputable def armplanlaw6_TokenNumbers.F0 (a0 : ByteArray) (a1 : List (Int)) : Option (Bool) :=
  ((loopF armplanlaw6_TokenNumbers.p0.step (a0, a1, (⟨#[]⟩ : ByteArray), (0 : Int))).bind fun y1 => ((armplanlaw6_awake.F ()).bind fun r2 => (bif r2 then ((armplanlaw6_numbers.F y1.1).bind fun r3 => (bif r3 then ((armplanlaw6_numbers.F y1.2).bind fun r4 => (bif r4 then (bif (catOk (⟨#[45]⟩ : ByteArray) y1.2) then ((armplanlaw6_numbers.F ((⟨#[45]⟩ : ByteArray) ++ y1.2)).bind fun r5 => (bif r5 then (bif (catOk (⟨#[49, 50, 46]⟩ : ByteArray) y1.2) then ((armplanlaw6_numbers.F ((⟨#[49, 50, 46]⟩ : ByteArray) ++ y1.2)).bind fun r6 => some r6) else none) else some false)) else none) else some false)) else some false)) else some false)))
noncomputable def armplanlaw6_TokenNumbers.F : ByteArray → (List (Int)) → Option (Bool) := lock armplanlaw6_TokenNumbers.F0
theorem armplanlaw6_TokenNumbers.F_eq : armplanlaw6_TokenNumbers.F = armplanlaw6_TokenNumbers.F0 := lock_eq _
noncomputable def armplanlaw6_TokenNumbers.p : Proc := { nargs := 2, inS := ⟨[(0, .lf (.sc .str)), (1, .lf (.dat (.int .u8)))], []⟩, outS := ⟨[(0, .lf (.sc .bool))], []⟩, n0 := 0, R := Bool, F := fun x => armplanlaw6_TokenNumbers.F x.1.1 x.1.2.1, post := fun r => ((r, ()), ()), un := fun x => x.1.1 }
noncomputable def armplanlaw6_TokenNumbers.E : Env := { P := Tryd.prog, ty := tyTab [], glob := glob0, proc := procTab [(10, armplanlaw6_awake.p), (18, armplanlaw6_numbers.p)], lproc := lprocTab [(0, armplanlaw6_TokenNumbers.p0.lp)], n0 := 0, ntmps := 45 }
theorem armplanlaw6_TokenNumbers.ok : ProcsOk armplanlaw6_TokenNumbers.E := AllSound.ok (l := [(10, armplanlaw6_awake.p), (18, armplanlaw6_numbers.p)]) (by kernel_rfl) rfl ⟨armplanlaw6_awake.sound, armplanlaw6_numbers.sound, trivial⟩
noncomputable def armplanlaw6_TokenNumbers.body0 : Code := (match Tryd.f8.body with | some c => c | none => .skip)
noncomputable def armplanlaw6_TokenNumbers.p0.c : Code := ((codeAt armplanlaw6_TokenNumbers.body0 [.r, .r, .l, .r, .b, .b]).getD .skip)
noncomputable def armplanlaw6_TokenNumbers.p0.ann : Ann := .z
set_option maxRecDepth 100000 in
theorem armplanlaw6_TokenNumbers.p0.eq (x : Tup armplanlaw6_TokenNumbers.p0.inS) : peRound armplanlaw6_TokenNumbers.E armplanlaw6_TokenNumbers.p0.c armplanlaw6_TokenNumbers.p0.ann _ armplanlaw6_TokenNumbers.p0.inS armplanlaw6_TokenNumbers.p0.un armplanlaw6_TokenNumbers.p0.outs x = armplanlaw6_TokenNumbers.p0.step (armplanlaw6_TokenNumbers.p0.un x) := by
  kernel_rfl
set_option maxRecDepth 100000 in
theorem armplanlaw6_TokenNumbers.p0.sound : LProcSound armplanlaw6_TokenNumbers.E (.loop armplanlaw6_TokenNumbers.p0.c) armplanlaw6_TokenNumbers.p0.lp :=
  loop_sound (c := armplanlaw6_TokenNumbers.p0.c) (ann := armplanlaw6_TokenNumbers.p0.ann) armplanlaw6_TokenNumbers.ok ((SubsOk_z _ _) : SubsOk armplanlaw6_TokenNumbers.E armplanlaw6_TokenNumbers.p0.c armplanlaw6_TokenNumbers.p0.ann) (by intro a ha; simp only [armplanlaw6_TokenNumbers.p0.outs, List.mem_cons, List.not_mem_nil, or_false] at ha; rcases ha with rfl <;> exact fun _ => rfl) armplanlaw6_TokenNumbers.p0.eq
noncomputable def armplanlaw6_TokenNumbers.ann : Ann := .s (.z) (.s (.z) (.s (.s (.z) (.b (.sub 0))) (.z)))
set_option maxRecDepth 100000 in
theorem armplanlaw6_TokenNumbers.eq (x : Tup armplanlaw6_TokenNumbers.p.inS) : peFn armplanlaw6_TokenNumbers.E Tryd.f8 armplanlaw6_TokenNumbers.ann armplanlaw6_TokenNumbers.p x = armplanlaw6_TokenNumbers.p.F x := by
  have h : peFn armplanlaw6_TokenNumbers.E Tryd.f8 armplanlaw6_TokenNumbers.ann armplanlaw6_TokenNumbers.p x = armplanlaw6_TokenNumbers.F0 x.1.1 x.1.2.1 := by kernel_rfl
  exact h.trans (by show _ = armplanlaw6_TokenNumbers.F x.1.1 x.1.2.1; rw [armplanlaw6_TokenNumbers.F_eq])
set_option maxRecDepth 100000 in
theorem armplanlaw6_TokenNumbers.sound : ProcSound Tryd.prog glob0 8 armplanlaw6_TokenNumbers.p :=
  fn_sound (E := armplanlaw6_TokenNumbers.E) (c := armplanlaw6_TokenNumbers.body0) (ann := armplanlaw6_TokenNumbers.ann) armplanlaw6_TokenNumbers.ok Tryd.func8 (of_decide_eq_true (by kernel_rfl)) rfl rfl rfl (by decide +kernel) (⟨(SubsOk_z _ _), ⟨(SubsOk_z _ _), ⟨⟨(SubsOk_z _ _), (sub_of rfl armplanlaw6_TokenNumbers.p0.sound)⟩, (SubsOk_z _ _)⟩⟩⟩ : SubsOk armplanlaw6_TokenNumbers.E armplanlaw6_TokenNumbers.body0 armplanlaw6_TokenNumbers.ann) (fun _ => rfl) rfl armplanlaw6_TokenNumbers.eq

end Go.Abs
