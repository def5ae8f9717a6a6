/- A part of the proof that the text with the row names: printed readings of functions, or plain lemmas about them. -/
import Derived.Test.YtgligkmpgefbmaaDoorC6G
set_option linter.unusedVariables false
set_option linter.unusedSimpArgs false
namespace Go.Abs
open Go Go.Proofs

/-! ### armplan/armplanlaw6.TokenFormats: function 9 -/
noncomputable def armplanlaw6_TokenFormats.F0 (a0 : Int) (a1 : Int) : Option (Bool) :=
  (bif decide (0 ≤ (a1.tmod (64 : Int))) then ((token_Format.F (shrI .i64 a0 (a1.tmod (64 : Int)))).bind fun r1 => ((token_Number.F r1).bind fun r2 => ((armplanlaw6_awake.F ()).bind fun r3 => (bif r3 then ((armplanref6_Format.F (shrI .i64 a0 (a1.tmod (64 : Int)))).bind fun r4 => (bif (eqS r1 r4) then (bif r2.2 then some (r2.1 == (bif decide ((bif decide ((2147483648 : Int) < (shrI .i64 a0 (a1.tmod (64 : Int)))) then (2147483648 : Int) else (shrI .i64 a0 (a1.tmod (64 : Int)))) > (-2147483648 : Int)) then (bif decide ((2147483648 : Int) < (shrI .i64 a0 (a1.tmod (64 : Int)))) then (2147483648 : Int) else (shrI .i64 a0 (a1.tmod (64 : Int)))) else (-2147483648 : Int))) else some false) else some false)) else some false)))) else none)
noncomputable def armplanlaw6_TokenFormats.F : Int → Int → Option (Bool) := lock armplanlaw6_TokenFormats.F0
theorem armplanlaw6_TokenFormats.F_eq : armplanlaw6_TokenFormats.F = armplanlaw6_TokenFormats.F0 := lock_eq _
noncomputable def armplanlaw6_TokenFormats.p : Proc := { nargs := 2, inS := ⟨[(0, .lf (.sc (.int .i64))), (1, .lf (.sc (.int .u8)))], []⟩, outS := ⟨[(0, .lf (.sc .bool))], []⟩, n0 := 0, R := Bool, F := fun x => armplanlaw6_TokenFormats.F x.1.1 x.1.2.1, post := fun r => ((r, ()), ()), un := fun x => x.1.1 }
noncomputable def armplanlaw6_TokenFormats.E : Env := { P := Tryd.prog, ty := tyTab [], glob := glob0, proc := procTab [(19, token_Format.p), (14, token_Number.p), (10, armplanlaw6_awake.p), (20, armplanref6_Format.p)], lproc := lprocTab [], n0 := 0, ntmps := 36 }
theorem armplanlaw6_TokenFormats.ok : ProcsOk armplanlaw6_TokenFormats.E := AllSound.ok (l := [(19, token_Format.p), (14, token_Number.p), (10, armplanlaw6_awake.p), (20, armplanref6_Format.p)]) (by kernel_rfl) rfl ⟨token_Format.sound, token_Number.sound, armplanlaw6_awake.sound, armplanref6_Format.sound, trivial⟩
noncomputable def armplanlaw6_TokenFormats.body0 : Code := (match Tryd.f9.body with | some c => c | none => .skip)
noncomputable def armplanlaw6_TokenFormats.ann : Ann := .z
set_option maxRecDepth 100000 in
theorem armplanlaw6_TokenFormats.eq (x : Tup armplanlaw6_TokenFormats.p.inS) : peFn armplanlaw6_TokenFormats.E Tryd.f9 armplanlaw6_TokenFormats.ann armplanlaw6_TokenFormats.p x = armplanlaw6_TokenFormats.p.F x := by
  have h : peFn armplanlaw6_TokenFormats.E Tryd.f9 armplanlaw6_TokenFormats.ann armplanlaw6_TokenFormats.p x = armplanlaw6_TokenFormats.F0 x.1.1 x.1.2.1 := by kernel_rfl
  exact h.trans (by show _ = armplanlaw6_TokenFormats.F x.1.1 x.1.2.1; rw [armplanlaw6_TokenFormats.F_eq])
set_option maxRecDepth 100000 in
theorem armplanlaw6_TokenFormats.sound : ProcSound Tryd.prog glob0 9 armplanlaw6_TokenFormats.p :=
  fn_sound (E := armplanlaw6_TokenFormats.E) (c := armplanlaw6_TokenFormats.body0) (ann := armplanlaw6_TokenFormats.ann) armplanlaw6_TokenFormats.ok Tryd.func9 (of_decide_eq_true (by kernel_rfl)) rfl rfl rfl (by decide +kernel) ((SubsOk_z _ _) : SubsOk armplanlaw6_TokenFormats.E armplanlaw6_TokenFormats.body0 armplanlaw6_TokenFormats.ann) (fun _ => rfl) rfl armplanlaw6_TokenFormats.eq

end Go.Abs
