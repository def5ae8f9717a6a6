/- A part of the proof that the text with the row names: printed readings of functions, or plain lemmas about them. -/
import Derived.Test.YtgligkmpgefbmaaDoorC6G
set_option linter.unusedVariables false
set_option linter.unusedSimpArgs false
namespace Go.Abs
open Go Go.Proofs

/-! ### armplan/armplanlaw6.TokenSplits: function 3 -/
noncomputable def armplanlaw6_TokenSplits.F0 (a0 : ByteArray) (a1 : List (Int)) : Option (Bool) :=
  ((armplanlaw6_awake.F ()).bind fun r1 => (bif r1 then ((armplanlaw6_splits.F a0).bind fun r2 => (bif r2 then ((armplanlaw6_typical.F a1).bind fun r3 => ((armplanlaw6_splits.F r3).bind fun r4 => (bif r4 then ((armplanlaw6_typical.F a1).bind fun r5 => (bif (catOk r5 a0) then ((armplanlaw6_splits.F (r5 ++ a0)).bind fun r6 => some r6) else none)) else some false))) else some false)) else some false))
noncomputable def armplanlaw6_TokenSplits.F : ByteArray → (List (Int)) → Option (Bool) := lock armplanlaw6_TokenSplits.F0
theorem armplanlaw6_TokenSplits.F_eq : armplanlaw6_TokenSplits.F = armplanlaw6_TokenSplits.F0 := lock_eq _
noncomputable def armplanlaw6_TokenSplits.p : Proc := { nargs := 2, inS := ⟨[(0, .lf (.sc .str)), (1, .lf (.dat (.int .u8)))], []⟩, outS := ⟨[(0, .lf (.sc .bool))], []⟩, n0 := 0, R := Bool, F := fun x => armplanlaw6_TokenSplits.F x.1.1 x.1.2.1, post := fun r => ((r, ()), ()), un := fun x => x.1.1 }
noncomputable def armplanlaw6_TokenSplits.E : Env := { P := Tryd.prog, ty := tyTab [], glob := glob0, proc := procTab [(10, armplanlaw6_awake.p), (11, armplanlaw6_splits.p), (12, armplanlaw6_typical.p)], lproc := lprocTab [], n0 := 0, ntmps := 22 }
theorem armplanlaw6_TokenSplits.ok : ProcsOk armplanlaw6_TokenSplits.E := AllSound.ok (l := [(10, armplanlaw6_awake.p), (11, armplanlaw6_splits.p), (12, armplanlaw6_typical.p)]) (by kernel_rfl) rfl ⟨armplanlaw6_awake.sound, armplanlaw6_splits.sound, armplanlaw6_typical.sound, trivial⟩
noncomputable def armplanlaw6_TokenSplits.body0 : Code := (match Tryd.f3.body with | some c => c | none => .skip)
noncomputable def armplanlaw6_TokenSplits.ann : Ann := .z
set_option maxRecDepth 100000 in
theorem armplanlaw6_TokenSplits.eq (x : Tup armplanlaw6_TokenSplits.p.inS) : peFn armplanlaw6_TokenSplits.E Tryd.f3 armplanlaw6_TokenSplits.ann armplanlaw6_TokenSplits.p x = armplanlaw6_TokenSplits.p.F x := by
  have h : peFn armplanlaw6_TokenSplits.E Tryd.f3 armplanlaw6_TokenSplits.ann armplanlaw6_TokenSplits.p x = armplanlaw6_TokenSplits.F0 x.1.1 x.1.2.1 := by kernel_rfl
  exact h.trans (by show _ = armplanlaw6_TokenSplits.F x.1.1 x.1.2.1; rw [armplanlaw6_TokenSplits.F_eq])
set_option maxRecDepth 100000 in
theorem armplanlaw6_TokenSplits.sound : ProcSound Tryd.prog glob0 3 armplanlaw6_TokenSplits.p :=
  fn_sound (E := armplanlaw6_TokenSplits.E) (c := armplanlaw6_TokenSplits.body0) (ann := armplanlaw6_TokenSplits.ann) armplanlaw6_TokenSplits.ok Tryd.func3 (of_decide_eq_true (by kernel_rfl)) rfl rfl rfl (by decide +kernel) ((SubsOk_z _ _) : SubsOk armplanlaw6_TokenSplits.E armplanlaw6_TokenSplits.body0 armplanlaw6_TokenSplits.ann) (fun _ => rfl) rfl armplanlaw6_TokenSplits.eq

end Go.Abs
