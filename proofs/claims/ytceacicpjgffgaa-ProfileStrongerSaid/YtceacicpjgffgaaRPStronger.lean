/- The statement ProfileStronger of armplan/armplanlaw41, for every input of its types. A PLAIN statement: no package variable is listed. -/
import Derived.Test.YtceacicpjgffgaaC41PStronger
import Derived.Test.YtceacicpjgffgaaRows
import Derived.Test.YtceacicpjgffgaaAbsD
import Derived.ProofKit
import Derived.LaidMore
import Derived.OpenShut
import Derived.ChangeOld
set_option linter.unusedVariables false
set_option linter.unusedSimpArgs false
namespace Go.Proofs.Ytceacicpjgffgaa
open Go.ChangeShapes Go.WideShapes Go.ChangeAt Go.WideMaps Go.WideElems Go.RowKit Go.Abs

theorem own : ownKnob Try.prog.godebug = none := by kernel_rfl

def profileStronger_ak : List AK := [.lf (.int .i64), .lf (.int .i64), .lf (.int .i64), .lf (.int .i64), .lf (.int .i64)]
def profileStronger_mk (x : ArgT profileStronger_ak) : Tup armplanlaw41_ProfileStronger.p.inS := (fun x => ((x.1, (x.2.1, (x.2.2.1, (x.2.2.2.1, (x.2.2.2.2.1, ()))))), ())) x
theorem profileStronger_fits : fitsArgs Try.prog Try.f12.params.toList profileStronger_ak = true := by kernel_rfl
theorem profileStronger_good (x : ArgT profileStronger_ak) (g : GoodAll profileStronger_ak x) : armplanlaw41_ProfileStronger.p.F (profileStronger_mk x) = some true := stronger_good x g

set_option maxRecDepth 100000 in
theorem profileStronger_lifted (os : Os) (started : os.Started) (H : Type) (enc : TypeId × Value → H) :
    ReturnsInHanded {} Try.checked os 12 .any (fun w args => (Rows.profileStrongerSpec.pre enc Try.prog Try.f12 [] false w args ∧ True) ∧ sizedMet enc Try.prog Try.f12 (OpenSpec.ofChange Rows.profileStrongerSpec) false w args)
      (Rows.profileStrongerSpec.post enc Try.prog Try.f12 false true false false) := by
  refine returnsInHanded_of_change_and (C := Try.checked) (X := fun w _ => True) (fun _ _ _ hh h => h) own started (by kernel_rfl) Try.func12
    (ChangeSpec.witness_shaped (enc := enc) (C := Try.checked) (os := os) (X := fun w _ => True) false (World.doorLaid Try.prog 4000 os) #[.int .i64 0, .int .i64 0, .int .i64 0, .int .i64 0, .int .i64 0] 40 rfl (World.shaped_of_RefB (by kernel_rfl) (by kernel_rfl)) (by kernel_rfl) (by kernel_rfl) (by kernel_rfl) trivial) ?_
  intro W base args ds gs before hval0 hW _ hz hL _
  have hval : ∀ (j : Nat) t v, Try.f12.params.toList[j]? = some t → args.toList[j]? = some v → Value.okWide Try.prog W .any base t v := fun j t v h1 h2 => hval0 j t v (by simpa using h1) (by simpa using h2)
  have hW' := hW
  obtain ⟨p, q, hA0, hV, rfl, hfz, hnd⟩ := hW
  have hA : DataW.TrodAll enc Try.prog W 0 (fun _ => true) true Try.f12.params.toList args.toList ds p := hA0
  obtain ⟨rfl, rfl⟩ := trodVars_none hV
  have hws := weights_le (ts := Try.f12.params.toList) (us := Rows.profileStrongerSpec.plain.varTypes Try.prog) rfl rfl hz
  obtain ⟨x, gx, hlen, hx⟩ := args_of profileStronger_ak _ _ _ _ 0 profileStronger_fits hval hws hA
  have hdl := trodAll_len hA
  have hlt : ∀ y ∈ p, y.block < W.heap.size := fun y hy => hW'.lt y (by simpa using hy)
  refine (law_args (p := armplanlaw41_ProfileStronger.p) armplanlaw41_ProfileStronger.sound profileStronger_ak profileStronger_mk (fun _ => rfl) rfl rfl rfl (profileStronger_good x gx) rfl (fun _ _ h => by cases h) hlen hx).mono fun e W' ⟨he, bel⟩ => ?_
  subst he
  have hB := args_back (by kernel_rfl : laidOutB Try.prog = true) bel (by kernel_rfl) hA hlt
  match ds, hdl, hW', hB with
  | [d1, d2, d3, d4, d5], _, hW', hB => exact ⟨_, rfl, _, _, _, [], _, [], hW', trodAll_mk1 (shut_bool Try.underlying4 _), hB, rfl, bel.frame _, fun h => by cases h⟩

theorem profileStronger_holds : Rows.ProfileStrongerSaid :=
  OpenClaim.holds_of_wide 12 Try.f12 rfl rfl rfl rfl rfl rfl rfl ⟨rfl, rfl, rfl, rfl, rfl⟩ rfl rfl rfl rfl rfl (by kernel_rfl) Try.func12 (by kernel_rfl)
    (of_decide_eq_true (by kernel_rfl)) (by unfold Func.isWrapper; first | (rw [if_pos (by decide +kernel)]; kernel_rfl) | (rw [if_neg (by decide +kernel)]; exact ⟨rfl, rfl⟩))
    (fun os started H enc _ => by
      have h := profileStronger_lifted os started H enc
      simp only [and_true] at h
      exact h)

#print axioms profileStronger_holds

end Go.Proofs.Ytceacicpjgffgaa
