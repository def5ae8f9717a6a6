/- The statement TeamMapped of armplan/armplanlaw35, for every input of its types. A PLAIN statement: no package variable is listed. -/
import Derived.Test.YtomabhiochmojaaC35PMapped
import Derived.Test.YtomabhiochmojaaRows
import Derived.Test.YtomabhiochmojaaAbsD
import Derived.ProofKit
import Derived.LaidMore
import Derived.OpenShut
import Derived.ChangeOld
set_option linter.unusedVariables false
set_option linter.unusedSimpArgs false
namespace Go.Proofs.Ytomabhiochmojaa
open Go.ChangeShapes Go.WideShapes Go.ChangeAt Go.WideMaps Go.WideElems Go.RowKit Go.Abs

theorem own : ownKnob Try.prog.godebug = none := by kernel_rfl

def teamMapped_ak : List AK := [.lf (.slc (.int .i64)), .lf (.slc (.int .i64)), .lf (.int .i64)]
def teamMapped_mk (x : ArgT teamMapped_ak) : Tup armplanlaw35_TeamMapped.p.inS := (fun x => ((x.1, (x.2.1, (x.2.2.1, ()))), ())) x
theorem teamMapped_fits : fitsArgs Try.prog Try.f7.params.toList teamMapped_ak = true := by kernel_rfl
theorem teamMapped_good (x : ArgT teamMapped_ak) (g : GoodAll teamMapped_ak x) : armplanlaw35_TeamMapped.p.F (teamMapped_mk x) = some true := mapped_good x g

set_option maxRecDepth 100000 in
theorem teamMapped_lifted (os : Os) (started : os.Started) (H : Type) (enc : TypeId × Value → H) :
    ReturnsInHanded {} Try.checked os 7 .any (fun w args => (Rows.teamMappedSpec.pre enc Try.prog Try.f7 [] false w args ∧ True) ∧ sizedMet enc Try.prog Try.f7 (OpenSpec.ofChange Rows.teamMappedSpec) false w args)
      (Rows.teamMappedSpec.post enc Try.prog Try.f7 false true false false) := by
  refine returnsInHanded_of_change_and (C := Try.checked) (X := fun w _ => True) (fun _ _ _ hh h => h) own started (by kernel_rfl) Try.func7
    (ChangeSpec.witness_shaped (enc := enc) (C := Try.checked) (os := os) (X := fun w _ => True) false (World.doorLaid Try.prog 4000 os) #[.slice none 0 0, .slice none 0 0, .int .i64 0] 40 rfl (World.shaped_of_RefB (by kernel_rfl) (by kernel_rfl)) (by kernel_rfl) (by kernel_rfl) (by kernel_rfl) trivial) ?_
  intro W base args ds gs before hval0 hW _ hz hL _
  have hval : ∀ (j : Nat) t v, Try.f7.params.toList[j]? = some t → args.toList[j]? = some v → Value.okWide Try.prog W .any base t v := fun j t v h1 h2 => hval0 j t v (by simpa using h1) (by simpa using h2)
  have hW' := hW
  obtain ⟨p, q, hA0, hV, rfl, hfz, hnd⟩ := hW
  have hA : DataW.TrodAll enc Try.prog W 0 (fun _ => true) true Try.f7.params.toList args.toList ds p := hA0
  obtain ⟨rfl, rfl⟩ := trodVars_none hV
  have hws := weights_le (ts := Try.f7.params.toList) (us := Rows.teamMappedSpec.plain.varTypes Try.prog) rfl rfl hz
  obtain ⟨x, gx, hlen, hx⟩ := args_of teamMapped_ak _ _ _ _ 0 teamMapped_fits hval hws hA
  have hdl := trodAll_len hA
  have hlt : ∀ y ∈ p, y.block < W.heap.size := fun y hy => hW'.lt y (by simpa using hy)
  refine (law_args (p := armplanlaw35_TeamMapped.p) armplanlaw35_TeamMapped.sound teamMapped_ak teamMapped_mk (fun _ => rfl) rfl rfl rfl (teamMapped_good x gx) rfl (fun _ _ h => by cases h) hlen hx).mono fun e W' ⟨he, bel⟩ => ?_
  subst he
  have hB := args_back (by kernel_rfl : laidOutB Try.prog = true) bel (by kernel_rfl) hA hlt
  match ds, hdl, hW', hB with
  | [d1, d2, d3], _, hW', hB => exact ⟨_, rfl, _, _, _, [], _, [], hW', trodAll_mk1 (shut_bool Try.underlying4 _), hB, rfl, bel.frame _, fun h => by cases h⟩

theorem teamMapped_holds : Rows.TeamMappedSaid :=
  OpenClaim.holds_of_wide 7 Try.f7 rfl rfl rfl rfl rfl rfl rfl ⟨rfl, rfl, rfl, rfl, rfl⟩ rfl rfl rfl rfl rfl (by kernel_rfl) Try.func7 (by kernel_rfl)
    (of_decide_eq_true (by kernel_rfl)) (by unfold Func.isWrapper; first | (rw [if_pos (by decide +kernel)]; kernel_rfl) | (rw [if_neg (by decide +kernel)]; exact ⟨rfl, rfl⟩))
    (fun os started H enc _ => by
      have h := teamMapped_lifted os started H enc
      simp only [and_true] at h
      exact h)

#print axioms teamMapped_holds

end Go.Proofs.Ytomabhiochmojaa
