/- The statement TeamInner of armplan/armplanlaw35, for every input of its types. A PLAIN statement: no package variable is listed. -/
import Derived.Test.YtomabhiochmojaaC35PInner
import Derived.Test.YtomabhiochmojaaRows
import Derived.Test.YtomabhiochmojaaAbsD
import Derived.ProofKit
import Derived.LaidMore
import Derived.OpenShut
import Derived.ChangeOld
set_option linter.unusedVariables false
set_option linter.unusedSimpArgs false
namespace Go.Proofs.Ytomabhiochmojaa
open Go.ChangeShapes Go.WideShapes Go.ChangeAt Go.WideMaps Go.WideElems Go.RowKit Go.Abs

theorem own : ownKnob Try.prog.godebug = none := by kernel_rfl

def teamInner_ak : List AK := [.lf (.slc (.pair (.pair (.slc (.pair .str (.pair (.int .i64) (.pair (.int .i64) (.pair (.pair (.int .i64) (.pair (.int .i64) (.int .i64))) (.pair (.int .i64) (.pair (.int .i64) (.pair (.int .i64) (.pair (.int .i64) (.pair (.int .i64) (.int .i64))))))))))) (.slc (.pair (.int .i64) (.pair (.int .i64) (.pair (.int .i64) (.pair (.int .i64) (.int .i64))))))) (.pair (.slc (.pair (.int .i64) (.pair (.int .i64) (.slc (.pair (.int .i64) (.pair (.int .i64) (.int .i64))))))) (.slc (.pair (.int .i64) (.int .i64)))))), .lf (.slc (.pair (.int .i64) (.pair (.int .i64) (.int .i64)))), .lf (.int .i64), .ag (.pair (.int .i64) (.pair (.slc (.pair (.int .i64) (.pair (.int .i64) (.int .i64)))) (.pair (.int .i64) (.pair (.slc (.int .i64)) (.slc (.int .i64)))))), .lf (.slc (.int .i64)), .lf (.slc (.int .i64))]
def teamInner_mk (x : ArgT teamInner_ak) : Tup l35_TeamInner.p.inS := (fun x => ((x.1, (x.2.1, (x.2.2.1, ((x.2.2.2.1.1, (x.2.2.2.1.2.1, (x.2.2.2.1.2.2.1, (x.2.2.2.1.2.2.2.1, (x.2.2.2.1.2.2.2.2, ()))))), (x.2.2.2.2.1, (x.2.2.2.2.2.1, ())))))), ())) x
theorem teamInner_fits : fitsArgs Try.prog Try.f8.params.toList teamInner_ak = true := by kernel_rfl
theorem teamInner_good (x : ArgT teamInner_ak) (g : GoodAll teamInner_ak x) : l35_TeamInner.p.F (teamInner_mk x) = some true := innerl_good x g

set_option maxRecDepth 100000 in
theorem teamInner_lifted (os : Os) (started : os.Started) (H : Type) (enc : TypeId × Value → H) :
    ReturnsInHanded {} Try.checked os 8 .any (fun w args => (Rows.teamInnerSpec.pre enc Try.prog Try.f8 [] false w args ∧ True) ∧ sizedMet enc Try.prog Try.f8 (OpenSpec.ofChange Rows.teamInnerSpec) false w args)
      (Rows.teamInnerSpec.post enc Try.prog Try.f8 false true false false) := by
  refine returnsInHanded_of_change_and (C := Try.checked) (X := fun w _ => True) (fun _ _ _ hh h => h) own started (by kernel_rfl) Try.func8
    (ChangeSpec.witness_shaped (enc := enc) (C := Try.checked) (os := os) (X := fun w _ => True) false (World.doorLaid Try.prog 4000 os) #[.slice none 0 0, .slice none 0 0, .int .i64 0, .agg #[.int .i64 0, .slice none 0 0, .int .i64 0, .slice none 0 0, .slice none 0 0], .slice none 0 0, .slice none 0 0] 40 rfl (World.shaped_of_RefB (by kernel_rfl) (by kernel_rfl)) (by kernel_rfl) (by kernel_rfl) (by kernel_rfl) trivial) ?_
  intro W base args ds gs before hval0 hW _ hz hL _
  have hval : ∀ (j : Nat) t v, Try.f8.params.toList[j]? = some t → args.toList[j]? = some v → Value.okWide Try.prog W .any base t v := fun j t v h1 h2 => hval0 j t v (by simpa using h1) (by simpa using h2)
  have hW' := hW
  obtain ⟨p, q, hA0, hV, rfl, hfz, hnd⟩ := hW
  have hA : DataW.TrodAll enc Try.prog W 0 (fun _ => true) true Try.f8.params.toList args.toList ds p := hA0
  obtain ⟨rfl, rfl⟩ := trodVars_none hV
  have hws := weights_le (ts := Try.f8.params.toList) (us := Rows.teamInnerSpec.plain.varTypes Try.prog) rfl rfl hz
  obtain ⟨x, gx, hlen, hx⟩ := args_of teamInner_ak _ _ _ _ 0 teamInner_fits hval hws hA
  have hdl := trodAll_len hA
  have hlt : ∀ y ∈ p, y.block < W.heap.size := fun y hy => hW'.lt y (by simpa using hy)
  refine (law_args (p := l35_TeamInner.p) l35_TeamInner.sound teamInner_ak teamInner_mk (fun _ => rfl) rfl rfl rfl (teamInner_good x gx) rfl (fun _ _ h => by cases h) hlen hx).mono fun e W' ⟨he, bel⟩ => ?_
  subst he
  have hB := args_back (by kernel_rfl : laidOutB Try.prog = true) bel (by kernel_rfl) hA hlt
  match ds, hdl, hW', hB with
  | [d1, d2, d3, d4, d5, d6], _, hW', hB => exact ⟨_, rfl, _, _, _, [], _, [], hW', trodAll_mk1 (shut_bool Try.underlying4 _), hB, rfl, bel.frame _, fun h => by cases h⟩

theorem teamInner_holds : Rows.TeamInnerSaid :=
  OpenClaim.holds_of_wide 8 Try.f8 rfl rfl rfl rfl rfl rfl rfl ⟨rfl, rfl, rfl, rfl, rfl⟩ rfl rfl rfl rfl rfl (by kernel_rfl) Try.func8 (by kernel_rfl)
    (of_decide_eq_true (by kernel_rfl)) (by unfold Func.isWrapper; first | (rw [if_pos (by decide +kernel)]; kernel_rfl) | (rw [if_neg (by decide +kernel)]; exact ⟨rfl, rfl⟩))
    (fun os started H enc _ => by
      have h := teamInner_lifted os started H enc
      simp only [and_true] at h
      exact h)

#print axioms teamInner_holds

end Go.Proofs.Ytomabhiochmojaa
