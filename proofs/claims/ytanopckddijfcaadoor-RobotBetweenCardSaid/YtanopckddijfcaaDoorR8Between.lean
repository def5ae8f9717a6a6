/- The statement RobotBetween of armplan/armplanlaw8, for every input of its types. A TIED card: the listed variables of the Go library have the values that its text gives them, and nothing in the pruned project writes them. -/
import Derived.Test.YtanopckddijfcaaDoorC8PBetween
import Derived.Test.YtanopckddijfcaaDoorC8T
set_option linter.unusedVariables false
set_option linter.unusedSimpArgs false
namespace Go.Proofs.YtanopckddijfcaaDoor
open Go.ChangeShapes Go.WideShapes Go.ChangeAt Go.WideMaps Go.WideElems Go.RowKit Go.Abs


def robotBetween_ak : List AK := [.lf (.slc (.int .i64)), .lf (.int .i64), .lf (.int .i64), .lf (.int .i64)]
def robotBetween_mk (x : ArgT robotBetween_ak) : Tup armplanlaw8_RobotBetween.p.inS := (fun x => ((x.1, (x.2.1, (x.2.2.1, (x.2.2.2.1, ())))), ())) x
theorem robotBetween_fits : fitsArgs Tryd.prog Tryd.f5.params.toList robotBetween_ak = true := by kernel_rfl
theorem robotBetween_good (x : ArgT robotBetween_ak) (g : GoodAll robotBetween_ak x) : armplanlaw8_RobotBetween.p.F (robotBetween_mk x) = some true := between_good x g

set_option maxRecDepth 100000 in
theorem robotBetween_lifted (os : Os) (started : os.Started) (H : Type) (enc : TypeId × Value → H) :
    ReturnsInHanded {} Tryd.checked os 5 .any (fun w args => (Rows.robotBetweenSpec.pre enc Tryd.prog Tryd.f5 [] false w args ∧ laidMetH Tryd.prog laid6 w) ∧ sizedMet enc Tryd.prog Tryd.f5 (OpenSpec.ofChange Rows.robotBetweenSpec) false w args)
      (Rows.robotBetweenSpec.post enc Tryd.prog Tryd.f5 false true false false) := by
  refine returnsInHanded_of_change_and (C := Tryd.checked) (X := fun w _ => laidMetH Tryd.prog laid6 w) (fun _ _ _ hh h => h.of_heap hh) own started (by kernel_rfl) Tryd.func5
    (ChangeSpec.witness_shaped (enc := enc) (C := Tryd.checked) (os := os) (X := fun w _ => laidMetH Tryd.prog laid6 w) false (World.doorLaid Tryd.prog 4000 os) #[.slice none 0 0, .int .i64 0, .int .i64 0, .int .i64 0] 40 rfl (World.shaped_of_RefB (by kernel_rfl) (by kernel_rfl)) (by kernel_rfl) (by kernel_rfl) (by kernel_rfl) (door_met os _)) ?_
  intro W base args ds gs before hval0 hW _ hz hL _
  have hval : ∀ (j : Nat) t v, Tryd.f5.params.toList[j]? = some t → args.toList[j]? = some v → Value.okWide Tryd.prog W .any base t v := fun j t v h1 h2 => hval0 j t v (by simpa using h1) (by simpa using h2)
  have hW' := hW
  obtain ⟨p, q, hA0, hV, rfl, hfz, hnd⟩ := hW
  have hA : DataW.TrodAll enc Tryd.prog W 0 (fun _ => true) true Tryd.f5.params.toList args.toList ds p := hA0
  obtain ⟨rfl, rfl⟩ := trodVars_none hV
  have hws := weights_le (ts := Tryd.f5.params.toList) (us := Rows.robotBetweenSpec.plain.varTypes Tryd.prog) rfl rfl hz
  obtain ⟨x, gx, hlen, hx⟩ := args_of robotBetween_ak _ _ _ _ 0 robotBetween_fits hval hws hA
  have hdl := trodAll_len hA
  have hlt : ∀ y ∈ p, y.block < W.heap.size := fun y hy => hW'.lt y (by simpa using hy)
  refine (law_args (p := armplanlaw8_RobotBetween.p) armplanlaw8_RobotBetween.sound robotBetween_ak robotBetween_mk (fun _ => rfl) rfl rfl rfl (robotBetween_good x gx) rfl (globs hL) hlen hx).mono fun e W' ⟨he, bel⟩ => ?_
  subst he
  have hB := args_back (by kernel_rfl : laidOutB Tryd.prog = true) bel (by kernel_rfl) hA hlt
  match ds, hdl, hW', hB with
  | [d1, d2, d3, d4], _, hW', hB => exact ⟨_, rfl, _, _, _, [], _, [], hW', trodAll_mk1 (shut_bool Tryd.underlying4 _), hB, rfl, bel.frame _, fun h => by cases h⟩

theorem robotBetween_holds : Rows.RobotBetweenSaid :=
  OpenClaim.holds_of_wide 5 Tryd.f5 rfl rfl rfl rfl rfl rfl rfl ⟨rfl, rfl, rfl, rfl, rfl⟩ rfl rfl rfl rfl rfl (by kernel_rfl) Tryd.func5 (by kernel_rfl)
    (of_decide_eq_true (by kernel_rfl)) (by unfold Func.isWrapper; first | (rw [if_pos (by decide +kernel)]; kernel_rfl) | (rw [if_neg (by decide +kernel)]; exact ⟨rfl, rfl⟩))
    (fun os started H enc _ => robotBetween_lifted os started H enc)

theorem robotBetween_noStand : ∀ (j : Nat) (t : TypeId), Tryd.f5.params.toList[j]? = some t → Tryd.prog.wantsStandIn t = false := by
  intro j t ht
  have h : (Tryd.f5.params.toList.all fun t => !(Tryd.prog.wantsStandIn t)) = true := by kernel_rfl
  rw [List.all_eq_true] at h
  simpa using h t (List.mem_of_getElem? ht)
theorem robotBetween_card : Rows.RobotBetweenCardSaid :=
  Claim7.holds_tied_plain_at .later [] [.data, .data, .data, .sentinel, .sentinel, .widerDeep] true (true, "2b78cb950eea85aaf015c4f76e99739778f530115da56dbabb405f9e8434cf60") true
    robotBetween_holds (fun _ h => by cases h) (by kernel_rfl) (fun _ h => by cases h) robotBetween_row_tie rfl ⟨rfl, rfl⟩ (by kernel_rfl) rfl
    (fun f fn hf hfn => by
      obtain rfl : f = 5 := Option.some.inj ((show Tryd.prog.funcNamed "armplan/armplanlaw8.RobotBetween" = some 5 by kernel_rfl).symm.trans hf) |>.symm
      obtain rfl : fn = Tryd.f5 := (Option.some.inj (Tryd.func5.symm.trans hfn)).symm
      exact ⟨by kernel_rfl, fun j t ht => robotBetween_noStand j t (by simpa using ht)⟩)
    (by kernel_rfl)
#print axioms robotBetween_card

end Go.Proofs.YtanopckddijfcaaDoor
