/- The statement RobotRoundTrip of armplan/armplanlaw8, for every input of its types. A TIED card: the listed variables of the Go library have the values that its text gives them, and nothing in the pruned project writes them. -/
import Derived.Test.YtanopckddijfcaaGreatDoorC8YPRoundTrip
import Derived.Test.YtanopckddijfcaaGreatDoorC8YT
set_option linter.unusedVariables false
set_option linter.unusedSimpArgs false
namespace Go.Proofs.YtanopckddijfcaaGreatDoor
open Go.ChangeShapes Go.WideShapes Go.ChangeAt Go.WideMaps Go.WideElems Go.RowKit Go.Abs


def robotRoundTrip_ak : List AK := [.lf (.slc (.int .i64)), .lf (.int .i64), .lf (.int .i64), .lf (.int .i64)]
def robotRoundTrip_mk (x : ArgT robotRoundTrip_ak) : Tup armplanlaw8_RobotRoundTrip.p.inS := (fun x => ((x.1, (x.2.1, (x.2.2.1, (x.2.2.2.1, ())))), ())) x
theorem robotRoundTrip_fits : fitsArgs Tryz.prog Tryz.f5.params.toList robotRoundTrip_ak = true := by kernel_rfl
theorem robotRoundTrip_good (x : ArgT robotRoundTrip_ak) (g : GoodAll robotRoundTrip_ak x) : armplanlaw8_RobotRoundTrip.p.F (robotRoundTrip_mk x) = some true := roundTrip_good x g

set_option maxRecDepth 100000 in
theorem robotRoundTrip_lifted (os : Os) (started : os.Started) (H : Type) (enc : TypeId × Value → H) :
    ReturnsInHanded {} Tryz.checked os 5 .any (fun w args => (Rows.robotRoundTripSpec.pre enc Tryz.prog Tryz.f5 [] false w args ∧ laidMetH Tryz.prog laid8 w) ∧ sizedMet enc Tryz.prog Tryz.f5 (OpenSpec.ofChange Rows.robotRoundTripSpec) false w args)
      (Rows.robotRoundTripSpec.post enc Tryz.prog Tryz.f5 false true false false) := by
  refine returnsInHanded_of_change_and (C := Tryz.checked) (X := fun w _ => laidMetH Tryz.prog laid8 w) (fun _ _ _ hh h => h.of_heap hh) own started (by kernel_rfl) Tryz.func5
    (ChangeSpec.witness_shaped (enc := enc) (C := Tryz.checked) (os := os) (X := fun w _ => laidMetH Tryz.prog laid8 w) false (World.laidAll Tryz.prog os laid8) #[.slice none 0 0, .int .i64 0, .int .i64 0, .int .i64 0] 40 (World.laidAll_os _ _ _) (World.shaped_of_ZipB (by kernel_rfl) (by kernel_rfl)) (by kernel_rfl) (by kernel_rfl) (by kernel_rfl) (met8 os _)) ?_
  intro W base args ds gs before hval0 hW _ hz hL _
  have hval : ∀ (j : Nat) t v, Tryz.f5.params.toList[j]? = some t → args.toList[j]? = some v → Value.okWide Tryz.prog W .any base t v := fun j t v h1 h2 => hval0 j t v (by simpa using h1) (by simpa using h2)
  have hW' := hW
  obtain ⟨p, q, hA0, hV, rfl, hfz, hnd⟩ := hW
  have hA : DataW.TrodAll enc Tryz.prog W 0 (fun _ => true) true Tryz.f5.params.toList args.toList ds p := hA0
  obtain ⟨rfl, rfl⟩ := trodVars_none hV
  have hws := weights_le (ts := Tryz.f5.params.toList) (us := Rows.robotRoundTripSpec.plain.varTypes Tryz.prog) rfl rfl hz
  obtain ⟨x, gx, hlen, hx⟩ := args_of robotRoundTrip_ak _ _ _ _ 0 robotRoundTrip_fits hval hws hA
  have hdl := trodAll_len hA
  have hlt : ∀ y ∈ p, y.block < W.heap.size := fun y hy => hW'.lt y (by simpa using hy)
  refine (law_args (p := armplanlaw8_RobotRoundTrip.p) armplanlaw8_RobotRoundTrip.sound robotRoundTrip_ak robotRoundTrip_mk (fun _ => rfl) rfl rfl rfl (robotRoundTrip_good x gx) rfl (globs8 hL) hlen hx).mono fun e W' ⟨he, bel⟩ => ?_
  subst he
  have hB := args_back (by kernel_rfl : laidOutB Tryz.prog = true) bel (by kernel_rfl) hA hlt
  match ds, hdl, hW', hB with
  | [d1, d2, d3, d4], _, hW', hB => exact ⟨_, rfl, _, _, _, [], _, [], hW', trodAll_mk1 (shut_bool Tryz.underlying4 _), hB, rfl, bel.frame _, fun h => by cases h⟩

theorem robotRoundTrip_holds : Rows.RobotRoundTripSaid :=
  OpenClaim.holds_of_wide 5 Tryz.f5 rfl rfl rfl rfl rfl rfl rfl ⟨rfl, rfl, rfl, rfl, rfl⟩ rfl rfl rfl rfl rfl (by kernel_rfl) Tryz.func5 (by kernel_rfl)
    (of_decide_eq_true (by kernel_rfl)) (by unfold Func.isWrapper; first | (rw [if_pos (by decide +kernel)]; kernel_rfl) | (rw [if_neg (by decide +kernel)]; exact ⟨rfl, rfl⟩))
    (fun os started H enc _ => robotRoundTrip_lifted os started H enc)

theorem robotRoundTrip_noStand : ∀ (j : Nat) (t : TypeId), Tryz.f5.params.toList[j]? = some t → Tryz.prog.wantsStandIn t = false := by
  intro j t ht
  have h : (Tryz.f5.params.toList.all fun t => !(Tryz.prog.wantsStandIn t)) = true := by kernel_rfl
  rw [List.all_eq_true] at h
  simpa using h t (List.mem_of_getElem? ht)
theorem robotRoundTrip_card : Rows.RobotRoundTripCardSaid :=
  Claim7.holds_tied_plain_at .later [] [.data, .data, .data, .data, .sentinel, .sentinel, .widerDeep, .pinned] true (true, "53449466b9edfddeda1a1a6c61ac1999740dad59c36a6d89ed3294bf320e0dd2") true
    robotRoundTrip_holds (fun _ h => by cases h) (by kernel_rfl) (fun _ h => by cases h) robotRoundTrip_row_tie rfl ⟨rfl, rfl⟩ (by kernel_rfl) rfl
    (fun f fn hf hfn => by
      obtain rfl : f = 5 := Option.some.inj ((show Tryz.prog.funcNamed "armplan/armplanlaw8.RobotRoundTrip" = some 5 by kernel_rfl).symm.trans hf) |>.symm
      obtain rfl : fn = Tryz.f5 := (Option.some.inj (Tryz.func5.symm.trans hfn)).symm
      exact ⟨by kernel_rfl, fun j t ht => robotRoundTrip_noStand j t (by simpa using ht)⟩)
    (by kernel_rfl)
#print axioms robotRoundTrip_card

end Go.Proofs.YtanopckddijfcaaGreatDoor
