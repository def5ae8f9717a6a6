/- The statement RobotChains of armplan/armplanlaw8, for every input of its types. A TIED card: the listed variables of the Go library have the values that its text gives them, and nothing in the pruned project writes them. -/
import Derived.Test.YtanopckddijfcaaGreatDoorC8ZPChains
import Derived.Test.YtanopckddijfcaaGreatDoorC8ZT
set_option linter.unusedVariables false
set_option linter.unusedSimpArgs false
namespace Go.Proofs.YtanopckddijfcaaGreatDoor
open Go.ChangeShapes Go.WideShapes Go.ChangeAt Go.WideMaps Go.WideElems Go.RowKit Go.Abs


def robotChains_ak : List AK := [.ag (.pair (.slc (.pair .str (.pair (.int .i64) (.pair (.int .i64) (.pair (.pair (.int .i64) (.pair (.int .i64) (.int .i64))) (.pair (.int .i64) (.pair (.int .i64) (.pair (.int .i64) (.pair (.int .i64) (.pair (.int .i64) (.int .i64))))))))))) (.slc (.pair (.int .i64) (.pair (.int .i64) (.pair (.int .i64) (.pair (.int .i64) (.int .i64))))))), .lf .str, .lf (.int .i64), .lf (.int .i64), .lf (.slc (.int .i64))]
def robotChains_mk (x : ArgT robotChains_ak) : Tup armplanlaw8_RobotChains.p.inS := (fun x => (((x.1.1, (x.1.2, ())), (x.2.1, (x.2.2.1, (x.2.2.2.1, (x.2.2.2.2.1, ()))))), ())) x
theorem robotChains_fits : fitsArgs Tryz.prog Tryz.f4.params.toList robotChains_ak = true := by kernel_rfl
theorem robotChains_good (x : ArgT robotChains_ak) (g : GoodAll robotChains_ak x) : armplanlaw8_RobotChains.p.F (robotChains_mk x) = some true := chains_good x g

set_option maxRecDepth 100000 in
theorem robotChains_lifted (os : Os) (started : os.Started) (H : Type) (enc : TypeId × Value → H) :
    ReturnsInHanded {} Tryz.checked os 4 .any (fun w args => (Rows.robotChainsSpec.pre enc Tryz.prog Tryz.f4 [] false w args ∧ laidMetH Tryz.prog laid6 w) ∧ sizedMet enc Tryz.prog Tryz.f4 (OpenSpec.ofChange Rows.robotChainsSpec) false w args)
      (Rows.robotChainsSpec.post enc Tryz.prog Tryz.f4 false true false false) := by
  refine returnsInHanded_of_change_and (C := Tryz.checked) (X := fun w _ => laidMetH Tryz.prog laid6 w) (fun _ _ _ hh h => h.of_heap hh) own started (by kernel_rfl) Tryz.func4
    (ChangeSpec.witness_shaped (enc := enc) (C := Tryz.checked) (os := os) (X := fun w _ => laidMetH Tryz.prog laid6 w) false (World.doorLaid Tryz.prog 4000 os) #[.agg #[.slice none 0 0, .slice none 0 0], .string ⟨#[]⟩, .int .i64 0, .int .i64 0, .slice none 0 0] 40 rfl (World.shaped_of_RefB (by kernel_rfl) (by kernel_rfl)) (by kernel_rfl) (by kernel_rfl) (by kernel_rfl) (door_met os _)) ?_
  intro W base args ds gs before hval0 hW _ hz hL _
  have hval : ∀ (j : Nat) t v, Tryz.f4.params.toList[j]? = some t → args.toList[j]? = some v → Value.okWide Tryz.prog W .any base t v := fun j t v h1 h2 => hval0 j t v (by simpa using h1) (by simpa using h2)
  have hW' := hW
  obtain ⟨p, q, hA0, hV, rfl, hfz, hnd⟩ := hW
  have hA : DataW.TrodAll enc Tryz.prog W 0 (fun _ => true) true Tryz.f4.params.toList args.toList ds p := hA0
  obtain ⟨rfl, rfl⟩ := trodVars_none hV
  have hws := weights_le (ts := Tryz.f4.params.toList) (us := Rows.robotChainsSpec.plain.varTypes Tryz.prog) rfl rfl hz
  obtain ⟨x, gx, hlen, hx⟩ := args_of robotChains_ak _ _ _ _ 0 robotChains_fits hval hws hA
  have hdl := trodAll_len hA
  have hlt : ∀ y ∈ p, y.block < W.heap.size := fun y hy => hW'.lt y (by simpa using hy)
  refine (law_args (p := armplanlaw8_RobotChains.p) armplanlaw8_RobotChains.sound robotChains_ak robotChains_mk (fun _ => rfl) rfl rfl rfl (robotChains_good x gx) rfl (globs hL) hlen hx).mono fun e W' ⟨he, bel⟩ => ?_
  subst he
  have hB := args_back (by kernel_rfl : laidOutB Tryz.prog = true) bel (by kernel_rfl) hA hlt
  match ds, hdl, hW', hB with
  | [d1, d2, d3, d4, d5], _, hW', hB => exact ⟨_, rfl, _, _, _, [], _, [], hW', trodAll_mk1 (shut_bool Tryz.underlying4 _), hB, rfl, bel.frame _, fun h => by cases h⟩

theorem robotChains_holds : Rows.RobotChainsSaid :=
  OpenClaim.holds_of_wide 4 Tryz.f4 rfl rfl rfl rfl rfl rfl rfl ⟨rfl, rfl, rfl, rfl, rfl⟩ rfl rfl rfl rfl rfl (by kernel_rfl) Tryz.func4 (by kernel_rfl)
    (of_decide_eq_true (by kernel_rfl)) (by unfold Func.isWrapper; first | (rw [if_pos (by decide +kernel)]; kernel_rfl) | (rw [if_neg (by decide +kernel)]; exact ⟨rfl, rfl⟩))
    (fun os started H enc _ => robotChains_lifted os started H enc)

theorem robotChains_noStand : ∀ (j : Nat) (t : TypeId), Tryz.f4.params.toList[j]? = some t → Tryz.prog.wantsStandIn t = false := by
  intro j t ht
  have h : (Tryz.f4.params.toList.all fun t => !(Tryz.prog.wantsStandIn t)) = true := by kernel_rfl
  rw [List.all_eq_true] at h
  simpa using h t (List.mem_of_getElem? ht)
theorem robotChains_card : Rows.RobotChainsCardSaid :=
  Claim7.holds_tied_plain_at .later [] [.data, .data, .data, .sentinel, .sentinel, .widerDeep] true (true, "53449466b9edfddeda1a1a6c61ac1999740dad59c36a6d89ed3294bf320e0dd2") true
    robotChains_holds (fun _ h => by cases h) (by kernel_rfl) (fun _ h => by cases h) robotChains_row_tie rfl ⟨rfl, rfl⟩ (by kernel_rfl) rfl
    (fun f fn hf hfn => by
      obtain rfl : f = 4 := Option.some.inj ((show Tryz.prog.funcNamed "armplan/armplanlaw8.RobotChains" = some 4 by kernel_rfl).symm.trans hf) |>.symm
      obtain rfl : fn = Tryz.f4 := (Option.some.inj (Tryz.func4.symm.trans hfn)).symm
      exact ⟨by kernel_rfl, fun j t ht => robotChains_noStand j t (by simpa using ht)⟩)
    (by kernel_rfl)
#print axioms robotChains_card

end Go.Proofs.YtanopckddijfcaaGreatDoor
