/- The statement SamplerWithin of chapter 23, for every input of its types. A TIED card: the listed variable sampler.primes has the value that the program text gives it, and nothing in the pruned project writes it. -/
import Derived.Test.YtcljanaleeapnaaDoorP12
import Derived.Test.YtcljanaleeapnaaDoorT23
set_option linter.unusedVariables false
set_option linter.unusedSimpArgs false
namespace Go.Proofs.YtcljanaleeapnaaDoor
open Go.ChangeShapes Go.WideShapes Go.ChangeAt Go.WideMaps Go.WideElems Go.RowKit Go.Abs


def samplerWithin_ak : List AK := [.lf (.slc (.int .i64)), .lf (.int .u64), .lf (.int .u64)]
def samplerWithin_mk (x : ArgT samplerWithin_ak) : Tup armplanlaw23_SamplerWithin.p.inS := (fun x => ((x.1, (x.2.1, (x.2.2.1, ()))), ())) x
theorem samplerWithin_fits : fitsArgs Tryd.prog Tryd.f12.params.toList samplerWithin_ak = true := by kernel_rfl
theorem samplerWithin_good (x : ArgT samplerWithin_ak) (g : GoodAll samplerWithin_ak x) : armplanlaw23_SamplerWithin.p.F (samplerWithin_mk x) = some true := within_good x g

set_option maxRecDepth 100000 in
theorem samplerWithin_lifted (os : Os) (started : os.Started) (H : Type) (enc : TypeId × Value → H) :
    ReturnsInHanded {} Tryd.checked os 12 .any (fun w args => (Rows.samplerWithinSpec.pre enc Tryd.prog Tryd.f12 [] false w args ∧ laidMetH Tryd.prog [("armplan/sampler.primes", Rows.laid_armplan_sampler_primes)] w) ∧ sizedMet enc Tryd.prog Tryd.f12 (OpenSpec.ofChange Rows.samplerWithinSpec) false w args)
      (Rows.samplerWithinSpec.post enc Tryd.prog Tryd.f12 false true false false) := by
  refine returnsInHanded_of_change_and (C := Tryd.checked) (X := fun w _ => laidMetH Tryd.prog [("armplan/sampler.primes", Rows.laid_armplan_sampler_primes)] w) (fun _ _ _ hh h => h.of_heap hh) own started (by kernel_rfl) Tryd.func12
    (ChangeSpec.witness_shaped (enc := enc) (C := Tryd.checked) (os := os) (X := fun w _ => laidMetH Tryd.prog [("armplan/sampler.primes", Rows.laid_armplan_sampler_primes)] w) false (World.doorLaid Tryd.prog 4000 os) #[.slice none 0 0, .int .u64 0, .int .u64 0] 40 rfl (World.shaped_of_RefB (by kernel_rfl) (by kernel_rfl)) (by kernel_rfl) (by kernel_rfl) (by kernel_rfl) (door_met os _)) ?_
  intro W base args ds gs before hval0 hW _ hz hL _
  have hval : ∀ (j : Nat) t v, Tryd.f12.params.toList[j]? = some t → args.toList[j]? = some v → Value.okWide Tryd.prog W .any base t v := fun j t v h1 h2 => hval0 j t v (by simpa using h1) (by simpa using h2)
  have hW' := hW
  obtain ⟨p, q, hA0, hV, rfl, hfz, hnd⟩ := hW
  have hA : DataW.TrodAll enc Tryd.prog W 0 (fun _ => true) true Tryd.f12.params.toList args.toList ds p := hA0
  obtain ⟨rfl, rfl⟩ := trodVars_none hV
  have hws := weights_le (ts := Tryd.f12.params.toList) (us := Rows.samplerWithinSpec.plain.varTypes Tryd.prog) rfl rfl hz
  obtain ⟨x, gx, hlen, hx⟩ := args_of samplerWithin_ak _ _ _ _ 0 samplerWithin_fits hval hws hA
  have hdl := trodAll_len hA
  have hlt : ∀ y ∈ p, y.block < W.heap.size := fun y hy => hW'.lt y (by simpa using hy)
  refine (law_args (p := armplanlaw23_SamplerWithin.p) armplanlaw23_SamplerWithin.sound samplerWithin_ak samplerWithin_mk (fun _ => rfl) rfl rfl rfl (samplerWithin_good x gx) rfl (globs hL) hlen hx).mono fun e W' ⟨he, bel⟩ => ?_
  subst he
  have hB := args_back (by kernel_rfl : laidOutB Tryd.prog = true) bel (by kernel_rfl) hA hlt
  match ds, hdl, hW', hB with
  | [d1, d2, d3], _, hW', hB => exact ⟨_, rfl, _, _, _, [], _, [], hW', trodAll_mk1 (shut_bool Tryd.underlying4 _), hB, rfl, bel.frame _, fun h => by cases h⟩

theorem samplerWithin_holds : Rows.SamplerWithinSaid :=
  OpenClaim.holds_of_wide 12 Tryd.f12 rfl rfl rfl rfl rfl rfl rfl ⟨rfl, rfl, rfl, rfl, rfl⟩ rfl rfl rfl rfl rfl (by kernel_rfl) Tryd.func12 (by kernel_rfl)
    (of_decide_eq_true (by kernel_rfl)) (by unfold Func.isWrapper; first | (rw [if_pos (by decide +kernel)]; kernel_rfl) | (rw [if_neg (by decide +kernel)]; exact ⟨rfl, rfl⟩))
    (fun os started H enc _ => samplerWithin_lifted os started H enc)

theorem samplerWithin_noStand : ∀ (j : Nat) (t : TypeId), Tryd.f12.params.toList[j]? = some t → Tryd.prog.wantsStandIn t = false := by
  intro j t ht
  have h : (Tryd.f12.params.toList.all fun t => !(Tryd.prog.wantsStandIn t)) = true := by kernel_rfl
  rw [List.all_eq_true] at h
  simpa using h t (List.mem_of_getElem? ht)
theorem samplerWithin_card : Rows.SamplerWithinCardSaid :=
  Claim7.holds_tied_plain_at .later [] [.data] true (true, "e34b7d77a189c755a0b9fcd7a79c5c435a25c4c32d642872533623cfe221eabc") false
    samplerWithin_holds (fun _ h => by cases h) (by kernel_rfl) (fun _ h => by cases h) samplerWithin_row_tie rfl ⟨rfl, rfl⟩ (by kernel_rfl) rfl
    (fun f fn hf hfn => by
      obtain rfl : f = 12 := Option.some.inj ((show Tryd.prog.funcNamed "armplan/armplanlaw23.SamplerWithin" = some 12 by kernel_rfl).symm.trans hf) |>.symm
      obtain rfl : fn = Tryd.f12 := (Option.some.inj (Tryd.func12.symm.trans hfn)).symm
      exact ⟨by kernel_rfl, fun j t ht => samplerWithin_noStand j t (by simpa using ht)⟩)
    (by kernel_rfl)
#print axioms samplerWithin_card

end Go.Proofs.YtcljanaleeapnaaDoor
