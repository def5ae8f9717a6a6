/- The statement TokenFormats of armplan/armplanlaw6, for every input of its types. A TIED card: the listed variables of the Go library have the values that its text gives them, and nothing in the pruned project writes them. -/
import Derived.Test.YtgligkmpgefbmaaDoorC6PFormats
import Derived.Test.YtgligkmpgefbmaaDoorC6T7
set_option linter.unusedVariables false
set_option linter.unusedSimpArgs false
namespace Go.Proofs.YtgligkmpgefbmaaDoor
open Go.ChangeShapes Go.WideShapes Go.ChangeAt Go.WideMaps Go.WideElems Go.RowKit Go.Abs


def tokenFormats_ak : List AK := [.lf (.int .i64), .lf (.int .u8)]
def tokenFormats_mk (x : ArgT tokenFormats_ak) : Tup armplanlaw6_TokenFormats.p.inS := (fun x => ((x.1, (x.2.1, ())), ())) x
theorem tokenFormats_fits : fitsArgs Tryd.prog Tryd.f9.params.toList tokenFormats_ak = true := by kernel_rfl
theorem tokenFormats_good (x : ArgT tokenFormats_ak) (g : GoodAll tokenFormats_ak x) : armplanlaw6_TokenFormats.p.F (tokenFormats_mk x) = some true := formats_good x g

set_option maxRecDepth 100000 in
theorem tokenFormats_lifted (os : Os) (started : os.Started) (H : Type) (enc : TypeId × Value → H) :
    ReturnsInHanded {} Tryd.checked os 9 .any (fun w args => (Rows.tokenFormatsSpec.pre enc Tryd.prog Tryd.f9 [] false w args ∧ laidMetH Tryd.prog laid7 w) ∧ sizedMet enc Tryd.prog Tryd.f9 (OpenSpec.ofChange Rows.tokenFormatsSpec) false w args)
      (Rows.tokenFormatsSpec.post enc Tryd.prog Tryd.f9 false true false false) := by
  refine returnsInHanded_of_change_and (C := Tryd.checked) (X := fun w _ => laidMetH Tryd.prog laid7 w) (fun _ _ _ hh h => h.of_heap hh) own started (by kernel_rfl) Tryd.func9
    (ChangeSpec.witness_shaped (enc := enc) (C := Tryd.checked) (os := os) (X := fun w _ => laidMetH Tryd.prog laid7 w) false (World.laidAll Tryd.prog os laid7) #[.int .i64 0, .int .u8 0] 40 (World.laidAll_os _ _ _) (World.shaped_of_ZipB (by kernel_rfl) (by kernel_rfl)) (by kernel_rfl) (by kernel_rfl) (by kernel_rfl) (met7 os _)) ?_
  intro W base args ds gs before hval0 hW _ hz hL _
  have hval : ∀ (j : Nat) t v, Tryd.f9.params.toList[j]? = some t → args.toList[j]? = some v → Value.okWide Tryd.prog W .any base t v := fun j t v h1 h2 => hval0 j t v (by simpa using h1) (by simpa using h2)
  have hW' := hW
  obtain ⟨p, q, hA0, hV, rfl, hfz, hnd⟩ := hW
  have hA : DataW.TrodAll enc Tryd.prog W 0 (fun _ => true) true Tryd.f9.params.toList args.toList ds p := hA0
  obtain ⟨rfl, rfl⟩ := trodVars_none hV
  have hws := weights_le (ts := Tryd.f9.params.toList) (us := Rows.tokenFormatsSpec.plain.varTypes Tryd.prog) rfl rfl hz
  obtain ⟨x, gx, hlen, hx⟩ := args_of tokenFormats_ak _ _ _ _ 0 tokenFormats_fits hval hws hA
  have hdl := trodAll_len hA
  have hlt : ∀ y ∈ p, y.block < W.heap.size := fun y hy => hW'.lt y (by simpa using hy)
  refine (law_args (p := armplanlaw6_TokenFormats.p) armplanlaw6_TokenFormats.sound tokenFormats_ak tokenFormats_mk (fun _ => rfl) rfl rfl rfl (tokenFormats_good x gx) rfl (globs7 hL) hlen hx).mono fun e W' ⟨he, bel⟩ => ?_
  subst he
  have hB := args_back (by kernel_rfl : laidOutB Tryd.prog = true) bel (by kernel_rfl) hA hlt
  match ds, hdl, hW', hB with
  | [d1, d2], _, hW', hB => exact ⟨_, rfl, _, _, _, [], _, [], hW', trodAll_mk1 (shut_bool Tryd.underlying4 _), hB, rfl, bel.frame _, fun h => by cases h⟩

theorem tokenFormats_holds : Rows.TokenFormatsSaid :=
  OpenClaim.holds_of_wide 9 Tryd.f9 rfl rfl rfl rfl rfl rfl rfl ⟨rfl, rfl, rfl, rfl, rfl⟩ rfl rfl rfl rfl rfl (by kernel_rfl) Tryd.func9 (by kernel_rfl)
    (of_decide_eq_true (by kernel_rfl)) (by unfold Func.isWrapper; first | (rw [if_pos (by decide +kernel)]; kernel_rfl) | (rw [if_neg (by decide +kernel)]; exact ⟨rfl, rfl⟩))
    (fun os started H enc _ => tokenFormats_lifted os started H enc)

theorem tokenFormats_noStand : ∀ (j : Nat) (t : TypeId), Tryd.f9.params.toList[j]? = some t → Tryd.prog.wantsStandIn t = false := by
  intro j t ht
  have h : (Tryd.f9.params.toList.all fun t => !(Tryd.prog.wantsStandIn t)) = true := by kernel_rfl
  rw [List.all_eq_true] at h
  simpa using h t (List.mem_of_getElem? ht)
theorem tokenFormats_card : Rows.TokenFormatsCardSaid :=
  Claim7.holds_tied_plain_at .later [] [.data, .data, .data, .data, .sentinel, .sentinel, .pinned] true (true, "d6ede7990721a129ffe1f894a7cbd4b37ba81d80d4b617c4892062194e10c4c8") true
    tokenFormats_holds (fun _ h => by cases h) (by kernel_rfl) (fun _ h => by cases h) tokenFormats_row_tie rfl ⟨rfl, rfl⟩ (by kernel_rfl) rfl
    (fun f fn hf hfn => by
      obtain rfl : f = 9 := Option.some.inj ((show Tryd.prog.funcNamed "armplan/armplanlaw6.TokenFormats" = some 9 by kernel_rfl).symm.trans hf) |>.symm
      obtain rfl : fn = Tryd.f9 := (Option.some.inj (Tryd.func9.symm.trans hfn)).symm
      exact ⟨by kernel_rfl, fun j t ht => tokenFormats_noStand j t (by simpa using ht)⟩)
    (by kernel_rfl)
#print axioms tokenFormats_card

end Go.Proofs.YtgligkmpgefbmaaDoor
