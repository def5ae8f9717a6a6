import Derived.Test.YtcljanaleeapnaaDoorLWords
import Derived.Test.YtcljanaleeapnaaDoorAwake
import Derived.Test.YtcljanaleeapnaaDoorAbs34
import Derived.Test.YtcljanaleeapnaaDoorRows
import Derived.Test.YtcljanaleeapnaaDoorCards
import Derived.Test.YtcljanaleeapnaaDoorTie
import Derived.ProofKit
import Derived.LaidMore
import Derived.OpenShut
import Derived.Stop.Joined
import Derived.SevenTiedAt
import Derived.ChangeOld
namespace Go.Proofs.YtcljanaleeapnaaDoor
open Go.ChangeShapes Go.WideShapes Go.ChangeAt Go.WideMaps Go.WideElems Go.RowKit Go.Abs

theorem own : ownKnob Tryd.prog.godebug = none := by kernel_rfl
theorem gPrimes : Tryd.prog.globalNamed "armplan/sampler.primes" = some 0 := by kernel_rfl
theorem tPrimes : (Tryd.prog.globals[0]?).map (·.type) = some 56 := by kernel_rfl
abbrev laidL : List (String × DataW Lit) := []
def primesL : List Int := [2, 3, 5, 7, 11, 13, 17, 19, 23, 29]

theorem of_laid {W : World} (h : laidMetH Tryd.prog [("armplan/sampler.primes", Rows.laid_armplan_sampler_primes)] W) : ∀ (i : Nat) (n : Int), primesL[i]? = some n → W.cell? ⟨0, i, none⟩ = some (.int .u64 n) := by
  rw [MakeChecks.laidMetH_plain _ _ _ (by kernel_rfl)] at h
  obtain ⟨ps, ⟨g0, t0, cs0, f0, p0, q0, hg0, ht0, hv0, hd0, _, _⟩, _, _⟩ := h
  obtain rfl := Option.some.inj (gPrimes.symm.trans hg0)
  obtain rfl := Option.some.inj (tPrimes.symm.trans ht0)
  obtain ⟨xs, m1, rfl, hx1, hlen, hn3, hel⟩ := DataW.trod_array Tryd.underlying56 hd0
  have c22 : Tryd.prog.cellsOf 22 = 1 := by kernel_rfl
  have hd : xs.map (·.1) = primesL.map fun n => (DataW.lit (.int .u64 n) : DataW Unit) := by
    have h1 : DataW.agg (primesL.map fun n => (DataW.lit (.int .u64 n) : DataW Unit)) = DataW.agg (xs.map (·.1)) := congrArg Prod.fst hx1
    injection h1 with h1
    exact h1.symm
  intro i n hi
  have hi10 : i < 10 := (List.getElem?_eq_some_iff.1 hi).1
  have h1 := hel i hi10
  rw [c22, Nat.mul_one] at h1
  have hx : xs[i]? = some xs[i] := List.getElem?_eq_getElem (by omega)
  rw [hx] at h1
  obtain ⟨k, e1, e2, _⟩ := DataW.trod_int Tryd.underlying22 h1
  have h2 : (xs.map (·.1))[i]? = some (DataW.lit (.int .u64 k)) := by rw [List.getElem?_map, hx, e2]; rfl
  rw [hd, List.getElem?_map, hi] at h2
  simp only [Option.map_some, Option.some.injEq, DataW.lit.injEq, Lit.int.injEq, true_and] at h2
  subst h2
  have h3 : cs0[i]? = some (.int .u64 n) := by
    have : (List.take 1 (List.drop i cs0.toList))[0]? = some (.int .u64 n) := by rw [e1]; rfl
    rw [List.getElem?_take, List.getElem?_drop] at this
    simpa using this
  rw [← h3]
  exact World.var?_cell hg0 hv0 i

/-- The table, as the reading has it. -/
theorem globs {W : World} (h : laidMetH Tryd.prog [("armplan/sampler.primes", Rows.laid_armplan_sampler_primes)] W) : ∀ g cs, glob0 g = some cs → LRep I0 noDom W noBad (.dp cs) (.pointer (some ⟨g, 0, none⟩)) := by
  intro g cs hg
  unfold glob0 at hg
  simp only [globTab] at hg
  cases hb : Nat.beq 0 g with
  | false => rw [hb] at hg; cases hg
  | true =>
    rw [hb] at hg
    have := Nat.eq_of_beq_eq_true hb
    subst this
    simp only [cond_true, Option.some.injEq] at hg
    subst hg
    refine ⟨⟨0, 0, none⟩, primesL.map fun n => .int .u64 n, rfl, ?_, ?_⟩
    · exact ⟨⟨rfl, rfl⟩, ⟨rfl, rfl⟩, ⟨rfl, rfl⟩, ⟨rfl, rfl⟩, ⟨rfl, rfl⟩, ⟨rfl, rfl⟩, ⟨rfl, rfl⟩, ⟨rfl, rfl⟩, ⟨rfl, rfl⟩, ⟨rfl, rfl⟩, trivial⟩
    · intro i v hi
      rw [List.getElem?_map, Option.map_eq_some_iff] at hi
      obtain ⟨n, hn, rfl⟩ := hi
      rw [addr_add, Nat.zero_add]
      exact ⟨of_laid h i n hn, fun hh => hh⟩

/-- The door's own heap meets the condition. -/
theorem door_met (os : Os) (args : Array Value) : laidMetH Tryd.prog [("armplan/sampler.primes", Rows.laid_armplan_sampler_primes)] ((World.doorLaid Tryd.prog 4000 os).forCall (fun _ _ => 0) ⟨#[], args, []⟩).memory :=
  laidMetH_of_parts3 (fuel := 8) (laidMet_of_run' 8 (by kernel_rfl) (by kernel_rfl)) (by kernel_rfl) (by kernel_rfl)
theorem words_true (a b : Int) : armplanlaw23_SamplerWords.F a b = some true := by
  rw [armplanlaw23_SamplerWords.F_eq]
  unfold armplanlaw23_SamplerWords.F0
  rw [awake_true]
  obtain ⟨r, hr⟩ := word_some a b
  obtain ⟨r', hr'⟩ := word_some a (ibits .and .u64 b (15 : Int))
  simp only [word_eq, hr, hr', Option.bind_some, cond_true, beq_self_eq_true]

theorem words_calls (a b : Int) (W : World) (hL : laidMetH Tryd.prog [("armplan/sampler.primes", Rows.laid_armplan_sampler_primes)] W) :
    Calls Tryd.prog 9 #[.int .u64 a, .int .u64 b] W fun e W' => e = .returned (.bool true) ∧ Below W.heap.size W W' := by
  refine law_bool (p := armplanlaw23_SamplerWords.p) armplanlaw23_SamplerWords.sound rfl rfl (x := ((a, (b, ())), ())) (r := true) (words_true a b) rfl (globs hL) ?_ rfl
  intro i
  match i with
  | 0 => exact ⟨rfl, rfl⟩
  | 1 => exact ⟨rfl, rfl⟩
  | i + 2 => trivial

set_option maxRecDepth 100000 in
theorem words_lifted (os : Os) (started : os.Started) (H : Type) (enc : TypeId × Value → H) :
    ReturnsInHanded {} Tryd.checked os 9 .any (fun w args => (Rows.samplerWordsSpec.pre enc Tryd.prog Tryd.f9 [] false w args ∧ laidMetH Tryd.prog [("armplan/sampler.primes", Rows.laid_armplan_sampler_primes)] w) ∧ sizedMet enc Tryd.prog Tryd.f9 (OpenSpec.ofChange Rows.samplerWordsSpec) false w args)
      (Rows.samplerWordsSpec.post enc Tryd.prog Tryd.f9 false true false false) := by
  refine returnsInHanded_of_change_and (C := Tryd.checked) (X := fun w _ => laidMetH Tryd.prog [("armplan/sampler.primes", Rows.laid_armplan_sampler_primes)] w) (fun _ _ _ hh h => h.of_heap hh) own started (by kernel_rfl) Tryd.func9
    (ChangeSpec.witness_shaped (enc := enc) (C := Tryd.checked) (os := os) (X := fun w _ => laidMetH Tryd.prog [("armplan/sampler.primes", Rows.laid_armplan_sampler_primes)] w) false (World.doorLaid Tryd.prog 4000 os) #[.int .u64 0, .int .u64 0] 8 rfl (World.shaped_of_RefB (by kernel_rfl) (by kernel_rfl)) (by kernel_rfl) (by kernel_rfl) (by kernel_rfl) (door_met os _)) ?_
  intro W base args ds gs before hval0 hW _ _ hL _
  have hval : ∀ (j : Nat) t v, Tryd.f9.params[j]? = some t → args[j]? = some v → Value.okWide Tryd.prog W .any base t v := hval0
  have hW' := hW
  obtain ⟨p, q, hA0, hV, rfl, hfz, hnd⟩ := hW
  have hA : DataW.TrodAll enc Tryd.prog W 0 (fun _ => true) true Tryd.f9.params.toList args.toList ds p := hA0
  rw [Tryd.params9] at hA hval
  obtain ⟨v0, v1, d0, d1, p0, p1, rfl, rfl, rfl, h0, h1⟩ := trodAll_two hA
  obtain ⟨rfl, rfl⟩ := trodVars_none hV
  obtain ⟨a, rfl, rfl, rfl, wa⟩ := open_int Tryd.underlying22 (hval 0 22 v0 rfl rfl) h0
  obtain ⟨b, rfl, rfl, rfl, wb⟩ := open_int Tryd.underlying22 (hval 1 22 v1 rfl rfl) h1
  clear hA0 hval0
  refine (words_calls a b W hL).mono fun e W' ⟨he, bel⟩ => ?_
  subst he
  exact ⟨_, rfl, _, _, _, [], _, [], hW', trodAll_mk1 (shut_bool Tryd.underlying4 _), (trodAll_cons_mk (shut_int Tryd.underlying22 wa) (trodAll_cons_mk (shut_int Tryd.underlying22 wb) trodAll_mk0)), rfl, bel.frame _, fun h => by cases h⟩

theorem samplerWords_holds : Rows.SamplerWordsSaid :=
  OpenClaim.holds_of_wide 9 Tryd.f9 rfl rfl rfl rfl rfl rfl rfl ⟨rfl, rfl, rfl, rfl, rfl⟩ rfl rfl rfl rfl rfl (by kernel_rfl) Tryd.func9 (by kernel_rfl)
    (of_decide_eq_true (by kernel_rfl)) (by unfold Func.isWrapper; first | (rw [if_pos (by decide +kernel)]; kernel_rfl) | (rw [if_neg (by decide +kernel)]; exact ⟨rfl, rfl⟩))
    (fun os started H enc _ => words_lifted os started H enc)

theorem samplerWords_card : Rows.SamplerWordsCardSaid :=
  Claim7.holds_tied_plain_at .later [] [.data] true (true, "e34b7d77a189c755a0b9fcd7a79c5c435a25c4c32d642872533623cfe221eabc") false
    samplerWords_holds (fun _ h => by cases h) (by kernel_rfl) (fun _ h => by cases h) samplerWords_row_tie rfl ⟨rfl, rfl⟩ (by kernel_rfl) rfl
    (fun f fn hf hfn => by
      obtain rfl : f = 9 := Option.some.inj ((show Tryd.prog.funcNamed "armplan/armplanlaw23.SamplerWords" = some 9 by kernel_rfl).symm.trans hf) |>.symm
      obtain rfl : fn = Tryd.f9 := (Option.some.inj (Tryd.func9.symm.trans hfn)).symm
      exact ⟨by kernel_rfl, fun j t ht => by
        rw [Tryd.params9] at ht
        have h3 : t = 22 := by
          rcases j with _ | _ | j
          · simpa using ht.symm
          · simpa using ht.symm
          · simp at ht
        subst h3
        exact (show Tryd.prog.wantsStandIn 22 = false by kernel_rfl)⟩)
    (by kernel_rfl)
#print axioms samplerWords_card

end Go.Proofs.YtcljanaleeapnaaDoor
