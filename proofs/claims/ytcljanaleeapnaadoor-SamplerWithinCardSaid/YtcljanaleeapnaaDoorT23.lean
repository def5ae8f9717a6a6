/- A part of the proof that the text with the row names: printed readings of functions, or plain lemmas about them. -/
import Derived.Test.YtcljanaleeapnaaDoorA1
import Derived.Test.YtcljanaleeapnaaDoorAbsD
import Derived.Test.YtcljanaleeapnaaDoorRows
import Derived.Test.YtcljanaleeapnaaDoorCards
import Derived.Test.YtcljanaleeapnaaDoorTie
import Derived.ProofKit
import Derived.LaidMore
import Derived.OpenShut
import Derived.Stop.Joined
import Derived.SevenTiedAt
import Derived.ChangeOld
set_option linter.unusedVariables false
set_option linter.unusedSimpArgs false
namespace Go.Proofs.YtcljanaleeapnaaDoor
open Go.ChangeShapes Go.WideShapes Go.ChangeAt Go.WideMaps Go.WideElems Go.RowKit Go.Abs

theorem own : ownKnob Tryd.prog.godebug = none := by kernel_rfl
theorem gPrimes : Tryd.prog.globalNamed "armplan/sampler.primes" = some 0 := by kernel_rfl
theorem tPrimes : (Tryd.prog.globals[0]?).map (·.type) = some 56 := by kernel_rfl
abbrev laidL : List (String × DataW Lit) := []
def primesL : List Int := [2, 3, 5, 7, 11, 13, 17, 19, 23, 29]

theorem of_laid {W : World} (h : laidMetH Tryd.prog [("armplan/sampler.primes", Rows.laid_armplan_sampler_primes)] W) : ∀ (i : Nat) (n : Int), primesL[i]? = some n → W.cell? ⟨0, i, none⟩ = some (.int .u64 n) := by
  rw [MakeChecks.laidMetH_plain _ _ _ (by kernel_rfl)] at h
  obtain ⟨ps, ⟨g0, t0, cs0, f0, p0, q0, hg0, ht0, hv0, hd0, _, _⟩, _, _⟩ := h
  obtain rfl := Option.some.inj (gPrimes.symm.trans hg0)
  obtain rfl := Option.some.inj (tPrimes.symm.trans ht0)
  obtain ⟨xs, m1, rfl, hx1, hlen, hn3, hel⟩ := DataW.trod_array Tryd.underlying56 hd0
  have c22 : Tryd.prog.cellsOf 22 = 1 := by kernel_rfl
  have hd : xs.map (·.1) = primesL.map fun n => (DataW.lit (.int .u64 n) : DataW Unit) := by
    have h1 : DataW.agg (primesL.map fun n => (DataW.lit (.int .u64 n) : DataW Unit)) = DataW.agg (xs.map (·.1)) := congrArg Prod.fst hx1
    injection h1 with h1
    exact h1.symm
  intro i n hi
  have hi10 : i < 10 := (List.getElem?_eq_some_iff.1 hi).1
  have h1 := hel i hi10
  rw [c22, Nat.mul_one] at h1
  have hx : xs[i]? = some xs[i] := List.getElem?_eq_getElem (by omega)
  rw [hx] at h1
  obtain ⟨k, e1, e2, _⟩ := DataW.trod_int Tryd.underlying22 h1
  have h2 : (xs.map (·.1))[i]? = some (DataW.lit (.int .u64 k)) := by rw [List.getElem?_map, hx, e2]; rfl
  rw [hd, List.getElem?_map, hi] at h2
  simp only [Option.map_some, Option.some.injEq, DataW.lit.injEq, Lit.int.injEq, true_and] at h2
  subst h2
  have h3 : cs0[i]? = some (.int .u64 n) := by
    have : (List.take 1 (List.drop i cs0.toList))[0]? = some (.int .u64 n) := by rw [e1]; rfl
    rw [List.getElem?_take, List.getElem?_drop] at this
    simpa using this
  rw [← h3]
  exact World.var?_cell hg0 hv0 i

/-- The table, as the reading has it. -/
theorem globs {W : World} (h : laidMetH Tryd.prog [("armplan/sampler.primes", Rows.laid_armplan_sampler_primes)] W) : ∀ g cs, glob0 g = some cs → LRep I0 noDom W noBad (.dp cs) (.pointer (some ⟨g, 0, none⟩)) := by
  intro g cs hg
  unfold glob0 at hg
  simp only [globTab] at hg
  cases hb : Nat.beq 0 g with
  | false => rw [hb] at hg; cases hg
  | true =>
    rw [hb] at hg
    have := Nat.eq_of_beq_eq_true hb
    subst this
    simp only [cond_true, Option.some.injEq] at hg
    subst hg
    refine ⟨⟨0, 0, none⟩, primesL.map fun n => .int .u64 n, rfl, ?_, ?_⟩
    · exact ⟨⟨rfl, rfl⟩, ⟨rfl, rfl⟩, ⟨rfl, rfl⟩, ⟨rfl, rfl⟩, ⟨rfl, rfl⟩, ⟨rfl, rfl⟩, ⟨rfl, rfl⟩, ⟨rfl, rfl⟩, ⟨rfl, rfl⟩, ⟨rfl, rfl⟩, trivial⟩
    · intro i v hi
      rw [List.getElem?_map, Option.map_eq_some_iff] at hi
      obtain ⟨n, hn, rfl⟩ := hi
      rw [addr_add, Nat.zero_add]
      exact ⟨of_laid h i n hn, fun hh => hh⟩

/-- The door's own heap meets the condition. -/
theorem door_met (os : Os) (args : Array Value) : laidMetH Tryd.prog [("armplan/sampler.primes", Rows.laid_armplan_sampler_primes)] ((World.doorLaid Tryd.prog 4000 os).forCall (fun _ _ => 0) ⟨#[], args, []⟩).memory :=
  laidMetH_of_parts3 (fuel := 8) (laidMet_of_run' 8 (by kernel_rfl) (by kernel_rfl)) (by kernel_rfl) (by kernel_rfl)

end Go.Proofs.YtcljanaleeapnaaDoor
