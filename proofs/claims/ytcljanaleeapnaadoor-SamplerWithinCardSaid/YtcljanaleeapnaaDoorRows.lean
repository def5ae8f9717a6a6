/-
  NARROWER THAN 'FOR EVERY INPUT', by the rows' own cells (each row's printed sentence says how): SamplerRadicals: laid · SamplerStrata: laid · SamplerNet: laid · SamplerCovers: laid · SamplerSpreads: laid · SamplerMonotone: laid · SamplerWords: laid · SamplerApart: laid · SamplerSamples: laid · SamplerWithin: laid.
  DERIVED. THE GIVEN ROWS OF THIS SEAT. 10 by the template 'for every input the law returns true; each argument reads behind the call as it read before'; 0 by the template 'total and deterministic' (their statements: YtcljanaleeapnaaDoorTotals.lean).
  GIVEN WITH THE SEED: the statements are not yours to turn. If you find one false, say at which input.
  Laid BY PROGRAM, IN A SANDBOX (cutbox-rows.mjs): the forced cells as the released guide's own fill.sh prints them over the translation 39e32f7a0c32449e… (all of the seat's roots in one cut). By AI agents, Wed Nov 11 2026. No macro, syntax, notation, axiom, sorry.
-/
import Derived.Test.YtcljanaleeapnaaDoorChecked
import GoSem.Claim
import GoSem.ClaimJoined
import GoSem.ClaimMapViews
import Derived.JoinedTies
import Derived.KernelRfl
namespace Go.Proofs.YtcljanaleeapnaaDoor
/- THE CELL 'sum', in the pinned program and in every row, IS THE sha256 OF THE DUMP (.gsa) THAT YtcljanaleeapnaaDoorProg.lean LOADS. Nothing in Lean hashes anything: it is a label: what it is worth is what the hold of that sum in a sandbox is worth. -/
noncomputable def Tryd.pinned : Pinned := { name := "ytcljanaleeapnaadoor", sum := "39e32f7a0c32449eef5824f8f9a0c04683fa4fdd130aac5e251588cfd8cf09b1", checked := Tryd.checked }
namespace Rows
def none {H : Type} : Left H := { results := [], args := [] }

/- WHAT THE LISTED PACKAGE-LEVEL VARIABLES READ AS WHEN THE CALL BEGINS. Each datum BY PROGRAM (the guide's laid-datum.mjs) off the statement by which the dump's own 'gosem.cut.vars' lays the variable. In a bare row this is a premise. The card (YtcljanaleeapnaaDoorCards.lean) ties it to the program's text. -/
def laid_armplan_sampler_primes {H : Type} : DataW H := .agg [.lit (.int .u64 2), .lit (.int .u64 3), .lit (.int .u64 5), .lit (.int .u64 7), .lit (.int .u64 11), .lit (.int .u64 13), .lit (.int .u64 17), .lit (.int .u64 19), .lit (.int .u64 23), .lit (.int .u64 29)]

/-- 'armplanlaw23.SamplerRadicals': WHATEVER THE INPUT: true; the input reads as it did. -/
def samplerRadicalsSpec : ChangeSpec := { name := "samplerRadicals", fn := fun _ => fun
  | [d1, d2, d3] => { results := [.lit (.bool true)], args := [d1, d2, d3] }
  | _ => none }
def samplerRadicalsRow : OpenClaim := { program := "ytcljanaleeapnaadoor", sum := "39e32f7a0c32449eef5824f8f9a0c04683fa4fdd130aac5e251588cfd8cf09b1", func := "armplan/armplanlaw23.SamplerRadicals", spec := "samplerRadicals", named := ["armplan/sampler.primes", "math/bits.divideError", "math/bits.overflowError"], apart := false, laid := [("armplan/sampler.primes", laid_armplan_sampler_primes)] }
def SamplerRadicalsSaid : Prop := samplerRadicalsRow.holds Tryd.pinned (OpenSpec.ofChange samplerRadicalsSpec)

/-- ITS FALSE NEIGHBOUR: 'it returns false'. Refute it at one input. -/
def samplerRadicalsWrong : ChangeSpec := { name := "samplerRadicals", fn := fun _ => fun
  | [d1, d2, d3] => { results := [.lit (.bool false)], args := [d1, d2, d3] }
  | _ => none }
def SamplerRadicalsWrongFalsely : Prop := samplerRadicalsRow.holds Tryd.pinned (OpenSpec.ofChange samplerRadicalsWrong)

/-- 'armplanlaw23.SamplerStrata': WHATEVER THE INPUT: true; the input reads as it did. -/
def samplerStrataSpec : ChangeSpec := { name := "samplerStrata", fn := fun _ => fun
  | [d1, d2] => { results := [.lit (.bool true)], args := [d1, d2] }
  | _ => none }
def samplerStrataRow : OpenClaim := { program := "ytcljanaleeapnaadoor", sum := "39e32f7a0c32449eef5824f8f9a0c04683fa4fdd130aac5e251588cfd8cf09b1", func := "armplan/armplanlaw23.SamplerStrata", spec := "samplerStrata", named := ["armplan/sampler.primes", "math/bits.divideError", "math/bits.overflowError"], apart := false, laid := [("armplan/sampler.primes", laid_armplan_sampler_primes)] }
def SamplerStrataSaid : Prop := samplerStrataRow.holds Tryd.pinned (OpenSpec.ofChange samplerStrataSpec)

/-- ITS FALSE NEIGHBOUR: 'it returns false'. Refute it at one input. -/
def samplerStrataWrong : ChangeSpec := { name := "samplerStrata", fn := fun _ => fun
  | [d1, d2] => { results := [.lit (.bool false)], args := [d1, d2] }
  | _ => none }
def SamplerStrataWrongFalsely : Prop := samplerStrataRow.holds Tryd.pinned (OpenSpec.ofChange samplerStrataWrong)

/-- 'armplanlaw23.SamplerNet': WHATEVER THE INPUT: true; the input reads as it did. -/
def samplerNetSpec : ChangeSpec := { name := "samplerNet", fn := fun _ => fun
  | [d1, d2, d3, d4, d5] => { results := [.lit (.bool true)], args := [d1, d2, d3, d4, d5] }
  | _ => none }
def samplerNetRow : OpenClaim := { program := "ytcljanaleeapnaadoor", sum := "39e32f7a0c32449eef5824f8f9a0c04683fa4fdd130aac5e251588cfd8cf09b1", func := "armplan/armplanlaw23.SamplerNet", spec := "samplerNet", named := ["armplan/sampler.primes", "math/bits.divideError", "math/bits.overflowError"], apart := false, laid := [("armplan/sampler.primes", laid_armplan_sampler_primes)] }
def SamplerNetSaid : Prop := samplerNetRow.holds Tryd.pinned (OpenSpec.ofChange samplerNetSpec)

/-- ITS FALSE NEIGHBOUR: 'it returns false'. Refute it at one input. -/
def samplerNetWrong : ChangeSpec := { name := "samplerNet", fn := fun _ => fun
  | [d1, d2, d3, d4, d5] => { results := [.lit (.bool false)], args := [d1, d2, d3, d4, d5] }
  | _ => none }
def SamplerNetWrongFalsely : Prop := samplerNetRow.holds Tryd.pinned (OpenSpec.ofChange samplerNetWrong)

/-- 'armplanlaw23.SamplerCovers': WHATEVER THE INPUT: true; the input reads as it did. -/
def samplerCoversSpec : ChangeSpec := { name := "samplerCovers", fn := fun _ => fun
  | [d1, d2, d3] => { results := [.lit (.bool true)], args := [d1, d2, d3] }
  | _ => none }
def samplerCoversRow : OpenClaim := { program := "ytcljanaleeapnaadoor", sum := "39e32f7a0c32449eef5824f8f9a0c04683fa4fdd130aac5e251588cfd8cf09b1", func := "armplan/armplanlaw23.SamplerCovers", spec := "samplerCovers", named := ["armplan/sampler.primes", "math/bits.divideError", "math/bits.overflowError"], apart := false, laid := [("armplan/sampler.primes", laid_armplan_sampler_primes)] }
def SamplerCoversSaid : Prop := samplerCoversRow.holds Tryd.pinned (OpenSpec.ofChange samplerCoversSpec)

/-- ITS FALSE NEIGHBOUR: 'it returns false'. Refute it at one input. -/
def samplerCoversWrong : ChangeSpec := { name := "samplerCovers", fn := fun _ => fun
  | [d1, d2, d3] => { results := [.lit (.bool false)], args := [d1, d2, d3] }
  | _ => none }
def SamplerCoversWrongFalsely : Prop := samplerCoversRow.holds Tryd.pinned (OpenSpec.ofChange samplerCoversWrong)

/-- 'armplanlaw23.SamplerSpreads': WHATEVER THE INPUT: true; the input reads as it did. -/
def samplerSpreadsSpec : ChangeSpec := { name := "samplerSpreads", fn := fun _ => fun
  | [d1, d2, d3, d4, d5, d6, d7] => { results := [.lit (.bool true)], args := [d1, d2, d3, d4, d5, d6, d7] }
  | _ => none }
def samplerSpreadsRow : OpenClaim := { program := "ytcljanaleeapnaadoor", sum := "39e32f7a0c32449eef5824f8f9a0c04683fa4fdd130aac5e251588cfd8cf09b1", func := "armplan/armplanlaw23.SamplerSpreads", spec := "samplerSpreads", named := ["armplan/sampler.primes", "math/bits.divideError", "math/bits.overflowError"], apart := false, laid := [("armplan/sampler.primes", laid_armplan_sampler_primes)] }
def SamplerSpreadsSaid : Prop := samplerSpreadsRow.holds Tryd.pinned (OpenSpec.ofChange samplerSpreadsSpec)

/-- ITS FALSE NEIGHBOUR: 'it returns false'. Refute it at one input. -/
def samplerSpreadsWrong : ChangeSpec := { name := "samplerSpreads", fn := fun _ => fun
  | [d1, d2, d3, d4, d5, d6, d7] => { results := [.lit (.bool false)], args := [d1, d2, d3, d4, d5, d6, d7] }
  | _ => none }
def SamplerSpreadsWrongFalsely : Prop := samplerSpreadsRow.holds Tryd.pinned (OpenSpec.ofChange samplerSpreadsWrong)

/-- 'armplanlaw23.SamplerMonotone': WHATEVER THE INPUT: true; the input reads as it did. -/
def samplerMonotoneSpec : ChangeSpec := { name := "samplerMonotone", fn := fun _ => fun
  | [d1, d2, d3, d4, d5] => { results := [.lit (.bool true)], args := [d1, d2, d3, d4, d5] }
  | _ => none }
def samplerMonotoneRow : OpenClaim := { program := "ytcljanaleeapnaadoor", sum := "39e32f7a0c32449eef5824f8f9a0c04683fa4fdd130aac5e251588cfd8cf09b1", func := "armplan/armplanlaw23.SamplerMonotone", spec := "samplerMonotone", named := ["armplan/sampler.primes", "math/bits.divideError", "math/bits.overflowError"], apart := false, laid := [("armplan/sampler.primes", laid_armplan_sampler_primes)] }
def SamplerMonotoneSaid : Prop := samplerMonotoneRow.holds Tryd.pinned (OpenSpec.ofChange samplerMonotoneSpec)

/-- ITS FALSE NEIGHBOUR: 'it returns false'. Refute it at one input. -/
def samplerMonotoneWrong : ChangeSpec := { name := "samplerMonotone", fn := fun _ => fun
  | [d1, d2, d3, d4, d5] => { results := [.lit (.bool false)], args := [d1, d2, d3, d4, d5] }
  | _ => none }
def SamplerMonotoneWrongFalsely : Prop := samplerMonotoneRow.holds Tryd.pinned (OpenSpec.ofChange samplerMonotoneWrong)

/-- 'armplanlaw23.SamplerWords': WHATEVER THE INPUT: true; the input reads as it did. -/
def samplerWordsSpec : ChangeSpec := { name := "samplerWords", fn := fun _ => fun
  | [d1, d2] => { results := [.lit (.bool true)], args := [d1, d2] }
  | _ => none }
def samplerWordsRow : OpenClaim := { program := "ytcljanaleeapnaadoor", sum := "39e32f7a0c32449eef5824f8f9a0c04683fa4fdd130aac5e251588cfd8cf09b1", func := "armplan/armplanlaw23.SamplerWords", spec := "samplerWords", named := ["armplan/sampler.primes", "math/bits.divideError", "math/bits.overflowError"], apart := false, laid := [("armplan/sampler.primes", laid_armplan_sampler_primes)] }
def SamplerWordsSaid : Prop := samplerWordsRow.holds Tryd.pinned (OpenSpec.ofChange samplerWordsSpec)

/-- ITS FALSE NEIGHBOUR: 'it returns false'. Refute it at one input. -/
def samplerWordsWrong : ChangeSpec := { name := "samplerWords", fn := fun _ => fun
  | [d1, d2] => { results := [.lit (.bool false)], args := [d1, d2] }
  | _ => none }
def SamplerWordsWrongFalsely : Prop := samplerWordsRow.holds Tryd.pinned (OpenSpec.ofChange samplerWordsWrong)

/-- 'armplanlaw23.SamplerApart': WHATEVER THE INPUT: true; the input reads as it did. -/
def samplerApartSpec : ChangeSpec := { name := "samplerApart", fn := fun _ => fun
  | [d1, d2, d3] => { results := [.lit (.bool true)], args := [d1, d2, d3] }
  | _ => none }
def samplerApartRow : OpenClaim := { program := "ytcljanaleeapnaadoor", sum := "39e32f7a0c32449eef5824f8f9a0c04683fa4fdd130aac5e251588cfd8cf09b1", func := "armplan/armplanlaw23.SamplerApart", spec := "samplerApart", named := ["armplan/sampler.primes", "math/bits.divideError", "math/bits.overflowError"], apart := false, laid := [("armplan/sampler.primes", laid_armplan_sampler_primes)] }
def SamplerApartSaid : Prop := samplerApartRow.holds Tryd.pinned (OpenSpec.ofChange samplerApartSpec)

/-- ITS FALSE NEIGHBOUR: 'it returns false'. Refute it at one input. -/
def samplerApartWrong : ChangeSpec := { name := "samplerApart", fn := fun _ => fun
  | [d1, d2, d3] => { results := [.lit (.bool false)], args := [d1, d2, d3] }
  | _ => none }
def SamplerApartWrongFalsely : Prop := samplerApartRow.holds Tryd.pinned (OpenSpec.ofChange samplerApartWrong)

/-- 'armplanlaw23.SamplerSamples': WHATEVER THE INPUT: true; the input reads as it did. -/
def samplerSamplesSpec : ChangeSpec := { name := "samplerSamples", fn := fun _ => fun
  | [d1, d2, d3, d4] => { results := [.lit (.bool true)], args := [d1, d2, d3, d4] }
  | _ => none }
def samplerSamplesRow : OpenClaim := { program := "ytcljanaleeapnaadoor", sum := "39e32f7a0c32449eef5824f8f9a0c04683fa4fdd130aac5e251588cfd8cf09b1", func := "armplan/armplanlaw23.SamplerSamples", spec := "samplerSamples", named := ["armplan/sampler.primes", "math/bits.divideError", "math/bits.overflowError"], apart := false, laid := [("armplan/sampler.primes", laid_armplan_sampler_primes)] }
def SamplerSamplesSaid : Prop := samplerSamplesRow.holds Tryd.pinned (OpenSpec.ofChange samplerSamplesSpec)

/-- ITS FALSE NEIGHBOUR: 'it returns false'. Refute it at one input. -/
def samplerSamplesWrong : ChangeSpec := { name := "samplerSamples", fn := fun _ => fun
  | [d1, d2, d3, d4] => { results := [.lit (.bool false)], args := [d1, d2, d3, d4] }
  | _ => none }
def SamplerSamplesWrongFalsely : Prop := samplerSamplesRow.holds Tryd.pinned (OpenSpec.ofChange samplerSamplesWrong)

/-- 'armplanlaw23.SamplerWithin': WHATEVER THE INPUT: true; the input reads as it did. -/
def samplerWithinSpec : ChangeSpec := { name := "samplerWithin", fn := fun _ => fun
  | [d1, d2, d3] => { results := [.lit (.bool true)], args := [d1, d2, d3] }
  | _ => none }
def samplerWithinRow : OpenClaim := { program := "ytcljanaleeapnaadoor", sum := "39e32f7a0c32449eef5824f8f9a0c04683fa4fdd130aac5e251588cfd8cf09b1", func := "armplan/armplanlaw23.SamplerWithin", spec := "samplerWithin", named := ["armplan/sampler.primes", "math/bits.divideError", "math/bits.overflowError"], apart := false, laid := [("armplan/sampler.primes", laid_armplan_sampler_primes)] }
def SamplerWithinSaid : Prop := samplerWithinRow.holds Tryd.pinned (OpenSpec.ofChange samplerWithinSpec)

/-- ITS FALSE NEIGHBOUR: 'it returns false'. Refute it at one input. -/
def samplerWithinWrong : ChangeSpec := { name := "samplerWithin", fn := fun _ => fun
  | [d1, d2, d3] => { results := [.lit (.bool false)], args := [d1, d2, d3] }
  | _ => none }
def SamplerWithinWrongFalsely : Prop := samplerWithinRow.holds Tryd.pinned (OpenSpec.ofChange samplerWithinWrong)

/- THE SECOND FORM. 'bulk': how many values and letters a reading holds, each counted each time it is reached (what is shared counts as often as it is met; a slice's spare places count too). A statement '..UptoSaid' is the law's where the arguments, and the package variables that the reading takes, are together of bulk at most 1048576: NARROWER than '..Said'. Prove '..Said' where nothing that the law and all that it calls make is longer than what came in: it says more and counts as full. Else prove '..UptoSaid'. A law counts once. -/
mutual
def uptoBulk {H : Type} : DataW H → Nat
  | .lit (.string bytes) => bytes.length + 1
  | .lit _ => 1
  | .nil => 1
  | .ptr d => uptoBulk d + 1
  | .slice elems spare => uptoBulkAll elems + uptoBulkAll spare + 1
  | .agg parts => uptoBulkAll parts + 1
  | .iface _ d => uptoBulk d + 1
  | .map entries => uptoBulkEntries entries + 1
  | .held _ => 1
def uptoBulkAll {H : Type} : List (DataW H) → Nat
  | [] => 0
  | d :: r => uptoBulk d + uptoBulkAll r
def uptoBulkEntries {H : Type} : List (Lit × DataW H) → Nat
  | [] => 0
  | x :: r => uptoBulkEntry x + uptoBulkEntries r
def uptoBulkEntry {H : Type} : Lit × DataW H → Nat
  | (.string bytes, d) => bytes.length + uptoBulk d + 1
  | (_, d) => uptoBulk d + 1
 end
def uptoSmall : (H : Type) → List (DataW H) → Bool := fun _ ds => decide (uptoBulkAll ds ≤ 1048576)
def OpenSpec.upto (s : _root_.Go.ChangeSpec) : _root_.Go.OpenSpec := { _root_.Go.OpenSpec.ofChange s with cond := some uptoSmall }

/-- 'armplanlaw23.SamplerRadicals', WHERE WHAT IT READS IS OF BULK AT MOST 1048576: true; the input reads as it did. -/
def samplerRadicalsUptoRow : OpenClaim := { program := "ytcljanaleeapnaadoor", sum := "39e32f7a0c32449eef5824f8f9a0c04683fa4fdd130aac5e251588cfd8cf09b1", func := "armplan/armplanlaw23.SamplerRadicals", spec := "samplerRadicals", named := ["armplan/sampler.primes", "math/bits.divideError", "math/bits.overflowError"], apart := false, laid := [("armplan/sampler.primes", laid_armplan_sampler_primes)], narrowed := true }
def SamplerRadicalsUptoSaid : Prop := samplerRadicalsUptoRow.holds Tryd.pinned (OpenSpec.upto samplerRadicalsSpec)

/-- 'armplanlaw23.SamplerStrata', WHERE WHAT IT READS IS OF BULK AT MOST 1048576: true; the input reads as it did. -/
def samplerStrataUptoRow : OpenClaim := { program := "ytcljanaleeapnaadoor", sum := "39e32f7a0c32449eef5824f8f9a0c04683fa4fdd130aac5e251588cfd8cf09b1", func := "armplan/armplanlaw23.SamplerStrata", spec := "samplerStrata", named := ["armplan/sampler.primes", "math/bits.divideError", "math/bits.overflowError"], apart := false, laid := [("armplan/sampler.primes", laid_armplan_sampler_primes)], narrowed := true }
def SamplerStrataUptoSaid : Prop := samplerStrataUptoRow.holds Tryd.pinned (OpenSpec.upto samplerStrataSpec)

/-- 'armplanlaw23.SamplerNet', WHERE WHAT IT READS IS OF BULK AT MOST 1048576: true; the input reads as it did. -/
def samplerNetUptoRow : OpenClaim := { program := "ytcljanaleeapnaadoor", sum := "39e32f7a0c32449eef5824f8f9a0c04683fa4fdd130aac5e251588cfd8cf09b1", func := "armplan/armplanlaw23.SamplerNet", spec := "samplerNet", named := ["armplan/sampler.primes", "math/bits.divideError", "math/bits.overflowError"], apart := false, laid := [("armplan/sampler.primes", laid_armplan_sampler_primes)], narrowed := true }
def SamplerNetUptoSaid : Prop := samplerNetUptoRow.holds Tryd.pinned (OpenSpec.upto samplerNetSpec)

/-- 'armplanlaw23.SamplerCovers', WHERE WHAT IT READS IS OF BULK AT MOST 1048576: true; the input reads as it did. -/
def samplerCoversUptoRow : OpenClaim := { program := "ytcljanaleeapnaadoor", sum := "39e32f7a0c32449eef5824f8f9a0c04683fa4fdd130aac5e251588cfd8cf09b1", func := "armplan/armplanlaw23.SamplerCovers", spec := "samplerCovers", named := ["armplan/sampler.primes", "math/bits.divideError", "math/bits.overflowError"], apart := false, laid := [("armplan/sampler.primes", laid_armplan_sampler_primes)], narrowed := true }
def SamplerCoversUptoSaid : Prop := samplerCoversUptoRow.holds Tryd.pinned (OpenSpec.upto samplerCoversSpec)

/-- 'armplanlaw23.SamplerSpreads', WHERE WHAT IT READS IS OF BULK AT MOST 1048576: true; the input reads as it did. -/
def samplerSpreadsUptoRow : OpenClaim := { program := "ytcljanaleeapnaadoor", sum := "39e32f7a0c32449eef5824f8f9a0c04683fa4fdd130aac5e251588cfd8cf09b1", func := "armplan/armplanlaw23.SamplerSpreads", spec := "samplerSpreads", named := ["armplan/sampler.primes", "math/bits.divideError", "math/bits.overflowError"], apart := false, laid := [("armplan/sampler.primes", laid_armplan_sampler_primes)], narrowed := true }
def SamplerSpreadsUptoSaid : Prop := samplerSpreadsUptoRow.holds Tryd.pinned (OpenSpec.upto samplerSpreadsSpec)

/-- 'armplanlaw23.SamplerMonotone', WHERE WHAT IT READS IS OF BULK AT MOST 1048576: true; the input reads as it did. -/
def samplerMonotoneUptoRow : OpenClaim := { program := "ytcljanaleeapnaadoor", sum := "39e32f7a0c32449eef5824f8f9a0c04683fa4fdd130aac5e251588cfd8cf09b1", func := "armplan/armplanlaw23.SamplerMonotone", spec := "samplerMonotone", named := ["armplan/sampler.primes", "math/bits.divideError", "math/bits.overflowError"], apart := false, laid := [("armplan/sampler.primes", laid_armplan_sampler_primes)], narrowed := true }
def SamplerMonotoneUptoSaid : Prop := samplerMonotoneUptoRow.holds Tryd.pinned (OpenSpec.upto samplerMonotoneSpec)

/-- 'armplanlaw23.SamplerWords', WHERE WHAT IT READS IS OF BULK AT MOST 1048576: true; the input reads as it did. -/
def samplerWordsUptoRow : OpenClaim := { program := "ytcljanaleeapnaadoor", sum := "39e32f7a0c32449eef5824f8f9a0c04683fa4fdd130aac5e251588cfd8cf09b1", func := "armplan/armplanlaw23.SamplerWords", spec := "samplerWords", named := ["armplan/sampler.primes", "math/bits.divideError", "math/bits.overflowError"], apart := false, laid := [("armplan/sampler.primes", laid_armplan_sampler_primes)], narrowed := true }
def SamplerWordsUptoSaid : Prop := samplerWordsUptoRow.holds Tryd.pinned (OpenSpec.upto samplerWordsSpec)

/-- 'armplanlaw23.SamplerApart', WHERE WHAT IT READS IS OF BULK AT MOST 1048576: true; the input reads as it did. -/
def samplerApartUptoRow : OpenClaim := { program := "ytcljanaleeapnaadoor", sum := "39e32f7a0c32449eef5824f8f9a0c04683fa4fdd130aac5e251588cfd8cf09b1", func := "armplan/armplanlaw23.SamplerApart", spec := "samplerApart", named := ["armplan/sampler.primes", "math/bits.divideError", "math/bits.overflowError"], apart := false, laid := [("armplan/sampler.primes", laid_armplan_sampler_primes)], narrowed := true }
def SamplerApartUptoSaid : Prop := samplerApartUptoRow.holds Tryd.pinned (OpenSpec.upto samplerApartSpec)

/-- 'armplanlaw23.SamplerSamples', WHERE WHAT IT READS IS OF BULK AT MOST 1048576: true; the input reads as it did. -/
def samplerSamplesUptoRow : OpenClaim := { program := "ytcljanaleeapnaadoor", sum := "39e32f7a0c32449eef5824f8f9a0c04683fa4fdd130aac5e251588cfd8cf09b1", func := "armplan/armplanlaw23.SamplerSamples", spec := "samplerSamples", named := ["armplan/sampler.primes", "math/bits.divideError", "math/bits.overflowError"], apart := false, laid := [("armplan/sampler.primes", laid_armplan_sampler_primes)], narrowed := true }
def SamplerSamplesUptoSaid : Prop := samplerSamplesUptoRow.holds Tryd.pinned (OpenSpec.upto samplerSamplesSpec)

/-- 'armplanlaw23.SamplerWithin', WHERE WHAT IT READS IS OF BULK AT MOST 1048576: true; the input reads as it did. -/
def samplerWithinUptoRow : OpenClaim := { program := "ytcljanaleeapnaadoor", sum := "39e32f7a0c32449eef5824f8f9a0c04683fa4fdd130aac5e251588cfd8cf09b1", func := "armplan/armplanlaw23.SamplerWithin", spec := "samplerWithin", named := ["armplan/sampler.primes", "math/bits.divideError", "math/bits.overflowError"], apart := false, laid := [("armplan/sampler.primes", laid_armplan_sampler_primes)], narrowed := true }
def SamplerWithinUptoSaid : Prop := samplerWithinUptoRow.holds Tryd.pinned (OpenSpec.upto samplerWithinSpec)

end Rows
end Go.Proofs.YtcljanaleeapnaaDoor
