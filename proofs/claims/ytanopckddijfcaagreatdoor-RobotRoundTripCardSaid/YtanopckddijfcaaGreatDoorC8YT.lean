/- A part of the proof that the text with the row names: printed readings of functions, or plain lemmas about them. -/
import Derived.Test.YtanopckddijfcaaGreatDoorAbsD
import Derived.Test.YtanopckddijfcaaGreatDoorC8YX
import Derived.Test.YtanopckddijfcaaGreatDoorRows
import Derived.Test.YtanopckddijfcaaGreatDoorCards
import Derived.Test.YtanopckddijfcaaGreatDoorTie
import Derived.ProofKit
import Derived.LaidMore
import Derived.OpenShut
import Derived.Stop.Joined
import Derived.SevenTiedAt
import Derived.ChangeOld
import Derived.Lay
set_option linter.unusedVariables false
set_option linter.unusedSimpArgs false
namespace Go.Proofs.YtanopckddijfcaaGreatDoor
open Go.ChangeShapes Go.WideShapes Go.ChangeAt Go.WideMaps Go.WideElems Go.RowKit Go.Abs

theorem own : ownKnob Tryz.prog.godebug = none := by kernel_rfl
theorem gPow : Tryz.prog.globalNamed "internal/strconv.uint64pow10" = some 1 := by kernel_rfl
theorem tPow : (Tryz.prog.globals[1]?).map (·.type) = some 183 := by kernel_rfl
abbrev laid8 : List (String × DataW Unit) := [("math/bits.deBruijn32tab", Rows.laid_math_bits_deBruijn32tab), ("math/bits.deBruijn64tab", Rows.laid_math_bits_deBruijn64tab), ("internal/strconv.uint64pow10", Rows.laid_internal_strconv_uint64pow10), ("unicode/utf8.acceptRanges", Rows.laid_unicode_utf8_acceptRanges), ("strconv.ErrRange", Rows.laid_strconv_ErrRange), ("strconv.ErrSyntax", Rows.laid_strconv_ErrSyntax), ("armplan/robot.kinds", Rows.laid_armplan_robot_kinds), ("unicode/utf8.first", Rows.laid_unicode_utf8_first)]
theorem vars_in {P : Program} {w : World} : ∀ {l : List (String × DataW Unit)} {ps : List MemPlace} {n : String} {d : DataW Unit}, DataW.LaidVars P w l ps → (n, d) ∈ l →
    ∃ g t cs fuel p, P.globalNamed n = some g ∧ (P.globals[g]?).map (·.type) = some t ∧ w.var? P n = some cs ∧ DataW.trod (fun _ => ()) P w 0 (fun _ => true) false fuel t cs.toList = some (d, p)
  | [], _, _, _, _, h => by cases h
  | (m, e) :: r, _, n, d, ⟨g, t, cs, fuel, p, q, h1, h2, h3, h4, h5, _⟩, h => by
    rcases List.mem_cons.1 h with h | h
    · cases h
      exact ⟨g, t, cs, fuel, p, h1, h2, h3, h4⟩
    · exact vars_in h5 h

set_option maxRecDepth 20000 in
theorem of_met {W : World} {l : List (String × DataW Unit)} (h : laidMet Tryz.prog l W) (hm : ("internal/strconv.uint64pow10", Rows.laid_internal_strconv_uint64pow10) ∈ l) :
    (∃ c e f, W.heap[1]? = some (.cells c e f) ∧ c.size = 20) ∧ ∀ (i : Nat) (n : Int), Lib.pow10Tab[i]? = some n → W.cell? ⟨1, i, none⟩ = some (.int .u64 n) := by
  obtain ⟨ps, hv, _, _⟩ := h
  obtain ⟨g0, t0, cs0, f0, p0, hg0, ht0, hv0, hd0⟩ := vars_in hv hm
  obtain rfl := Option.some.inj (gPow.symm.trans hg0)
  obtain rfl := Option.some.inj (tPow.symm.trans ht0)
  obtain ⟨xs, m1, rfl, hx1, hlen, hn3, hel⟩ := DataW.trod_array Tryz.underlying183 hd0
  have c22 : Tryz.prog.cellsOf 166 = 1 := by kernel_rfl
  have c20 : Tryz.prog.cellsOf 183 = 20 := by kernel_rfl
  refine ⟨?_, ?_⟩
  · have hv1 := hv0
    simp only [World.var?, hg0, Option.bind_some] at hv1
    split at hv1
    · rename_i c t fr hb
      obtain rfl := Option.some.inj hv1
      refine ⟨c, t, fr, hb, ?_⟩
      rw [← c20, ← hlen, Array.length_toList]
    · cases hv1
  have hd : xs.map (·.1) = Lib.pow10Tab.map fun n => (DataW.lit (.int .u64 n) : DataW Unit) := by
    have e0 : DataW.agg (Lib.pow10Tab.map fun n => (DataW.lit (.int .u64 n) : DataW Unit)) = Rows.laid_internal_strconv_uint64pow10 := by kernel_rfl
    have h1 : DataW.agg (Lib.pow10Tab.map fun n => (DataW.lit (.int .u64 n) : DataW Unit)) = DataW.agg (xs.map (·.1)) := e0.trans (congrArg Prod.fst hx1)
    exact (DataW.agg.inj h1).symm
  intro i n hi
  have hi10 : i < 20 := (List.getElem?_eq_some_iff.1 hi).1
  have h1 := hel i hi10
  rw [c22, Nat.mul_one] at h1
  have hx : xs[i]? = some xs[i] := List.getElem?_eq_getElem (by omega)
  rw [hx] at h1
  obtain ⟨k, e1, e2, _⟩ := DataW.trod_int Tryz.underlying166 h1
  have h2 : (xs.map (·.1))[i]? = some (DataW.lit (.int .u64 k)) := by rw [List.getElem?_map, hx, e2]; rfl
  rw [hd, List.getElem?_map, hi] at h2
  simp only [Option.map_some, Option.some.injEq, DataW.lit.injEq, Lit.int.injEq, true_and] at h2
  subst h2
  have h3 : cs0[i]? = some (.int .u64 n) := by
    have : (List.take 1 (List.drop i cs0.toList))[0]? = some (.int .u64 n) := by rw [e1]; rfl
    rw [List.getElem?_take, List.getElem?_drop] at this
    simpa using this
  rw [← h3]
  exact World.var?_cell hg0 hv0 i

/-- The names of the kinds. -/
def kindsL : List ByteArray := [⟨#[102, 105, 120, 101, 100]⟩, ⟨#[116, 117, 114, 110, 120]⟩, ⟨#[116, 117, 114, 110, 121]⟩, ⟨#[116, 117, 114, 110, 122]⟩, ⟨#[115, 108, 105, 100, 101, 120]⟩, ⟨#[115, 108, 105, 100, 101, 121]⟩, ⟨#[115, 108, 105, 100, 101, 122]⟩]
theorem gKinds : Tryz.prog.globalNamed "armplan/robot.kinds" = some 0 := by kernel_rfl
theorem tKinds : (Tryz.prog.globals[0]?).map (·.type) = some 96 := by kernel_rfl
theorem str_inj {a b : ByteArray} (h : a.data.toList = b.data.toList) : a = b := by
  obtain ⟨⟨x⟩⟩ := a
  obtain ⟨⟨y⟩⟩ := b
  simp only at h
  rw [h]
set_option maxRecDepth 20000 in
theorem of_kinds {W : World} {l : List (String × DataW Unit)} (h : laidMet Tryz.prog l W) (hm : ("armplan/robot.kinds", Rows.laid_armplan_robot_kinds) ∈ l) :
    (∃ c e f, W.heap[0]? = some (.cells c e f) ∧ c.size = 7) ∧ ∀ (i : Nat) (s : ByteArray), kindsL[i]? = some s → W.cell? ⟨0, i, none⟩ = some (.string s) := by
  obtain ⟨ps, hv, _, _⟩ := h
  obtain ⟨g0, t0, cs0, f0, p0, hg0, ht0, hv0, hd0⟩ := vars_in hv hm
  obtain rfl := Option.some.inj (gKinds.symm.trans hg0)
  obtain rfl := Option.some.inj (tKinds.symm.trans ht0)
  obtain ⟨xs, m1, rfl, hx1, hlen, hn3, hel⟩ := DataW.trod_array Tryz.underlying96 hd0
  have c22 : Tryz.prog.cellsOf 9 = 1 := by kernel_rfl
  have c20 : Tryz.prog.cellsOf 96 = 7 := by kernel_rfl
  refine ⟨?_, ?_⟩
  · have hv1 := hv0
    simp only [World.var?, hg0, Option.bind_some] at hv1
    split at hv1
    · rename_i c t fr hb
      obtain rfl := Option.some.inj hv1
      refine ⟨c, t, fr, hb, ?_⟩
      rw [← c20, ← hlen, Array.length_toList]
    · cases hv1
  have hd : xs.map (·.1) = kindsL.map fun s => (DataW.lit (.string s.data.toList) : DataW Unit) := by
    have e0 : DataW.agg (kindsL.map fun s => (DataW.lit (.string s.data.toList) : DataW Unit)) = Rows.laid_armplan_robot_kinds := by kernel_rfl
    have h1 : DataW.agg (kindsL.map fun s => (DataW.lit (.string s.data.toList) : DataW Unit)) = DataW.agg (xs.map (·.1)) := e0.trans (congrArg Prod.fst hx1)
    exact (DataW.agg.inj h1).symm
  intro i s hi
  have hi10 : i < 7 := (List.getElem?_eq_some_iff.1 hi).1
  have h1 := hel i hi10
  rw [c22, Nat.mul_one] at h1
  have hx : xs[i]? = some xs[i] := List.getElem?_eq_getElem (by omega)
  rw [hx] at h1
  obtain ⟨k, e1, e2, _⟩ := DataW.trod_string Tryz.underlying9 h1
  have h2 : (xs.map (·.1))[i]? = some (DataW.lit (.string k.data.toList)) := by rw [List.getElem?_map, hx, e2]; rfl
  rw [hd, List.getElem?_map, hi] at h2
  simp only [Option.map_some, Option.some.injEq, DataW.lit.injEq, Lit.string.injEq] at h2
  have hks : s = k := str_inj h2
  subst hks
  have h3 : cs0[i]? = some (.string s) := by
    have : (List.take 1 (List.drop i cs0.toList))[0]? = some (.string s) := by rw [e1]; rfl
    rw [List.getElem?_take, List.getElem?_drop] at this
    simpa using this
  rw [← h3]
  exact World.var?_cell hg0 hv0 i
/-- The tables, as the reading has them. -/
theorem globs_of {W : World} {l : List (String × DataW Unit)} (h0 : laidMet Tryz.prog l W) (hm : ("internal/strconv.uint64pow10", Rows.laid_internal_strconv_uint64pow10) ∈ l) (hk : ("armplan/robot.kinds", Rows.laid_armplan_robot_kinds) ∈ l) : GlobOk glob0 W := by
  have h := of_met h0 hm
  have h2 := of_kinds h0 hk
  intro g cs hg
  unfold glob0 at hg
  simp only [globTab] at hg
  cases hb0 : Nat.beq 0 g with
  | true =>
    rw [hb0] at hg
    have := Nat.eq_of_beq_eq_true hb0
    subst this
    simp only [cond_true, Option.some.injEq] at hg
    have hg2 : cs = kindsL.map fun z => (.v (.string z)) := hg.symm.trans (by kernel_rfl)
    subst hg2
    refine ⟨⟨⟨0, 0, none⟩, kindsL.map fun n => .string n, rfl, ?_, ?_⟩, fun _ => ?_⟩
    · exact ⟨⟨rfl, rfl⟩, ⟨rfl, rfl⟩, ⟨rfl, rfl⟩, ⟨rfl, rfl⟩, ⟨rfl, rfl⟩, ⟨rfl, rfl⟩, ⟨rfl, rfl⟩, trivial⟩
    · intro i v hi
      rw [List.getElem?_map, Option.map_eq_some_iff] at hi
      obtain ⟨n, hn, rfl⟩ := hi
      rw [addr_add, Nat.zero_add]
      exact ⟨h2.2 i n hn, fun hh => hh⟩
    · obtain ⟨c, e, f, h1, h3⟩ := h2.1
      exact ⟨c, e, f, h1, by rw [h3]; rfl⟩
  | false =>
    rw [hb0, cond_false] at hg
    cases hb : Nat.beq 1 g with
    | false => rw [hb] at hg; cases hg
    | true =>
      rw [hb] at hg
      have := Nat.eq_of_beq_eq_true hb
      subst this
      simp only [cond_true, Option.some.injEq] at hg
      have hg2 : cs = Lib.pow10Tab.map fun z => (.v (.int .u64 z)) := hg.symm.trans (by kernel_rfl)
      subst hg2
      refine ⟨⟨⟨1, 0, none⟩, Lib.pow10Tab.map fun n => .int .u64 n, rfl, ?_, ?_⟩, fun _ => ?_⟩
      · exact ⟨⟨rfl, rfl⟩, ⟨rfl, rfl⟩, ⟨rfl, rfl⟩, ⟨rfl, rfl⟩, ⟨rfl, rfl⟩, ⟨rfl, rfl⟩, ⟨rfl, rfl⟩, ⟨rfl, rfl⟩, ⟨rfl, rfl⟩, ⟨rfl, rfl⟩, ⟨rfl, rfl⟩, ⟨rfl, rfl⟩, ⟨rfl, rfl⟩, ⟨rfl, rfl⟩, ⟨rfl, rfl⟩, ⟨rfl, rfl⟩, ⟨rfl, rfl⟩, ⟨rfl, rfl⟩, ⟨rfl, rfl⟩, ⟨rfl, rfl⟩, trivial⟩
      · intro i v hi
        rw [List.getElem?_map, Option.map_eq_some_iff] at hi
        obtain ⟨n, hn, rfl⟩ := hi
        rw [addr_add, Nat.zero_add]
        exact ⟨h.2 i n hn, fun hh => hh⟩
      · obtain ⟨c, e, f, h1, h3⟩ := h.1
        exact ⟨c, e, f, h1, by rw [h3]; rfl⟩
theorem globs8 {W : World} (h : laidMetH Tryz.prog laid8 W) : GlobOk glob0 W := by
  rw [MakeChecks.laidMetH_plain _ _ _ (by kernel_rfl)] at h
  exact globs_of h (List.Mem.tail _ (List.Mem.tail _ (List.Mem.head _))) (List.Mem.tail _ (List.Mem.tail _ (List.Mem.tail _ (List.Mem.tail _ (List.Mem.tail _ (List.Mem.tail _ (List.Mem.head _)))))))
theorem met8 (os : Os) (args : Array Value) : laidMetH Tryz.prog laid8 ((World.laidAll Tryz.prog os laid8).forCall (fun _ _ => 0) ⟨#[], args, []⟩).memory := by
  rw [MakeChecks.laidMetH_plain _ _ _ (by kernel_rfl)]
  exact laidMet_laidAll _ (by kernel_rfl) (by kernel_rfl)
end Go.Proofs.YtanopckddijfcaaGreatDoor
