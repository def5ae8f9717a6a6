/- A part of the proof that the text with the row names: printed readings of functions, or plain lemmas about them. -/
import Derived.Test.YtceacicpjgffgaaC41GLProfileLattice
import Derived.Test.YtceacicpjgffgaaC41M6
set_option linter.unusedVariables false
set_option linter.unusedSimpArgs false
namespace Go.Abs
open Go
def maxL (a b : List Int) : Nat → List Int
  | 0 => []
  | i + 1 => maxL a b i ++ [bif decide (b.getD i 0 > a.getD i 0) then b.getD i 0 else a.getD i 0]
theorem maxL_length (a b : List Int) : ∀ i, (maxL a b i).length = i
  | 0 => rfl
  | i + 1 => by rw [maxL, List.length_append, maxL_length a b i]; rfl
theorem maxL_get (a b : List Int) : ∀ (n i : Nat), i < n → (maxL a b n).getD i 0 = max (a.getD i 0) (b.getD i 0)
  | 0, i, h => by omega
  | n + 1, i, h => by
    have hl := maxL_length a b n
    rw [maxL]
    by_cases e : i = n
    · subst e
      rw [List.getD_eq_getElem?_getD, List.getElem?_append_right (by omega), hl, Nat.sub_self]
      show (bif decide (b.getD i 0 > a.getD i 0) then b.getD i 0 else a.getD i 0) = _
      by_cases c : b.getD i 0 > a.getD i 0
      · rw [dif_dec c]; omega
      · rw [dif_ndec c]; omega
    · rw [List.getD_eq_getElem?_getD, List.getElem?_append_left (by omega), ← List.getD_eq_getElem?_getD]
      exact maxL_get a b n i (by omega)
theorem lattice_law {l m n : List Int} (hl : l.length ≤ 2 ^ 60) (hm : m.length ≤ 2 ^ 60) (hn : n.length ≤ 2 ^ 60) : armplanlaw41_ProfileLattice.F l m n = some true := by
  rw [armplanlaw41_ProfileLattice.F_eq]
  unfold armplanlaw41_ProfileLattice.F0
  obtain ⟨top, rows, e, hM⟩ := limits_val hl
  have ht := hM.t
  obtain ⟨a, ea, ha⟩ := lowered_val (top := top) rows hm (by omega)
  obtain ⟨b, eb, hb⟩ := lowered_val (top := top) rows hn (by omega)
  rw [e, Option.bind_some]
  simp only []
  rw [ea, Option.bind_some, eb, Option.bind_some, feas_val, Option.bind_some]
  cases fa : feasB top rows a with
  | false => rw [Bool.not_false, cond_true, awake41_true]; rfl
  | true =>
    rw [Bool.not_true, cond_false, feas_val, Option.bind_some]
    cases fb : feasB top rows b with
    | false => rw [Bool.not_false, cond_true, awake41_true]; rfl
    | true =>
      have Fa := feasB_iff.1 fa
      have Fb := feasB_iff.1 fb
      have la := Fa.l
      have lb := Fb.l
      have := loop_count (step := armplanlaw41_ProfileLattice.p0.step) (fun i : Nat => ((i : Int), top, rows, a, b, maxL a b i)) a.length (top, rows, maxL a b a.length) (by
        intro i hi
        have hlen := maxL_length a b i
        unfold armplanlaw41_ProfileLattice.p0.step armplanlaw41_ProfileLattice.p0.round
        simp only [List.length_cons, List.length_nil]
        rw [dif_dec (by omega), dif_dec (by omega), dif_dec (by omega), dif_dec (by omega), dif_dec (by omega), dif_dec (by omega), w64 (by omega) (by omega), Int.toNat_natCast]
        rfl) (by
        unfold armplanlaw41_ProfileLattice.p0.step armplanlaw41_ProfileLattice.p0.round
        simp only []
        simp (disch := omega) only [dif_dec, dif_ndec, bif_eq, bif_neq, bif_ne, bif_nne, w64, wu64, Int.toNat_natCast, Option.bind_some, cond_true, cond_false, Bool.not_true, Bool.not_false, Sum.elim_inl, Sum.elim_inr]) a.length 0 (by omega)
      rw [show ((0 : Nat) : Int) = 0 from rfl, show maxL a b 0 = [] from rfl] at this
      have hc := lattice Fa Fb (c := maxL a b a.length) (maxL_length a b _) fun i hi => maxL_get a b _ i hi
      rw [Bool.not_true, cond_false, this, Option.bind_some, awake41_true, Option.bind_some, cond_true]
      simp only []
      rw [feas_val, feasB_iff.2 hc]
      rfl
theorem lattice_good (x : ArgT [.lf (.slc (.int .i64)), .lf (.slc (.int .i64)), .lf (.slc (.int .i64))]) (g : GoodAll [.lf (.slc (.int .i64)), .lf (.slc (.int .i64)), .lf (.slc (.int .i64))] x) : armplanlaw41_ProfileLattice.F x.1 x.2.1 x.2.2.1 = some true := by
  obtain ⟨⟨g1, _⟩, ⟨g2, _⟩, ⟨g3, _⟩, _⟩ := g
  simp only [minB, reachBytes] at g1 g2 g3
  exact lattice_law (by omega) (by omega) (by omega)
end Go.Abs
