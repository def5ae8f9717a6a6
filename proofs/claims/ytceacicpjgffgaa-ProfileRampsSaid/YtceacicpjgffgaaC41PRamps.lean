/- A part of the proof that the text with the row names: printed readings of functions, or plain lemmas about them. -/
import Derived.Test.YtceacicpjgffgaaC41GLProfileRamps
import Derived.Test.YtceacicpjgffgaaC41M6
set_option linter.unusedVariables false
set_option linter.unusedSimpArgs false
namespace Go.Abs
open Go
theorem want_lo {top : List Int} {c : Int} {i : Nat} (hc : 0 ≤ c) (ht : ∀ k, k < top.length → 0 ≤ top.getD k 0) (hi : i < top.length) : ∀ n, n ≤ top.length → 0 ≤ wantV top c i n
  | 0, h => ht i hi
  | n + 1, h => by
    have h1 := want_lo hc ht hi n (by omega)
    have h2 := ht n (by omega)
    have h3 := Int.mul_nonneg hc (gap_nonneg i n)
    rw [wantV]
    omega
theorem ramp_row {top x : List Int} {c : Int} {i : Nat} (hl : top.length ≤ 65) (hi : i < top.length) (ht : ∀ k, k < top.length → 0 ≤ top.getD k 0 ∧ top.getD k 0 ≤ 4096) (hc : 0 ≤ c) (hc' : c ≤ 1000) :
    loopF armplanlaw41_ProfileRamps.p1.step (c, (i : Int), top.getD i 0, 0, top, x) = some (c, (i : Int), wantV top c i top.length, top, x) := by
  have := loop_count (step := armplanlaw41_ProfileRamps.p1.step) (fun k : Nat => (c, (i : Int), wantV top c i k, (k : Int), top, x)) top.length (c, (i : Int), wantV top c i top.length, top, x) (by
    intro k hk
    have g1 := gap_nonneg i k
    have g2 : gapV i k ≤ 65 := by unfold gapV; omega
    have t1 := ht k hk
    have m1 := Int.mul_nonneg hc g1
    have m2 : c * gapV i k ≤ 1000 * 65 := Int.mul_le_mul hc' g2 g1 (by omega)
    have eg : (bif decide ((k : Int) - (i : Int) > (i : Int) - (k : Int)) then (k : Int) - (i : Int) else (i : Int) - (k : Int)) = gapV i k := by
      unfold gapV
      by_cases h : (k : Int) - (i : Int) > (i : Int) - (k : Int)
      · rw [dif_dec h]; omega
      · rw [dif_ndec h]; omega
    unfold armplanlaw41_ProfileRamps.p1.step armplanlaw41_ProfileRamps.p1.round
    simp only []
    rw [dif_dec (by omega), dif_dec (by omega), dif_dec (by omega), w64 (n := (k : Int) - (i : Int)) (by omega) (by omega), w64 (n := (i : Int) - (k : Int)) (by omega) (by omega), eg, w64 (n := c * gapV i k) (by omega) (by omega), Int.toNat_natCast, w64 (n := top.getD k 0 + c * gapV i k) (by omega) (by omega), w64 (n := (k : Int) + 1) (by omega) (by omega)]
    have ew : (bif decide (top.getD k 0 + c * gapV i k < wantV top c i k) then top.getD k 0 + c * gapV i k else wantV top c i k) = wantV top c i (k + 1) := by
      rw [wantV]
      by_cases h : top.getD k 0 + c * gapV i k < wantV top c i k
      · rw [dif_dec h]; omega
      · rw [dif_ndec h]; omega
    rw [ew]
    rfl) (by
    unfold armplanlaw41_ProfileRamps.p1.step armplanlaw41_ProfileRamps.p1.round
    simp only []
    simp (disch := omega) only [dif_dec, dif_ndec, bif_eq, bif_neq, bif_ne, bif_nne, w64, wu64, Int.toNat_natCast, Option.bind_some, cond_true, cond_false, Bool.not_true, Bool.not_false, Sum.elim_inl, Sum.elim_inr]) top.length 0 (by omega)
  exact this
theorem ramps_law {l : List Int} (d : Int) (hl : l.length ≤ 2 ^ 60) : armplanlaw41_ProfileRamps.F l d = some true := by
  rw [armplanlaw41_ProfileRamps.F_eq]
  unfold armplanlaw41_ProfileRamps.F0
  obtain ⟨top, rows, e, hM⟩ := limits_val hl
  have ht := hM.t
  have h2 := hM.v.n2
  have m1 := Int.emod_nonneg d (show (12 : Int) ≠ 0 by omega)
  have m2 := Int.emod_lt_of_pos d (show (0 : Int) < 12 by omega)
  rw [e, Option.bind_some, round_val (by omega) (by omega), Option.bind_some]
  simp only []
  rw [ramps_val _ (by omega) (by omega), Option.bind_some]
  generalize d % 12 = c at m1 m2
  obtain ⟨t, x, g1, g2, g3, g4⟩ := ramps_great h2 (by omega) hM.v.t hM.s m1 (by omega : c ≤ 1000)
  rw [great_val, g1, Option.bind_some]
  simp only []
  rw [Bool.not_true, cond_false, bif_nne (by omega)]
  have := loop_count (step := armplanlaw41_ProfileRamps.p0.step) (fun i : Nat => (c, (i : Int), top, x)) top.length (.inr ()) (by
    intro i hi
    have hr := ramp_row (x := x) (show top.length ≤ 65 by omega) hi hM.v.t m1 (by omega : c ≤ 1000)
    have hg := g4 i hi
    unfold armplanlaw41_ProfileRamps.p0.step armplanlaw41_ProfileRamps.p0.round
    simp only []
    simp (disch := omega) only [dif_dec, dif_ndec, bif_eq, bif_neq, bif_ne, bif_nne, w64, wu64, Int.toNat_natCast, Option.bind_some, cond_true, cond_false, Bool.not_true, Bool.not_false, Sum.elim_inl, Sum.elim_inr, hr, hg]
    rfl) (by
    unfold armplanlaw41_ProfileRamps.p0.step armplanlaw41_ProfileRamps.p0.round
    simp only []
    simp (disch := omega) only [dif_dec, dif_ndec, bif_eq, bif_neq, bif_ne, bif_nne, w64, wu64, Int.toNat_natCast, Option.bind_some, cond_true, cond_false, Bool.not_true, Bool.not_false, Sum.elim_inl, Sum.elim_inr]) top.length 0 (by omega)
  rw [show ((0 : Nat) : Int) = 0 from rfl] at this
  rw [this, Option.bind_some, Sum.elim_inr, awake41_true]
  rfl
theorem ramps_good (x : ArgT [.lf (.slc (.int .i64)), .lf (.int .i64)]) (g : GoodAll [.lf (.slc (.int .i64)), .lf (.int .i64)] x) : armplanlaw41_ProfileRamps.F x.1 x.2.1 = some true := by
  obtain ⟨⟨g1, _⟩, _⟩ := g
  simp only [minB, reachBytes] at g1
  exact ramps_law _ (by omega)
end Go.Abs
