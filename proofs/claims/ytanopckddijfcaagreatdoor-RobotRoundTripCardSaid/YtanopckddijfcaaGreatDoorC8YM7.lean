/- A part of the proof that the text with the row names: printed readings of functions, or plain lemmas about them. -/
import Derived.Test.YtanopckddijfcaaGreatDoorC8YM6
set_option linter.unusedVariables false
set_option linter.unusedSimpArgs false
namespace Go.Abs
open Go Go.Proofs
theorem ch_loop0 {v : Int} {ms : List MT} : ∀ (d : Nat) (js : List JT), js.length + d = 12 → SmJ js → ∃ js', SmJ js' ∧ loopF armplanlaw8_changed.p0.step (v, js, ms) = some (js', ms)
  | d, js, hd, hs => by
    have hr : armplanmake_Round.F v 2 = some (v % 2) := round_val (by decide) (by decide)
    have hm0 : 0 ≤ v % 2 := Int.emod_nonneg _ (by decide)
    have hm1 : v % 2 < 2 := Int.emod_lt_of_pos _ (by decide)
    by_cases hlt : (js.length : Int) < 10 + v % 2
    · match d with
      | 0 => omega
      | d + 1 =>
        obtain ⟨r, hdec, hF⟩ := dec_val (n := js.length) (k := 1) (m := 2) (by decide) (by decide) (by omega)
        have hsz : (ofB r).size = r.length := rfl
        have hr2 := hdec.hi
        have s1 : (⟨#[113]⟩ : ByteArray).size = 1 := rfl
        obtain ⟨js', h1, h2⟩ := ch_loop0 (v := v) (ms := ms) d (js ++ [((⟨#[113]⟩ : ByteArray) ++ ofB r, (0, (-1, ((0, (0, 0)), (0, (0, (1, (1, (1, 1)))))))))]) (by rw [List.length_append, List.length_cons, List.length_nil]; omega)
          (hs.app (by omega) (by show ((⟨#[113]⟩ : ByteArray) ++ ofB r).size ≤ 100; rw [bsize_append]; omega))
        refine ⟨js', h1, ?_⟩
        rw [loopF_eq]
        have hstep : armplanlaw8_changed.p0.step (v, js, ms) = some (.inl (v, js ++ [((⟨#[113]⟩ : ByteArray) ++ ofB r, (0, (-1, ((0, (0, 0)), (0, (0, (1, (1, (1, 1)))))))))], ms)) := by
          unfold armplanlaw8_changed.p0.step armplanlaw8_changed.p0.round
          simp only []
          rw [hr]
          generalize v % 2 = m at *
          have hF' : armplanref6_Decimal.F (js.length : Int) 1 = some (ofB r) := hF
          simp (disch := omega) only [dif_dec, dif_ndec, bif_eq, bif_neq, bif_ne, bif_nne, w64, wu64, Int.toNat_natCast, Option.bind_some, cond_true, cond_false, Bool.not_true, Bool.not_false, Sum.elim_inl, Sum.elim_inr, hF', List.length_cons, List.length_nil]
          rw [cat_ok (by omega)]
          rfl
        rw [hstep]
        exact h2
    · refine ⟨js, hs, loop_end ?_⟩
      unfold armplanlaw8_changed.p0.step armplanlaw8_changed.p0.round
      simp only []
      rw [hr]
      generalize v % 2 = m at *
      simp (disch := omega) only [dif_dec, dif_ndec, bif_eq, bif_neq, bif_ne, bif_nne, w64, wu64, Int.toNat_natCast, Option.bind_some, cond_true, cond_false, Bool.not_true, Bool.not_false, Sum.elim_inl, Sum.elim_inr]
theorem ch_loop1 {v : Int} {js : List JT} : ∀ (d : Nat) (ms : List MT), ms.length + d = 40 → ∃ ms', ms'.length ≤ 50 ∧ loopF armplanlaw8_changed.p1.step (v, js, ms) = some (js, ms')
  | d, ms, hd => by
    have hr : armplanmake_Round.F v 2 = some (v % 2) := round_val (by decide) (by decide)
    have hm0 : 0 ≤ v % 2 := Int.emod_nonneg _ (by decide)
    have hm1 : v % 2 < 2 := Int.emod_lt_of_pos _ (by decide)
    by_cases hlt : (ms.length : Int) < 32 + v % 2
    · match d with
      | 0 => omega
      | d + 1 =>
        obtain ⟨ms', h1, h2⟩ := ch_loop1 (v := v) (js := js) d (ms ++ [(0, (1, (0, (0, 0))))]) (by rw [List.length_append, List.length_cons, List.length_nil]; omega)
        refine ⟨ms', h1, ?_⟩
        rw [loopF_eq]
        have hstep : armplanlaw8_changed.p1.step (v, js, ms) = some (.inl (v, js, ms ++ [(0, (1, (0, (0, 0))))])) := by
          unfold armplanlaw8_changed.p1.step armplanlaw8_changed.p1.round
          simp only []
          rw [hr]
          generalize v % 2 = m at *
          simp (disch := omega) only [dif_dec, dif_ndec, bif_eq, bif_neq, bif_ne, bif_nne, w64, wu64, Int.toNat_natCast, Option.bind_some, cond_true, cond_false, Bool.not_true, Bool.not_false, Sum.elim_inl, Sum.elim_inr, List.length_cons, List.length_nil]
        rw [hstep]
        exact h2
    · refine ⟨ms, by omega, loop_end ?_⟩
      unfold armplanlaw8_changed.p1.step armplanlaw8_changed.p1.round
      simp only []
      rw [hr]
      generalize v % 2 = m at *
      simp (disch := omega) only [dif_dec, dif_ndec, bif_eq, bif_neq, bif_ne, bif_nne, w64, wu64, Int.toNat_natCast, Option.bind_some, cond_true, cond_false, Bool.not_true, Bool.not_false, Sum.elim_inl, Sum.elim_inr]
theorem ex_l0 {v : Int} {js : List JT} {ms : List MT} (hs : SmJ js) (hl : js.length ≤ 12) (hm : ms.length ≤ 50) : ∃ r, ((loopF armplanlaw8_changed.p0.step (v, js, ms)).bind fun y => some (y.1, y.2)) = some r ∧ SmR r := by
  obtain ⟨js', h1, h2⟩ := ch_loop0 (v := v) (ms := ms) (12 - js.length) js (by omega) hs
  rw [h2]
  exact ⟨_, rfl, h1, hm⟩
theorem ex_l1 {v : Int} {js : List JT} {ms : List MT} (hs : SmJ js) (hm : ms.length ≤ 40) : ∃ r, ((loopF armplanlaw8_changed.p1.step (v, js, ms)).bind fun y => some (y.1, y.2)) = some r ∧ SmR r := by
  obtain ⟨ms', h1, h2⟩ := ch_loop1 (v := v) (js := js) (40 - ms.length) ms (by omega)
  rw [h2]
  exact ⟨_, rfl, hs, h1⟩
theorem set_at {js : List JT} {i k : Nat} {x : JT} (h : SmJ js) (hx : x.1.size ≤ 100) : ((js.set i x).getD k J0).1.size ≤ 100 := (h.set hx).at k
theorem SmJ.set2 {js : List JT} {i k : Nat} {x y : JT} (h : SmJ js) (hx : x.1.size ≤ 100) (hy : y.1.size ≤ 100) : SmJ ((js.set i x).set k y) := (h.set hx).set hy
theorem smR_mk {js : List JT} {ms : List MT} (h : SmJ js) (h2 : ms.length ≤ 50) : SmR (js, ms) := ⟨h, h2⟩
set_option maxHeartbeats 4000000 in
theorem changed_val {js : List JT} {ms : List MT} {a b c : Int} (h1 : 1 ≤ js.length) (h10 : js.length ≤ 10) (hs : SmJ js) (hm : ms.length ≤ 32) : ∃ r, armplanlaw8_changed.F js ms a b c = some r ∧ SmR r := by
  rw [armplanlaw8_changed.F_eq]
  unfold armplanlaw8_changed.F0
  repeat' (first
    | (refine ex_round (by omega) (by omega) ?_; intro m h0 h1)
    | (refine ex_eq ?_ ?_ <;> intro h)
    | (refine ex_dec ?_ ?_ <;> intro h))
  all_goals first
    | exact ⟨_, rfl, smR_mk (hs.set (hs.at _)) (by omega)⟩
    | exact ⟨_, rfl, smR_mk (hs.set (nm6 _)) (by omega)⟩
    | exact ex_l0 hs (by omega) (by omega)
    | exact ex_l1 hs (by omega)
    | exact ⟨_, rfl, smR_mk hs (by simp only [List.length_append, List.length_cons, List.length_nil]; omega)⟩
    | exact ⟨_, rfl, smR_mk (hs.set2 (hs.at _) (set_at hs (hs.at _))) (by omega)⟩
    | (exfalso; omega)
    | (exfalso; simp only [List.length_cons, List.length_nil] at *; omega)
end Go.Abs
