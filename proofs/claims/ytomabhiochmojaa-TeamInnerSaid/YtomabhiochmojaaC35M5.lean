/- A part of the proof that the text with the row names: printed readings of functions, or plain lemmas about them. -/
import Derived.Test.YtomabhiochmojaaC35M4
set_option linter.unusedVariables false
set_option linter.unusedSimpArgs false
namespace Go.Abs
open Go

def lk (sh : List ShT) (i : Nat) : Int := (sh.getD i Sh0).1
def keepB (js : List JT) (sh : List ShT) (sk : List SkT) (i k : Nat) : Bool := lk sh i != lk sh k && (!skipB sk (lk sh i) (lk sh k) && !rigidB js (lk sh i) (lk sh k))
def rowP (P : Nat → Nat → Bool) (i : Nat) : Nat → Nat → List SkT
  | _, 0 => []
  | k, m + 1 => (if P i k then [((i : Int), (k : Int))] else []) ++ rowP P i (k + 1) m
def allP (P : Nat → Nat → Bool) (n : Nat) : Nat → Nat → List SkT
  | _, 0 => []
  | i, m + 1 => rowP P i (i + 1) (n - (i + 1)) ++ allP P n (i + 1) m
theorem rowP_length {P : Nat → Nat → Bool} {i : Nat} : ∀ {m k : Nat}, (rowP P i k m).length ≤ m
  | 0, k => by simp [rowP]
  | m + 1, k => by
    have := rowP_length (P := P) (i := i) (m := m) (k := k + 1)
    rw [rowP, List.length_append]
    split
    · simp only [List.length_cons, List.length_nil]; omega
    · simp; omega
theorem pairs_row {js : List JT} {ms : List MT} {sh : List ShT} {sk : List SkT} (h : chkRobot js ms = 0) (hs : sh.length ≤ 24) (hk : sk.length ≤ 64) (i : Nat) : ∀ (m k : Nat) (out : List SkT), k + m = sh.length → out.length ≤ 1000 + k →
    loopF scene_Pairs.p1.step ((i : Int), (k : Int), sh, (sh.length : Int), (i : Int), js, ms, sh, sk, out, lk sh i, (sh.getD i Sh0).2.1, (sh.getD i Sh0).2.2) = some (sh, (sh.length : Int), (i : Int), js, ms, sh, sk, out ++ rowP (keepB js sh sk) i k m)
  | 0, k, out, hm, ho => by
    refine loop_end ?_
    unfold scene_Pairs.p1.step scene_Pairs.p1.round
    simp only []
    simp (disch := omega) only [dif_dec, dif_ndec, bif_eq, bif_neq, bif_ne, bif_nne, w64, wu64, Int.toNat_natCast, Option.bind_some, cond_true, cond_false, Bool.not_true, Bool.not_false, Sum.elim_inl, Sum.elim_inr]
    simp [rowP]
  | m + 1, k, out, hm, ho => by
    have hst : scene_Pairs.p1.step ((i : Int), (k : Int), sh, (sh.length : Int), (i : Int), js, ms, sh, sk, out, lk sh i, (sh.getD i Sh0).2.1, (sh.getD i Sh0).2.2) = some (.inl ((i : Int), ((k + 1 : Nat) : Int), sh, (sh.length : Int), (i : Int), js, ms, sh, sk, (if keepB js sh sk i k then out ++ [((i : Int), (k : Int))] else out), lk sh i, (sh.getD i Sh0).2.1, (sh.getD i Sh0).2.2)) := by
      unfold scene_Pairs.p1.step scene_Pairs.p1.round
      simp only [List.length_cons, List.length_nil]
      simp (disch := omega) only [dif_dec, dif_ndec, bif_eq, bif_neq, bif_ne, bif_nne, w64, wu64, Int.toNat_natCast, Option.bind_some, cond_true, cond_false, Bool.not_true, Bool.not_false, Sum.elim_inl, Sum.elim_inr, skipped_val js ms sh _ _ (show sk.length ≤ 2 ^ 60 by omega), rigid_val h]
      unfold keepB
      generalize hl : lk sh k = b
      have hb : (sh.getD k Sh0).1 = b := hl
      simp only [hb]
      cases (lk sh i != b) <;> cases skipB sk (lk sh i) b <;> cases rigidB js (lk sh i) b <;> rfl
    rw [rowP]
    cases hb : keepB js sh sk i k with
    | true =>
      rw [hb] at hst
      rw [if_pos rfl, ← List.append_assoc, loop_next hst (pairs_row h hs hk i m (k + 1) (out ++ [((i : Int), (k : Int))]) (by omega) (by simp; omega))]
    | false =>
      rw [hb] at hst
      rw [if_neg (by simp), List.nil_append, loop_next hst (pairs_row h hs hk i m (k + 1) out (by omega) (by omega))]
theorem pairs_all {js : List JT} {ms : List MT} {sh : List ShT} {sk : List SkT} (h : chkRobot js ms = 0) (hs : sh.length ≤ 24) (hk : sk.length ≤ 64) : ∀ (m i : Nat) (out : List SkT), i + m = sh.length → out.length ≤ 30 * i →
    loopF scene_Pairs.p0.step (sh, (sh.length : Int), (i : Int), js, ms, sh, sk, out) = some (out ++ allP (keepB js sh sk) sh.length i m)
  | 0, i, out, hm, ho => by
    refine loop_end ?_
    unfold scene_Pairs.p0.step scene_Pairs.p0.round
    simp only []
    simp (disch := omega) only [dif_dec, dif_ndec, bif_eq, bif_neq, bif_ne, bif_nne, w64, wu64, Int.toNat_natCast, Option.bind_some, cond_true, cond_false, Bool.not_true, Bool.not_false, Sum.elim_inl, Sum.elim_inr]
    simp [allP]
  | m + 1, i, out, hm, ho => by
    have hr := pairs_row h hs hk i (sh.length - (i + 1)) (i + 1) out (by omega) (by omega)
    have hl := rowP_length (P := keepB js sh sk) (i := i) (m := sh.length - (i + 1)) (k := i + 1)
    have hst : scene_Pairs.p0.step (sh, (sh.length : Int), (i : Int), js, ms, sh, sk, out) = some (.inl (sh, (sh.length : Int), ((i + 1 : Nat) : Int), js, ms, sh, sk, out ++ rowP (keepB js sh sk) i (i + 1) (sh.length - (i + 1)))) := by
      unfold scene_Pairs.p0.step scene_Pairs.p0.round
      simp only []
      unfold lk at hr
      simp (disch := omega) only [dif_dec, dif_ndec, bif_eq, bif_neq, bif_ne, bif_nne, w64, wu64, Int.toNat_natCast, Option.bind_some, cond_true, cond_false, Bool.not_true, Bool.not_false, Sum.elim_inl, Sum.elim_inr]
      rw [show ((i : Int) + 1) = ((i + 1 : Nat) : Int) by push_cast; rfl, hr]
      simp only [Option.bind_some]
      simp (disch := omega) only [dif_dec, dif_ndec, bif_eq, bif_neq, bif_ne, bif_nne, w64, wu64, Int.toNat_natCast, Option.bind_some, cond_true, cond_false, Bool.not_true, Bool.not_false, Sum.elim_inl, Sum.elim_inr]
      rfl
    rw [allP, ← List.append_assoc, loop_next hst (pairs_all h hs hk m (i + 1) _ (by omega) (by rw [List.length_append]; omega))]
theorem chkScene_zero {js : List JT} {ms : List MT} {sh : List ShT} {sk : List SkT} (h : chkScene js ms sh sk = 0) : chkRobot js ms = 0 ∧ sh.length ≤ 24 ∧ (∀ i, i < sh.length → chkS js.length (sh.getD i Sh0) = 0) ∧ sk.length ≤ 64 ∧ ∀ i, i < sk.length → chkK js.length (sk.getD i (0, 0)) = 0 := by
  unfold chkScene at h
  by_cases h1 : chkRobot js ms = 0
  · rw [bif_nne h1] at h
    by_cases h2 : (sh.length : Int) > 24
    · rw [dif_dec h2] at h; cases h
    · rw [dif_ndec h2] at h
      by_cases h3 : firstErr (sErr js.length sh) 0 sh.length = 0
      · rw [bif_nne h3] at h
        by_cases h4 : (sk.length : Int) > 64
        · rw [dif_dec h4] at h; cases h
        · rw [dif_ndec h4] at h
          exact ⟨h1, by omega, fun i hi => firstErr_iff.1 h3 i (Nat.zero_le _) (by omega), by omega, fun i hi => firstErr_iff.1 h i (Nat.zero_le _) (by omega)⟩
      · rw [bif_ne h3] at h
        exact absurd h h3
  · rw [bif_ne h1] at h
    exact absurd h h1
theorem pairs_val {js : List JT} {ms : List MT} {sh : List ShT} {sk : List SkT} (h : chkScene js ms sh sk = 0) : scene_Pairs.F js ms sh sk = some (allP (keepB js sh sk) sh.length 0 sh.length) := by
  obtain ⟨h1, h2, _, h4, _⟩ := chkScene_zero h
  obtain ⟨g1, g2, _, g4, _⟩ := chkRobot_zero h1
  rw [scene_Pairs.F_eq]
  unfold scene_Pairs.F0
  rw [sceneCheck_val (by omega) (by omega) (by omega) (by omega), Option.bind_some, h, bif_nne rfl]
  have := pairs_all h1 h2 h4 sh.length 0 [] (by omega) (by simp)
  rw [show ((0 : Nat) : Int) = 0 from rfl] at this
  rw [this]
  rfl
end Go.Abs
