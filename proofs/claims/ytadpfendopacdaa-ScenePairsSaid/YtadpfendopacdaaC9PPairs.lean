/- A part of the proof that the text with the row names: printed readings of functions, or plain lemmas about them. -/
import Derived.Test.YtadpfendopacdaaC9GLScenePairs
import Derived.Test.YtadpfendopacdaaC9M6
set_option linter.unusedVariables false
set_option linter.unusedSimpArgs false
namespace Go.Abs
open Go
theorem chk_row {js : List JT} {ms : List MT} {sh : List ShT} {sk : List SkT} (h : chkRobot js ms = 0) (hs : sh.length ≤ 24) (hk : sk.length ≤ 64) {p : List SkT} (hp : p.length ≤ 2 ^ 60) (i : Nat) (hi : i < sh.length) : ∀ (m k : Nat) (pre tail : List SkT), k + m = sh.length → p = pre ++ (rowP (keepB js sh sk) i k m ++ tail) →
    loopF armplanlaw9_ScenePairs.p1.step ((pre.length : Int), (i : Int), (k : Int), js, ms, sh, sk, p) = some (.inr (((pre ++ rowP (keepB js sh sk) i k m).length : Int), (i : Int), js, ms, sh, sk, p))
  | 0, k, pre, tail, hm, hpe => by
    refine loop_end ?_
    unfold armplanlaw9_ScenePairs.p1.step armplanlaw9_ScenePairs.p1.round
    simp only []
    simp (disch := omega) only [dif_dec, dif_ndec, bif_eq, bif_neq, bif_ne, bif_nne, w64, wu64, Int.toNat_natCast, Option.bind_some, cond_true, cond_false, Bool.not_true, Bool.not_false, Sum.elim_inl, Sum.elim_inr]
    simp [rowP]
  | m + 1, k, pre, tail, hm, hpe => by
    have ha : (sh.getD i Sh0).1 = lk sh i := rfl
    have hb' : (sh.getD k Sh0).1 = lk sh k := rfl
    cases hb : keepB js sh sk i k with
    | false =>
      have e : rowP (keepB js sh sk) i k (m + 1) = rowP (keepB js sh sk) i (k + 1) m := by rw [rowP, hb]; rfl
      rw [e] at hpe ⊢
      refine loop_next (y := ((pre.length : Int), (i : Int), ((k + 1 : Nat) : Int), js, ms, sh, sk, p)) ?_ (chk_row h hs hk hp i hi m (k + 1) pre tail (by omega) hpe)
      unfold armplanlaw9_ScenePairs.p1.step armplanlaw9_ScenePairs.p1.round
      simp only []
      simp (disch := omega) only [dif_dec, dif_ndec, bif_eq, bif_neq, bif_ne, bif_nne, w64, wu64, Int.toNat_natCast, Option.bind_some, cond_true, cond_false, Bool.not_true, Bool.not_false, Sum.elim_inl, Sum.elim_inr, skipped_val js ms sh _ _ (show sk.length ≤ 2 ^ 60 by omega), rigid_val h]
      simp only [ha, hb']
      unfold keepB at hb
      simp only [bne] at hb
      cases he : (lk sh i == lk sh k) <;> cases hr : rigidB js (lk sh i) (lk sh k) <;> cases hq : skipB sk (lk sh i) (lk sh k) <;> simp only [he, hr, hq] at hb <;> first | rfl | cases hb
    | true =>
      have e : rowP (keepB js sh sk) i k (m + 1) = ((i : Int), (k : Int)) :: rowP (keepB js sh sk) i (k + 1) m := by rw [rowP, hb]; rfl
      rw [e] at hpe ⊢
      have hpe2 : p = (pre ++ [((i : Int), (k : Int))]) ++ (rowP (keepB js sh sk) i (k + 1) m ++ tail) := by rw [hpe]; simp
      have hlen : pre.length < p.length := by rw [hpe]; simp
      have hget : p.getD pre.length ((0 : Int), (0 : Int)) = ((i : Int), (k : Int)) := by
        rw [hpe, List.getD_eq_getElem?_getD, List.getElem?_append_right (Nat.le_refl _), Nat.sub_self]
        rfl
      have ih := chk_row h hs hk hp i hi m (k + 1) (pre ++ [((i : Int), (k : Int))]) tail (by omega) hpe2
      rw [List.append_assoc, List.singleton_append] at ih
      refine loop_next (y := (((pre ++ [((i : Int), (k : Int))]).length : Int), (i : Int), ((k + 1 : Nat) : Int), js, ms, sh, sk, p)) ?_ ih
      unfold armplanlaw9_ScenePairs.p1.step armplanlaw9_ScenePairs.p1.round
      simp only []
      simp (disch := omega) only [dif_dec, dif_ndec, bif_eq, bif_neq, bif_ne, bif_nne, w64, wu64, Int.toNat_natCast, Option.bind_some, cond_true, cond_false, Bool.not_true, Bool.not_false, Sum.elim_inl, Sum.elim_inr, skipped_val js ms sh _ _ (show sk.length ≤ 2 ^ 60 by omega), rigid_val h, hget]
      simp only [ha, hb']
      unfold keepB at hb
      simp only [bne] at hb
      cases he : (lk sh i == lk sh k) <;> cases hr : rigidB js (lk sh i) (lk sh k) <;> cases hq : skipB sk (lk sh i) (lk sh k) <;> simp only [he, hr, hq] at hb <;> first | cases hb; done | skip
      simp only [beq_self_eq_true, Bool.and_true, Bool.not_true, cond_false, List.length_append, List.length_cons, List.length_nil]
      rfl
theorem chk_all {js : List JT} {ms : List MT} {sh : List ShT} {sk : List SkT} (h : chkRobot js ms = 0) (hs : sh.length ≤ 24) (hk : sk.length ≤ 64) {p : List SkT} (hp : p.length ≤ 2 ^ 60) : ∀ (m i : Nat) (pre : List SkT), i + m = sh.length → p = pre ++ allP (keepB js sh sk) sh.length i m →
    loopF armplanlaw9_ScenePairs.p0.step ((pre.length : Int), (i : Int), js, ms, sh, sk, p) = some (.inr ((p.length : Int), p))
  | 0, i, pre, hm, hpe => by
    refine loop_end ?_
    have : p = pre := by rw [hpe]; simp [allP]
    unfold armplanlaw9_ScenePairs.p0.step armplanlaw9_ScenePairs.p0.round
    simp only []
    rw [this]
    simp (disch := omega) only [dif_dec, dif_ndec, bif_eq, bif_neq, bif_ne, bif_nne, w64, wu64, Int.toNat_natCast, Option.bind_some, cond_true, cond_false, Bool.not_true, Bool.not_false, Sum.elim_inl, Sum.elim_inr]
  | m + 1, i, pre, hm, hpe => by
    rw [allP] at hpe
    have hr := chk_row h hs hk hp i (by omega) (sh.length - (i + 1)) (i + 1) pre _ (by omega) hpe
    have ih := chk_all h hs hk hp m (i + 1) (pre ++ rowP (keepB js sh sk) i (i + 1) (sh.length - (i + 1))) (by omega) (by rw [hpe]; simp)
    refine loop_next ?_ ih
    unfold armplanlaw9_ScenePairs.p0.step armplanlaw9_ScenePairs.p0.round
    simp only []
    simp (disch := omega) only [dif_dec, dif_ndec, bif_eq, bif_neq, bif_ne, bif_nne, w64, wu64, Int.toNat_natCast, Option.bind_some, cond_true, cond_false, Bool.not_true, Bool.not_false, Sum.elim_inl, Sum.elim_inr]
    rw [show ((i : Int) + 1) = ((i + 1 : Nat) : Int) by push_cast; rfl, hr]
    simp only [Option.bind_some, Sum.elim_inr]
    simp (disch := omega) only [dif_dec, dif_ndec, bif_eq, bif_neq, bif_ne, bif_nne, w64, wu64, Int.toNat_natCast, Option.bind_some, cond_true, cond_false, Bool.not_true, Bool.not_false, Sum.elim_inl, Sum.elim_inr]
    rfl
theorem pairs_true {l : List Int} (hl : l.length ≤ 2 ^ 60) : armplanlaw9_ScenePairs.F l = some true := by
  rw [armplanlaw9_ScenePairs.F_eq]
  unfold armplanlaw9_ScenePairs.F0
  obtain ⟨⟨js, ms, sh, sk⟩, hS, hG⟩ := scene_val hl
  simp only [] at hG
  have hc := chkScene_good hG
  have hz := chkScene_zero hc
  have hal := allP_length (P := keepB js sh sk) (n := sh.length) sh.length 0
  have hmul : sh.length * sh.length ≤ 24 * 24 := Nat.mul_le_mul hz.2.1 hz.2.1
  have hloop := chk_all hz.1 hz.2.1 hz.2.2.2.1 (p := allP (keepB js sh sk) sh.length 0 sh.length) (by omega) sh.length 0 [] (by omega) rfl
  rw [show ((0 : Nat) : Int) = 0 from rfl, show ((([] : List SkT).length : Nat) : Int) = 0 from rfl] at hloop
  rw [hS, Option.bind_some, pairs_val hc, Option.bind_some]
  simp only []
  rw [hloop, Option.bind_some, Sum.elim_inr, awake9_true, Option.bind_some, cond_true, beq_self_eq_true]
theorem pairs_good (x : List Int × Unit) (g : GoodAll [.lf (.slc (.int .i64))] x) : armplanlaw9_ScenePairs.F x.1 = some true := by
  obtain ⟨⟨h2, _⟩, _⟩ := g
  simp only [minB, reachBytes] at h2
  exact pairs_true (by omega)
end Go.Abs
