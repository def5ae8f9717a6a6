/- A part of the proof that the text with the row names: printed readings of functions, or plain lemmas about them. -/
import Derived.Test.YtadpfendopacdaaC9GLSceneStill
import Derived.Test.YtadpfendopacdaaC9M6
set_option linter.unusedVariables false
set_option linter.unusedSimpArgs false
namespace Go.Abs
open Go
def stillJ (j : JT) : JT := (j.1, (j.2.1, (j.2.2.1, ((j.2.2.2.1.1, j.2.2.2.1.2), (j.2.2.2.2.1, (j.2.2.2.2.1, (j.2.2.2.2.2.2.1, (j.2.2.2.2.2.2.2.1, j.2.2.2.2.2.2.2.2))))))))
theorem still_true {l : List Int} (hl : l.length ≤ 2 ^ 60) : armplanlaw9_SceneStill.F l = some true := by
  rw [armplanlaw9_SceneStill.F_eq]
  unfold armplanlaw9_SceneStill.F0
  obtain ⟨⟨js, ms, sh, sk⟩, hS, hG⟩ := scene_val hl
  simp only [] at hG
  have hR := hG.r
  have hj3 := hR.2.1
  rw [hS, Option.bind_some]
  simp only []
  rw [dif_dec (by omega)]
  have hloop := loop_count (step := armplanlaw9_SceneStill.p0.step) (fun i : Nat => ((i : Int), js, ms, sh, sk, upto (fun _ j => stillJ j) J0 js i)) js.length (js, ms, sh, sk, upto (fun _ j => stillJ j) J0 js js.length) (by
    intro i hi
    unfold armplanlaw9_SceneStill.p0.step armplanlaw9_SceneStill.p0.round
    simp only [upto_length (g := fun _ j => stillJ j) (d := J0) (Nat.le_of_lt hi)]
    simp (disch := omega) only [dif_dec, dif_ndec, bif_eq, bif_neq, bif_ne, bif_nne, w64, wu64, Int.toNat_natCast, Option.bind_some, cond_true, cond_false, Bool.not_true, Bool.not_false, Sum.elim_inl, Sum.elim_inr]
    rw [upto_at hi]
    have := upto_set (g := fun _ j => stillJ j) (d := J0) hi
    unfold stillJ at this ⊢
    rw [this]
    rfl) (by
    unfold armplanlaw9_SceneStill.p0.step armplanlaw9_SceneStill.p0.round
    simp only [upto_length (g := fun _ j => stillJ j) (d := J0) (Nat.le_refl js.length)]
    simp (disch := omega) only [dif_dec, dif_ndec, bif_eq, bif_neq, bif_ne, bif_nne, w64, wu64, Int.toNat_natCast, Option.bind_some, cond_true, cond_false, Bool.not_true, Bool.not_false, Sum.elim_inl, Sum.elim_inr]) js.length 0 (by omega)
  rw [show ((0 : Nat) : Int) = 0 from rfl, upto_zero] at hloop
  rw [hloop, Option.bind_some, awake9_true, Option.bind_some, cond_true]
  simp only []
  have hz := chkScene_zero (chkScene_good hG)
  have hzr := chkRobot_zero hz.1
  have hlen := upto_length (g := fun _ j => stillJ j) (d := J0) (Nat.le_refl js.length)
  have hget : ∀ i, i < js.length → (upto (fun _ j => stillJ j) J0 js js.length).getD i J0 = stillJ (js.getD i J0) := fun i hi => upto_get hi
  generalize upto (fun _ j => stillJ j) J0 js js.length = js' at *
  have hok : chkScene js' [] sh sk = 0 := by
    refine chkScene_of (chkRobot_of (by omega) (by omega) (fun i hi => ?_) (by simp) (fun i hi => by simp at hi)) hz.2.1 (by rw [hlen]; exact hz.2.2.1) hz.2.2.2.1 (by rw [hlen]; exact hz.2.2.2.2)
    rw [hlen] at hi
    obtain ⟨h1, h2⟩ := hzr.2.2.1 i hi
    rw [hget i hi]
    refine ⟨nameIn_false fun j hj => ?_, ?_⟩
    · rw [hget j (by omega)]
      cases hb : eqS (stillJ (js.getD j J0)).1 (stillJ (js.getD i J0)).1 with
      | false => rfl
      | true =>
        have : nameIn js (js.getD i J0).1 i = true := anyB_iff.2 ⟨j, Nat.zero_le _, by omega, hb⟩
        rw [h1] at this; cases this
    · obtain ⟨a1, a2, a3, a4, a5, a6, a7, a8, a9⟩ := h2
      exact ⟨a1, a2, a3, a4, ⟨Int.le_refl _, a5.2.1, Int.le_trans a5.1 a5.2.2⟩, a6, a7, a8, a9⟩
  have hmov : ∀ l : List Int, (∀ x ∈ l, 0 ≤ x ∧ x < js'.length) → movB js' l = false := by
    intro l hm
    unfold movB
    cases hb : anyB (fun i => decide (lo__ js' (l.getD i 0) < hi__ js' (l.getD i 0))) 0 l.length with
    | false => rfl
    | true =>
      obtain ⟨j, _, h2, h3⟩ := anyB_iff.1 hb
      have hmem : l.getD j 0 ∈ l := by rw [List.getD_eq_getElem?_getD, List.getElem?_eq_getElem (by omega)]; exact List.getElem_mem _
      obtain ⟨m1, m2⟩ := hm _ hmem
      have h4 := of_decide_eq_true h3
      unfold lo__ hi__ at h4
      rw [hget _ (by omega)] at h4
      exact absurd h4 (Int.lt_irrefl _)
  have hkeep : ∀ i k, i < sh.length → k < sh.length → keepB js' sh sk i k = false := by
    intro i k hi hk
    unfold keepB rigidB
    rw [hlen, kindsS hz.2.2.1 hi, kindsS hz.2.2.1 hk, hmov _ (fun x hx => by have := btwL_mem hx; omega)]
    cases (lk sh i != lk sh k) <;> cases skipB sk (lk sh i) (lk sh k) <;> rfl
  have hpairs : allP (keepB js' sh sk) sh.length 0 sh.length = [] := by
    have hr : ∀ i, i < sh.length → ∀ m k, k + m ≤ sh.length → rowP (keepB js' sh sk) i k m = [] := by
      intro i hi m
      induction m with
      | zero => intro k _; rfl
      | succ m ih => intro k hk; rw [rowP, hkeep i k hi (by omega), ih (k + 1) (by omega)]; rfl
    have ha : ∀ m i, i + m ≤ sh.length → allP (keepB js' sh sk) sh.length i m = [] := by
      intro m
      induction m with
      | zero => intro i _; rfl
      | succ m ih => intro i hi; rw [allP, hr i (by omega) _ _ (by omega), ih (i + 1) (by omega)]; rfl
    exact ha sh.length 0 (by omega)
  have hs6 := hG.s2
  have hk1 := hG.k1
  rw [sceneCheck_val (by omega) (by simp) (by omega) (by omega), Option.bind_some, hok, pairs_val hok, hpairs]
  rfl
theorem still_good (x : List Int × Unit) (g : GoodAll [.lf (.slc (.int .i64))] x) : armplanlaw9_SceneStill.F x.1 = some true := by
  obtain ⟨⟨h2, _⟩, _⟩ := g
  simp only [minB, reachBytes] at h2
  exact still_true (by omega)
end Go.Abs
