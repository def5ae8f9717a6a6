/- A part of the proof that the text with the row names: printed readings of functions, or plain lemmas about them. -/
import Derived.Test.YtadpfendopacdaaC9GLSceneNames
import Derived.Test.YtadpfendopacdaaC9M6
set_option linter.unusedVariables false
set_option linter.unusedSimpArgs false
namespace Go.Abs
open Go
def digB (i : Nat) : ByteArray := (⟨#[48, 49, 50, 51, 52, 53, 54, 55, 56, 57]⟩ : ByteArray).extract (9 - i) (10 - i)
def otherB (i : Nat) : ByteArray := (⟨#[111, 116, 104, 101, 114, 95]⟩ : ByteArray) ++ digB i
theorem decimal_val : ∀ {i : Nat}, i < 3 → armplanref6_Decimal.F (IntKind.wrap .i64 (9 - (i : Int))) 1 = some (digB i)
  | 0, _ => by
    rw [armplanref6_Decimal.F_eq]
    unfold armplanref6_Decimal.F0
    rw [loop_next (y := (0, 1, digB 0)) (by kernel_rfl) (loop_end (r := digB 0) (by kernel_rfl))]
    rfl
  | 1, _ => by
    rw [armplanref6_Decimal.F_eq]
    unfold armplanref6_Decimal.F0
    rw [loop_next (y := (0, 1, digB 1)) (by kernel_rfl) (loop_end (r := digB 1) (by kernel_rfl))]
    rfl
  | 2, _ => by
    rw [armplanref6_Decimal.F_eq]
    unfold armplanref6_Decimal.F0
    rw [loop_next (y := (0, 1, digB 2)) (by kernel_rfl) (loop_end (r := digB 2) (by kernel_rfl))]
    rfl
  | i + 3, h => by omega
theorem others_ok : ∀ i : Nat, i < 3 → catOk (⟨#[111, 116, 104, 101, 114, 95]⟩ : ByteArray) (digB i) = true ∧ nameB (otherB i) = true ∧ ∀ j : Nat, j < i → eqS (otherB j) (otherB i) = false := by
  have h : ((List.range 3).all fun i => catOk (⟨#[111, 116, 104, 101, 114, 95]⟩ : ByteArray) (digB i) && (nameB (otherB i) && (List.range i).all fun j => !(eqS (otherB j) (otherB i)))) = true := by decide +kernel
  intro i hi
  rw [List.all_eq_true] at h
  have h1 := h i (List.mem_range.2 hi)
  rw [Bool.and_eq_true, Bool.and_eq_true, List.all_eq_true] at h1
  exact ⟨h1.1, h1.2.1, fun j hj => by simpa using h1.2.2 j (List.mem_range.2 hj)⟩
theorem chainL_congr {js js' : List JT} (h : ∀ i, (js'.getD i J0).2 = (js.getD i J0).2) : ∀ (f : Nat) (k : Int), chainL js' f k = chainL js f k
  | 0, k => rfl
  | f + 1, k => by
    rw [chainL, chainL, chainL_congr h f]
    unfold par_
    rw [h]
theorem btwL_congr {js js' : List JT} (h : ∀ i, (js'.getD i J0).2 = (js.getD i J0).2) (a b : Int) : ∀ (k i : Nat), btwL js' a b i k = btwL js a b i k
  | 0, i => rfl
  | k + 1, i => by rw [btwL, btwL, btwL_congr h a b k, chainL_congr h, chainL_congr h]
theorem keepB_congr {js js' : List JT} (hl : js'.length = js.length) (h : ∀ i, (js'.getD i J0).2 = (js.getD i J0).2) (sh : List ShT) (sk : List SkT) : keepB js' sh sk = keepB js sh sk := by
  funext i k
  unfold keepB rigidB movB lo__ hi__
  simp only [hl, btwL_congr h, h]
def otherJ (i : Nat) (j : JT) : JT := (otherB i, (j.2.1, (j.2.2.1, ((j.2.2.2.1.1, j.2.2.2.1.2), (j.2.2.2.2.1, (j.2.2.2.2.2.1, (j.2.2.2.2.2.2.1, (j.2.2.2.2.2.2.2.1, j.2.2.2.2.2.2.2.2))))))))
theorem otherJ_two (i : Nat) (j : JT) : (otherJ i j).2 = j.2 := rfl
theorem names_true {l : List Int} (hl : l.length ≤ 2 ^ 60) : armplanlaw9_SceneNames.F l = some true := by
  rw [armplanlaw9_SceneNames.F_eq]
  unfold armplanlaw9_SceneNames.F0
  obtain ⟨⟨js, ms, sh, sk⟩, hS, hG⟩ := scene_val hl
  simp only [] at hG
  have hR := hG.r
  have hj3 := hR.2.1
  rw [hS, Option.bind_some]
  simp only []
  rw [dif_dec (by omega)]
  have hloop := loop_count (step := armplanlaw9_SceneNames.p0.step) (fun i : Nat => ((i : Int), js, ms, sh, sk, ms, sh, sk, upto otherJ J0 js i)) js.length (js, ms, sh, sk, ms, sh, sk, upto otherJ J0 js js.length) (by
    intro i hi
    have hi3 : i < 3 := by omega
    unfold armplanlaw9_SceneNames.p0.step armplanlaw9_SceneNames.p0.round
    simp only [upto_length (g := otherJ) (d := J0) (Nat.le_of_lt hi)]
    rw [decimal_val hi3, Option.bind_some, (others_ok i hi3).1]
    simp (disch := omega) only [dif_dec, dif_ndec, bif_eq, bif_neq, bif_ne, bif_nne, w64, wu64, Int.toNat_natCast, Option.bind_some, cond_true, cond_false, Bool.not_true, Bool.not_false, Sum.elim_inl, Sum.elim_inr]
    rw [upto_at hi]
    have := upto_set (g := otherJ) (d := J0) hi
    unfold otherJ at this ⊢
    rw [← this]
    rfl) (by
    unfold armplanlaw9_SceneNames.p0.step armplanlaw9_SceneNames.p0.round
    simp only [upto_length (g := otherJ) (d := J0) (Nat.le_refl js.length)]
    simp (disch := omega) only [dif_dec, dif_ndec, bif_eq, bif_neq, bif_ne, bif_nne, w64, wu64, Int.toNat_natCast, Option.bind_some, cond_true, cond_false, Bool.not_true, Bool.not_false, Sum.elim_inl, Sum.elim_inr]) js.length 0 (by omega)
  rw [show ((0 : Nat) : Int) = 0 from rfl, upto_zero] at hloop
  rw [hloop, Option.bind_some, awake9_true, Option.bind_some, cond_true]
  simp only []
  have hc := chkScene_good hG
  have hz := chkScene_zero hc
  have hzr := chkRobot_zero hz.1
  have hlen := upto_length (g := otherJ) (d := J0) (Nat.le_refl js.length)
  have hget : ∀ i, i < js.length → (upto otherJ J0 js js.length).getD i J0 = otherJ i (js.getD i J0) := fun i hi => upto_get hi
  have hout : ∀ i, js.length ≤ i → (upto otherJ J0 js js.length).getD i J0 = js.getD i J0 := fun i hi => upto_out hi
  generalize upto otherJ J0 js js.length = js' at *
  have htwo : ∀ i, (js'.getD i J0).2 = (js.getD i J0).2 := by
    intro i
    by_cases hi : i < js.length
    · rw [hget i hi]; rfl
    · rw [hout i (by omega)]
  have hok : chkScene js' ms sh sk = 0 := by
    refine chkScene_of (chkRobot_of (by omega) (by omega) (fun i hi => ?_) hzr.2.2.2.1 (by rw [hlen]; exact hzr.2.2.2.2)) hz.2.1 (by rw [hlen]; exact hz.2.2.1) hz.2.2.2.1 (by rw [hlen]; exact hz.2.2.2.2)
    rw [hlen] at hi
    obtain ⟨h1, h2⟩ := hzr.2.2.1 i hi
    rw [hget i hi]
    refine ⟨nameIn_false fun j hj => ?_, ?_⟩
    · rw [hget j (by omega)]
      exact (others_ok i (by omega)).2.2 j hj
    · obtain ⟨a1, a2, a3, a4, a5, a6, a7, a8, a9⟩ := h2
      exact ⟨(others_ok i (by omega)).2.1, a2, a3, a4, a5, a6, a7, a8, a9⟩
  have hs6 := hG.s2
  have hk1 := hG.k1
  have hm2 := hR.2.2.2.1
  rw [sceneCheck_val (by omega) (by omega) (by omega) (by omega), Option.bind_some, hok, pairs_val hok, pairs_val hc, keepB_congr hlen htwo]
  have hal := allP_length (P := keepB js sh sk) (n := sh.length) sh.length 0
  have hmul : sh.length * sh.length ≤ 24 * 24 := Nat.mul_le_mul (by omega) (by omega)
  simp (disch := omega) only [dif_dec, dif_ndec, bif_eq, bif_neq, bif_ne, bif_nne, w64, wu64, Int.toNat_natCast, Option.bind_some, cond_true, cond_false, Bool.not_true, Bool.not_false, Sum.elim_inl, Sum.elim_inr, samePair_refl (l := allP (keepB js sh sk) sh.length 0 sh.length) (by omega)]
theorem names_good (x : List Int × Unit) (g : GoodAll [.lf (.slc (.int .i64))] x) : armplanlaw9_SceneNames.F x.1 = some true := by
  obtain ⟨⟨h2, _⟩, _⟩ := g
  simp only [minB, reachBytes] at h2
  exact names_true (by omega)
end Go.Abs
