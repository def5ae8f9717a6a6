/- A part of the proof that the text with the row names: printed readings of functions, or plain lemmas about them. -/
import Derived.Test.YtanopckddijfcaaGreatDoorC8YR
set_option linter.unusedVariables false
set_option linter.unusedSimpArgs false
namespace Go.Abs
open Go Go.Proofs
theorem take_next {v : List Int} {i : Nat} (h : i < v.length) : v.take i ++ [v.getD i 0] = v.take (i + 1) := by
  rw [List.take_add_one, List.getElem?_eq_getElem h, List.getD_eq_getElem?_getD, List.getElem?_eq_getElem h]
  rfl
theorem ints_val {l : List ByteArray} {v : List Int} (hlen : l.length = v.length) (hl : l.length ≤ 100) (h : ∀ i, i < l.length → token_Integer.F (l.getD i ⟨#[]⟩) = some (v.getD i 0, true)) : robot_numbers__token_Integer.F l = some (v, true) := by
  rw [robot_numbers__token_Integer.F_eq]
  unfold robot_numbers__token_Integer.F0
  have hh := loop_count (step := robot_numbers__token_Integer.p0.step) (fun i : Nat => (l, (l.length : Int), (i : Int), v.take i)) l.length (.inr v) (by
    intro i hi
    have ht := h i hi
    have e1 : ((i : Int) + 1) = ((i + 1 : Nat) : Int) := by omega
    have hv := take_next (v := v) (i := i) (by omega)
    have hvl : (v.take i).length = i := by rw [List.length_take]; omega
    unfold robot_numbers__token_Integer.p0.step robot_numbers__token_Integer.p0.round
    simp only [List.length_cons, List.length_nil, hvl]
    simp (disch := omega) only [dif_dec, dif_ndec, bif_eq, bif_neq, bif_ne, bif_nne, w64, wu64, Int.toNat_natCast, Option.bind_some, cond_true, cond_false, Bool.not_true, Bool.not_false, Sum.elim_inl, Sum.elim_inr, ht, e1, hv]) (by
    unfold robot_numbers__token_Integer.p0.step robot_numbers__token_Integer.p0.round
    simp only []
    rw [hlen, List.take_length]
    simp (disch := omega) only [dif_dec, dif_ndec, bif_eq, bif_neq, bif_ne, bif_nne, w64, wu64, Int.toNat_natCast, Option.bind_some, cond_true, cond_false, Bool.not_true, Bool.not_false, Sum.elim_inl, Sum.elim_inr]) l.length 0 (by omega)
  rw [show ((0 : Nat) : Int) = 0 from rfl, List.take_zero] at hh
  rw [hh]
  rfl
theorem numb_val {l : List ByteArray} {v : List Int} (hlen : l.length = v.length) (hl : l.length ≤ 100) (h : ∀ i, i < l.length → token_Number.F (l.getD i ⟨#[]⟩) = some (v.getD i 0, true)) : robot_numbers__token_Number.F l = some (v, true) := by
  rw [robot_numbers__token_Number.F_eq]
  unfold robot_numbers__token_Number.F0
  have hh := loop_count (step := robot_numbers__token_Number.p0.step) (fun i : Nat => (l, (l.length : Int), (i : Int), v.take i)) l.length (.inr v) (by
    intro i hi
    have ht := h i hi
    have e1 : ((i : Int) + 1) = ((i + 1 : Nat) : Int) := by omega
    have hv := take_next (v := v) (i := i) (by omega)
    have hvl : (v.take i).length = i := by rw [List.length_take]; omega
    unfold robot_numbers__token_Number.p0.step robot_numbers__token_Number.p0.round
    simp only [List.length_cons, List.length_nil, hvl]
    simp (disch := omega) only [dif_dec, dif_ndec, bif_eq, bif_neq, bif_ne, bif_nne, w64, wu64, Int.toNat_natCast, Option.bind_some, cond_true, cond_false, Bool.not_true, Bool.not_false, Sum.elim_inl, Sum.elim_inr, ht, e1, hv]) (by
    unfold robot_numbers__token_Number.p0.step robot_numbers__token_Number.p0.round
    simp only []
    rw [hlen, List.take_length]
    simp (disch := omega) only [dif_dec, dif_ndec, bif_eq, bif_neq, bif_ne, bif_nne, w64, wu64, Int.toNat_natCast, Option.bind_some, cond_true, cond_false, Bool.not_true, Bool.not_false, Sum.elim_inl, Sum.elim_inr]) l.length 0 (by omega)
  rw [show ((0 : Nat) : Int) = 0 from rfl, List.take_zero] at hh
  rw [hh]
  rfl
theorem tn_fm {v : Int} (h : -2147483648 ≤ v ∧ v ≤ 2147483648) : token_Number.F (fm v) = some (v, true) := by
  have hs := fm_size v
  have := tnum_val (fm v).data.toList (by rw [Array.length_toList]; exact hs)
  rw [numV_fm h] at this
  exact this
theorem five {a b c d e : Int} (ha : -2147483648 ≤ a ∧ a ≤ 2147483648) (hb : -2147483648 ≤ b ∧ b ≤ 2147483648) (hc : -2147483648 ≤ c ∧ c ≤ 2147483648) (hd : -2147483648 ≤ d ∧ d ≤ 2147483648) (he : -2147483648 ≤ e ∧ e ≤ 2147483648) :
    robot_numbers__token_Number.F [fm a, fm b, fm c, fm d, fm e] = some ([a, b, c, d, e], true) := by
  refine numb_val rfl (by simp) fun i hi => ?_
  have h5 : i = 0 ∨ i = 1 ∨ i = 2 ∨ i = 3 ∨ i = 4 := by simp only [List.length_cons, List.length_nil] at hi; omega
  rcases h5 with rfl | rfl | rfl | rfl | rfl
  · exact tn_fm ha
  · exact tn_fm hb
  · exact tn_fm hc
  · exact tn_fm hd
  · exact tn_fm he
theorem four {a b c d : Int} (ha : -2147483648 ≤ a ∧ a ≤ 2147483648) (hb : -2147483648 ≤ b ∧ b ≤ 2147483648) (hc : -2147483648 ≤ c ∧ c ≤ 2147483648) (hd : -2147483648 ≤ d ∧ d ≤ 2147483648) :
    robot_numbers__token_Number.F [fm a, fm b, fm c, fm d] = some ([a, b, c, d], true) := by
  refine numb_val rfl (by simp) fun i hi => ?_
  have h5 : i = 0 ∨ i = 1 ∨ i = 2 ∨ i = 3 := by simp only [List.length_cons, List.length_nil] at hi; omega
  rcases h5 with rfl | rfl | rfl | rfl
  · exact tn_fm ha
  · exact tn_fm hb
  · exact tn_fm hc
  · exact tn_fm hd
theorem three {a b c : Int} (ha : 0 ≤ a ∧ a ≤ 2 ^ 40) (hb : 0 ≤ b ∧ b ≤ 2 ^ 40) (hc : 0 ≤ c ∧ c ≤ 2 ^ 40) : robot_numbers__token_Integer.F [dm a, dm b, dm c] = some ([a, b, c], true) := by
  refine ints_val rfl (by simp) fun i hi => ?_
  have h5 : i = 0 ∨ i = 1 ∨ i = 2 := by simp only [List.length_cons, List.length_nil] at hi; omega
  rcases h5 with rfl | rfl | rfl
  · exact intV_dm ha.1 ha.2
  · exact intV_dm hb.1 hb.2
  · exact intV_dm hc.1 hc.2
theorem name_notworld {s : ByteArray} (h : nameB s = true) : eqS s worldB = false := by
  unfold nameB at h
  rw [Bool.and_eq_true, Bool.and_eq_true, Bool.and_eq_true] at h
  cases he : eqS s worldB with
  | false => rfl
  | true => rw [he] at h; exact absurd h.2.2.1 (by decide)
/-- The joint as its first statement gives it. -/
def half (j : JT) : JT := (j.1, (j.2.1, (j.2.2.1, (j.2.2.2.1, (j.2.2.2.2.1, (j.2.2.2.2.2.1, (j.2.2.2.2.2.2.1, (65536, (65536, 65536)))))))))
theorem read_joint {js : List JT} {i : Nat} {m : List (ByteArray × Int)} (hi : i < js.length) (h10 : js.length ≤ 10) (hf : ∀ k, k ≤ i → FineJ k (js.getD k J0)) (hn : nameIn js (js.getD i J0).1 i = false) (hm : MInv js i m) :
    robot_reader_joint.F (jArgs js (js.getD i J0)) (js.take i) [] m = some (0, js.take i ++ [half (js.getD i J0)], [], setM (js.getD i J0).1 (i : Int) m) := by
  have hF := hf i (Nat.le_refl _)
  have hno := hm.no hn
  have hpa := hF.pa
  have hv := hF.of
  unfold vecB at hv
  rw [Bool.and_eq_true, Bool.and_eq_true, okC_iff, okC_iff, okC_iff] at hv
  obtain ⟨v1, v2, v3⟩ := hv
  have hr := reachV_range (js.getD i J0).2.1
  have hli := hF.li
  have hwe := hF.we
  have hnum := five (a := (js.getD i J0).2.2.2.1.1) (b := (js.getD i J0).2.2.2.1.2.1) (c := (js.getD i J0).2.2.2.1.2.2) (d := (js.getD i J0).2.2.2.2.1) (e := (js.getD i J0).2.2.2.2.2.1) (by omega) (by omega) (by omega) (by omega) (by omega)
  have hint := intV_dm (v := (js.getD i J0).2.2.2.2.2.2.1) (by omega) (by omega)
  have hkd := kind_back hF.kd
  have htl : (js.take i).length = i := by rw [List.length_take]; omega
  have hnm : token_Name.F (js.getD i J0).1 = some true := by rw [tname_val, hF.nm]
  have hpar : ((js.getD i J0).2.2.1 = -1 ∧ parN js (js.getD i J0).2.2.1 = worldB) ∨ (0 ≤ (js.getD i J0).2.2.1 ∧ eqS (parN js (js.getD i J0).2.2.1) worldB = false ∧ getM (parN js (js.getD i J0).2.2.1) m = some (js.getD i J0).2.2.1) := by
    by_cases hp : (js.getD i J0).2.2.1 = -1
    · exact Or.inl ⟨hp, by unfold parN; rw [if_pos hp]⟩
    · refine Or.inr ⟨by omega, ?_, ?_⟩
      · unfold parN
        rw [if_neg hp]
        exact name_notworld (hf (js.getD i J0).2.2.1.toNat (by omega)).nm
      · unfold parN
        rw [if_neg hp, hm.get _ (by omega)]
        congr 1
        omega
  rw [robot_reader_joint.F_eq]
  unfold robot_reader_joint.F0 jArgs
  generalize js.getD i J0 = j at *
  have hw : (⟨#[119, 111, 114, 108, 100]⟩ : ByteArray) = worldB := rfl
  have hkl : ([(⟨#[102, 105, 120, 101, 100]⟩ : ByteArray), (⟨#[116, 117, 114, 110, 120]⟩ : ByteArray), (⟨#[116, 117, 114, 110, 121]⟩ : ByteArray), (⟨#[116, 117, 114, 110, 122]⟩ : ByteArray), (⟨#[115, 108, 105, 100, 101, 120]⟩ : ByteArray), (⟨#[115, 108, 105, 100, 101, 121]⟩ : ByteArray), (⟨#[115, 108, 105, 100, 101, 122]⟩ : ByteArray)] : List ByteArray) = kindsLit := rfl
  rw [hkl, hw]
  simp only [List.length_cons, List.length_nil, List.getD_cons_zero, List.getD_cons_succ, List.take_succ_cons, List.take_zero, List.drop_succ_cons, List.drop_zero, htl]
  have hkd2 := hF.kd
  generalize kindsLit = K at *
  generalize kindN.getD j.2.1.toNat ⟨#[]⟩ = kn at *
  rcases hpar with ⟨hp, hpn⟩ | ⟨hp0, hpe, hpg⟩
  · rw [hpn]
    simp (disch := omega) only [dif_dec, dif_ndec, bif_eq, bif_neq, bif_ne, bif_nne, w64, wu64, Int.toNat_natCast, Option.bind_some, cond_true, cond_false, Bool.not_true, Bool.not_false, Sum.elim_inl, Sum.elim_inr, hno, hnm, hkd, eqS_refl, hnum, hint, List.length_cons, List.length_nil, List.getD_cons_zero, List.getD_cons_succ, htl]
    unfold half
    rw [hp]
  · have hhas : hasM (parN js j.2.2.1) m = true := by unfold hasM; rw [hpg]; rfl
    simp (disch := omega) only [dif_dec, dif_ndec, bif_eq, bif_neq, bif_ne, bif_nne, w64, wu64, Int.toNat_natCast, Option.bind_some, cond_true, cond_false, Bool.not_true, Bool.not_false, Sum.elim_inl, Sum.elim_inr, hno, hnm, hkd, hpe, hhas, hnum, hint, hpg, Option.getD_some, List.length_cons, List.length_nil, List.getD_cons_zero, List.getD_cons_succ, htl]
    rfl
end Go.Abs
