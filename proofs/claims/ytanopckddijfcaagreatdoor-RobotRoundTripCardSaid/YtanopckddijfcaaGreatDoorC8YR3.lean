/- A part of the proof that the text with the row names: printed readings of functions, or plain lemmas about them. -/
import Derived.Test.YtanopckddijfcaaGreatDoorC8YR2
set_option linter.unusedVariables false
set_option linter.unusedSimpArgs false
namespace Go.Abs
open Go Go.Proofs
theorem read_limit {L : List JT} {j : JT} {i : Nat} {m : List (ByteArray × Int)} (hL : L.length = i) (hi : i ≤ 100) (hg : getM j.1 m = some (i : Int))
    (hs : 1 ≤ j.2.2.2.2.2.2.2.1 ∧ j.2.2.2.2.2.2.2.1 ≤ 1048576) (ha : 1 ≤ j.2.2.2.2.2.2.2.2.1 ∧ j.2.2.2.2.2.2.2.2.1 ≤ 1048576) (ht : 1 ≤ j.2.2.2.2.2.2.2.2.2 ∧ j.2.2.2.2.2.2.2.2.2 ≤ 1099511627776) :
    robot_reader_limit.F (lArgs j) (L ++ [half j]) [] m = some (0, L ++ [j], [], m) := by
  have h3 := three (a := j.2.2.2.2.2.2.2.1) (b := j.2.2.2.2.2.2.2.2.1) (c := j.2.2.2.2.2.2.2.2.2) (by omega) (by omega) (by omega)
  have hset : ∀ x y : JT, (L ++ [x]).set i y = L ++ [y] := by
    intro x y
    rw [← hL, List.set_append_right _ _ (Nat.le_refl _), Nat.sub_self]
    rfl
  have hat : ∀ x : JT, (L ++ [x]).getD i jz = x := by
    intro x
    rw [← hL, List.getD_eq_getElem?_getD, List.getElem?_append_right (Nat.le_refl _), Nat.sub_self]
    rfl
  have hlen : ∀ x : JT, (L ++ [x]).length = i + 1 := by
    intro x
    rw [List.length_append, List.length_cons, List.length_nil, hL]
  have hhas : hasM j.1 m = true := by unfold hasM; rw [hg]; rfl
  rw [robot_reader_limit.F_eq]
  unfold robot_reader_limit.F0 lArgs
  simp only [List.length_cons, List.length_nil, List.getD_cons_zero, List.getD_cons_succ, List.drop_succ_cons, List.drop_zero, hg, Option.getD_some, Int.toNat_natCast, hset, hat, hlen, hhas, h3, Option.bind_some]
  simp (disch := omega) only [dif_dec, dif_ndec, bif_eq, bif_neq, bif_ne, bif_nne, w64, wu64, Int.toNat_natCast, Option.bind_some, cond_true, cond_false, Bool.not_true, Bool.not_false, Sum.elim_inl, Sum.elim_inr, List.length_cons, List.length_nil, List.getD_cons_zero, List.getD_cons_succ]
  rfl
theorem read_mass {js : List JT} {ms : List MT} {k : Nat} {m : List (ByteArray × Int)} {x : MT} (hk : ms.length ≤ 32) (hg : getM (js.getD x.1.toNat J0).1 m = some x.1) (hb : chkM js.length x = 0) :
    robot_reader_mass.F (mArgs js x) js (ms.take k) m = some (0, js, ms.take k ++ [x], m) := by
  have hx : 0 ≤ x.2.1 ∧ x.2.1 ≤ 65536 ∧ vecB x.2.2.1 x.2.2.2.1 x.2.2.2.2 = true := by
    have h := hb
    unfold chkM at h
    have h1 : ¬ x.1 < 0 := by have := chkM_link hb; omega
    have h2 : ¬ x.1 ≥ js.length := by have := chkM_link hb; omega
    rw [dif_ndec h1, dif_ndec h2] at h
    cases h3 : btwB 1 x.2.1 65536 with
    | false => rw [h3] at h; exact absurd (show (808 : Int) = 0 from h) (by decide)
    | true =>
      rw [h3] at h
      have h4 := btwB_iff.1 h3
      cases h5 : vecB x.2.2.1 x.2.2.2.1 x.2.2.2.2 with
      | false => rw [h5] at h; exact absurd (show (808 : Int) = 0 from h) (by decide)
      | true => exact ⟨by omega, by omega, rfl⟩
  obtain ⟨x1, x2, hv⟩ := hx
  unfold vecB at hv
  rw [Bool.and_eq_true, Bool.and_eq_true, okC_iff, okC_iff, okC_iff] at hv
  obtain ⟨v1, v2, v3⟩ := hv
  have h4 := four (a := x.2.1) (b := x.2.2.1) (c := x.2.2.2.1) (d := x.2.2.2.2) (by omega) (by omega) (by omega) (by omega)
  have htl : (ms.take k).length ≤ 32 := by rw [List.length_take]; omega
  have hhas : hasM (js.getD x.1.toNat J0).1 m = true := by unfold hasM; rw [hg]; rfl
  rw [robot_reader_mass.F_eq]
  unfold robot_reader_mass.F0 mArgs
  generalize (js.getD x.1.toNat J0).1 = nm at *
  simp only [List.length_cons, List.length_nil, List.getD_cons_zero, List.getD_cons_succ, List.drop_succ_cons, List.drop_zero, hg, Option.getD_some, hhas, h4, Option.bind_some]
  simp (disch := omega) only [dif_dec, dif_ndec, bif_eq, bif_neq, bif_ne, bif_nne, w64, wu64, Int.toNat_natCast, Option.bind_some, cond_true, cond_false, Bool.not_true, Bool.not_false, Sum.elim_inl, Sum.elim_inr, List.length_cons, List.length_nil, List.getD_cons_zero, List.getD_cons_succ, List.drop_succ_cons, List.drop_zero]
theorem argsL : syntax_Arguments.F limitB 4 = some true := by
  rw [syntax_Arguments.F_eq]
  unfold syntax_Arguments.F0
  rw [syntax_counts.F_eq]
  kernel_rfl
theorem argsM : syntax_Arguments.F massB 5 = some true := by
  rw [syntax_Arguments.F_eq]
  unfold syntax_Arguments.F0
  rw [syntax_counts.F_eq]
  kernel_rfl
theorem argsJ : syntax_Arguments.F jointB 9 = some true := aw_args
theorem st_joint {q : Int} {js A A' : List JT} {j : JT} {B B' : List MT} {C C' : List (ByteArray × Int)} (h : robot_reader_joint.F (jArgs js j) A B C = some (0, A', B', C')) : robot_reader_statement.F q jointB (jArgs js j) A B C = some (0, A', B', C') := by
  rw [robot_reader_statement.F_eq]
  unfold robot_reader_statement.F0
  have hl : ((jArgs js j).length : Int) = 9 := rfl
  rw [hl, argsJ, h, show eqS jointB ⟨#[106, 111, 105, 110, 116]⟩ = true by kernel_rfl]
  rfl
theorem st_limit {q : Int} {A A' : List JT} {j : JT} {B B' : List MT} {C C' : List (ByteArray × Int)} (h : robot_reader_limit.F (lArgs j) A B C = some (0, A', B', C')) : robot_reader_statement.F q limitB (lArgs j) A B C = some (0, A', B', C') := by
  rw [robot_reader_statement.F_eq]
  unfold robot_reader_statement.F0
  have hl : ((lArgs j).length : Int) = 4 := rfl
  rw [hl, argsL, h, show eqS limitB ⟨#[106, 111, 105, 110, 116]⟩ = false by kernel_rfl, show eqS limitB ⟨#[108, 105, 109, 105, 116]⟩ = true by kernel_rfl]
  rfl
theorem st_mass {q : Int} {js A A' : List JT} {x : MT} {B B' : List MT} {C C' : List (ByteArray × Int)} (h : robot_reader_mass.F (mArgs js x) A B C = some (0, A', B', C')) : robot_reader_statement.F q massB (mArgs js x) A B C = some (0, A', B', C') := by
  rw [robot_reader_statement.F_eq]
  unfold robot_reader_statement.F0
  have hl : ((mArgs js x).length : Int) = 5 := rfl
  rw [hl, argsM, h, show eqS massB ⟨#[106, 111, 105, 110, 116]⟩ = false by kernel_rfl, show eqS massB ⟨#[108, 105, 109, 105, 116]⟩ = false by kernel_rfl, show eqS massB ⟨#[109, 97, 115, 115]⟩ = true by kernel_rfl]
  rfl
theorem read_step {l : List ST} {q : Nat} {A A' : List JT} {B B' : List MT} {C C' : List (ByteArray × Int)} (hq : q < l.length) (hl : l.length ≤ 1000) {w : ByteArray} {a : List ByteArray} (he : (l.getD q St0).2 = (w, a)) (h : ∀ p, robot_reader_statement.F p w a A B C = some (0, A', B', C')) :
    robot_Read.p0.step (l, (l.length : Int), (q : Int), 0, 0, A, B, C) = some (.inl (l, (l.length : Int), ((q + 1 : Nat) : Int), 0, 0, A', B', C')) := by
  have e1 : ((q : Int) + 1) = ((q + 1 : Nat) : Int) := by omega
  have hd : l.getD q ((0 : Int), ((⟨#[]⟩ : ByteArray), ([] : List ByteArray))) = l.getD q St0 := rfl
  unfold robot_Read.p0.step robot_Read.p0.round
  simp only [Int.toNat_natCast, hd]
  have h1 : (l.getD q St0).2.1 = w := by rw [he]
  have h2 : (l.getD q St0).2.2 = a := by rw [he]
  rw [h1, h2, h]
  simp (disch := omega) only [dif_dec, dif_ndec, bif_eq, bif_neq, bif_ne, bif_nne, w64, wu64, Int.toNat_natCast, Option.bind_some, cond_true, cond_false, Bool.not_true, Bool.not_false, Sum.elim_inl, Sum.elim_inr, e1]
end Go.Abs
