/- A part of the proof that the text with the row names: printed readings of functions, or plain lemmas about them. -/
import Derived.Test.YtgligkmpgefbmaaDoorC6M7
set_option linter.unusedVariables false
set_option linter.unusedSimpArgs false
namespace Go.Abs
open Go Go.Proofs
theorem rnum_mid {a b t : Nat} (ha : a < 10 ^ 5) (hb : b < 10 ^ 6) (ht0 : 1 ≤ t) (ht : t ≤ 10 ^ 6) :
    IntKind.wrap .i64 ((a : Int) * 65536) = ((a * 65536 : Nat) : Int) ∧ ((IntKind.wrap .i64 (2 * (t : Int)) != 0) = true) ∧
    IntKind.wrap .i64 (((a * 65536 : Nat) : Int) + IntKind.wrap .i64 ((IntKind.wrap .i64 (IntKind.wrap .i64 (IntKind.wrap .i64 (2 * (b : Int)) * 65536) + (t : Int))).tdiv (IntKind.wrap .i64 (2 * (t : Int))))) =
      ((a * 65536 + (2 * b * 65536 + t) / (2 * t) : Nat) : Int) ∧ a * 65536 + (2 * b * 65536 + t) / (2 * t) ≤ 2 ^ 50 := by
  have e1 : ((2 : Int) * (t : Int)) = ((2 * t : Nat) : Int) := by omega
  have e2 : ((2 : Int) * (b : Int)) * 65536 + (t : Int) = ((2 * b * 65536 + t : Nat) : Int) := by omega
  have hq : (2 * b * 65536 + t) / (2 * t) ≤ 2 * b * 65536 + t := Nat.div_le_self _ _
  have hw2 : IntKind.wrap .i64 (2 * (t : Int)) = ((2 * t : Nat) : Int) := by rw [w64 (by omega) (by omega), e1]
  refine ⟨by rw [w64 (by omega) (by omega)]; omega, by rw [hw2]; exact bne_iff_ne.2 (by omega), ?_, by omega⟩
  rw [hw2, w64 (n := (2 : Int) * (b : Int)) (by omega) (by omega), w64 (n := (2 : Int) * (b : Int) * 65536) (by omega) (by omega), w64 (n := (2 : Int) * (b : Int) * 65536 + (t : Int)) (by omega) (by omega), e2,
    Int.tdiv_eq_ediv_of_nonneg (by omega), ← Int.natCast_ediv]
  generalize (2 * b * 65536 + t) / (2 * t) = q at *
  rw [w64 (n := (q : Int)) (by omega) (by omega), w64 (by omega) (by omega)]
  omega
theorem rnum_sign {b : Bool} {q : Nat} (hq : q ≤ 2 ^ 50) : (bif decide ((q : Int) > 2147483648) then some ((0 : Int), false) else (bif b then some (IntKind.wrap .i64 (0 - (q : Int)), true) else some ((q : Int), true))) =
    some (if q ≤ 2147483648 then (bif b then -(q : Int) else q, true) else (0, false)) := by
  by_cases hm : q ≤ 2147483648
  · rw [if_pos hm]
    cases b with
    | true => simp (disch := omega) only [dif_dec, dif_ndec, bif_eq, bif_neq, bif_ne, bif_nne, w64, wu64, Int.toNat_natCast, Option.bind_some, cond_true, cond_false, Bool.not_true, Bool.not_false, Sum.elim_inl, Sum.elim_inr, Int.zero_sub]
    | false => simp (disch := omega) only [dif_dec, dif_ndec, bif_eq, bif_neq, bif_ne, bif_nne, w64, wu64, Int.toNat_natCast, Option.bind_some, cond_true, cond_false, Bool.not_true, Bool.not_false, Sum.elim_inl, Sum.elim_inr]
  · rw [if_neg hm]
    simp (disch := omega) only [dif_dec, dif_ndec, bif_eq, bif_neq, bif_ne, bif_nne, w64, wu64, Int.toNat_natCast, Option.bind_some, cond_true, cond_false, Bool.not_true, Bool.not_false, Sum.elim_inl, Sum.elim_inr]
theorem rnum_val (l : List UInt8) (hl : l.length ≤ 2 ^ 60) : armplanref6_Number.F (ofB l) = some (numV l) := by
  rw [armplanref6_Number.F_eq]
  unfold armplanref6_Number.F0 numV
  have hs := stripL_len l
  rw [sign_val l hl]
  simp only [Option.bind_some]
  generalize stripL l = u at *
  generalize negL l = neg at *
  rw [rdig_val _ (by omega)]
  simp only [Option.bind_some, szB, Int.toNat_natCast, exB]
  have hle := tw_le (f := dig) u
  by_cases hw : (wholeL u).all dig = true
  · obtain ⟨g1, g2⟩ := part_good hw
    rw [g1] at hle
    simp only [g1, g2]
    by_cases h1 : 1 ≤ (wholeL u).length
    · by_cases h5 : (wholeL u).length ≤ 5
      · have hlt := valA_lt hw
        have hp5 : 10 ^ (wholeL u).length ≤ 10 ^ 5 := Nat.pow_le_pow_right (by decide) h5
        rw [valN_eq _ _ _ (by omega)]
        simp (disch := omega) only [dif_dec, dif_ndec, bif_eq, bif_neq, bif_ne, bif_nne, w64, wu64, Int.toNat_natCast, Option.bind_some, cond_true, cond_false, Bool.not_true, Bool.not_false, Sum.elim_inl, Sum.elim_inr]
        cases hR : u.dropWhile nodot with
        | nil =>
          have hpt : pointL u = false := by unfold pointL; rw [hR]; rfl
          have hok : numOk u := ⟨hw, h1, h5, fun h => by rw [hpt] at h; cases h⟩
          rw [point_rest hpt, numX_split]
          have hx : valA 0 (wholeL u) * 65536 + (2 * valA 0 [] * 65536 + 10 ^ ([] : List UInt8).length) / (2 * 10 ^ ([] : List UInt8).length) = valA 0 (wholeL u) * 65536 := by
            rw [valA_nil, List.length_nil, Nat.pow_zero]
            generalize valA 0 (wholeL u) = a
            omega
          rw [hx]
          clear hx
          generalize valA 0 (wholeL u) = a at *
          have e1 : ((a : Int) * 65536) = ((a * 65536 : Nat) : Int) := by omega
          simp only [List.length_nil]
          rw [dif_ndec (by omega), e1]
          by_cases hm : a * 65536 ≤ 2147483648
          · rw [if_pos ⟨hok, hm⟩]
            cases neg with
            | true => simp (disch := omega) only [dif_dec, dif_ndec, bif_eq, bif_neq, bif_ne, bif_nne, w64, wu64, Int.toNat_natCast, Option.bind_some, cond_true, cond_false, Bool.not_true, Bool.not_false, Sum.elim_inl, Sum.elim_inr, Int.zero_sub]
            | false => simp (disch := omega) only [dif_dec, dif_ndec, bif_eq, bif_neq, bif_ne, bif_nne, w64, wu64, Int.toNat_natCast, Option.bind_some, cond_true, cond_false, Bool.not_true, Bool.not_false, Sum.elim_inl, Sum.elim_inr]
          · rw [if_neg (fun e => hm e.2)]
            simp (disch := omega) only [dif_dec, dif_ndec, bif_eq, bif_neq, bif_ne, bif_nne, w64, wu64, Int.toNat_natCast, Option.bind_some, cond_true, cond_false, Bool.not_true, Bool.not_false, Sum.elim_inl, Sum.elim_inr]
        | cons c P =>
          obtain rfl := rest_head hR
          have hpt : pointL u = true := by unfold pointL; rw [hR]; rfl
          have hrest : restL u = P := by unfold restL; rw [hR]; rfl
          have hRl : (u.dropWhile nodot).length ≤ u.length := by rw [← g2, List.length_drop]; omega
          rw [hR, List.length_cons] at hRl
          rw [hrest]
          have hx1 : List.drop 1 (46 :: P) = P := rfl
          simp only [hx1]
          rw [dif_dec (by rw [List.length_cons]; omega), dif_dec (by rw [List.length_cons]; omega), rdig_val _ (by omega)]
          simp only [Option.bind_some]
          rw [dif_dec (by rw [List.length_cons]; omega), bt0]
          have h46 : ((((46 : UInt8).toNat : Nat) : Int) != 46) = false := rfl
          rw [h46, cond_false]
          have hPle := tw_le (f := dig) P
          by_cases hP : P.all dig = true
          · rw [tw_eq hP]
            by_cases hk1 : 1 ≤ P.length
            · by_cases hk6 : P.length ≤ 6
              · have hpl := valA_lt hP
                have hp6 : 10 ^ P.length ≤ 10 ^ 6 := Nat.pow_le_pow_right (by decide) hk6
                have hp1 : 1 ≤ 10 ^ P.length := Nat.one_le_pow _ _ (by decide)
                have hok : numOk u := ⟨hw, h1, h5, fun _ => by rw [hrest]; exact ⟨hP, hk1, hk6⟩⟩
                rw [valN_eq _ _ _ (by omega), dif_ndec (by omega), dif_ndec (by omega)]
                have hlen : (((46 :: P).length : Nat) : Int) - 1 = (P.length : Int) := by rw [List.length_cons]; omega
                rw [hlen, w64 (n := (P.length : Int)) (by omega) (by omega), bne_self_eq_false, cond_false]
                obtain ⟨m1, m2, m3, m4⟩ := rnum_mid (a := valA 0 (wholeL u)) (b := valA 0 P) (t := 10 ^ P.length) (by omega) (by omega) hp1 hp6
                have e1 : ((valA 0 (wholeL u) : Nat) : Int) * 65536 = ((valA 0 (wholeL u) * 65536 : Nat) : Int) := (Int.natCast_mul _ _).symm
                rw [rten_loop hk6, e1]
                simp only [Option.bind_some]
                rw [m2, cond_true, m3, numX_split, rnum_sign m4]
                generalize valA 0 (wholeL u) * 65536 + (2 * valA 0 P * 65536 + 10 ^ P.length) / (2 * 10 ^ P.length) = q at *
                by_cases hm : q ≤ 2147483648
                · rw [if_pos hm, if_pos ⟨hok, hm⟩]
                · rw [if_neg hm, if_neg (fun e => hm e.2)]
              · have hno : ¬ numOk u := fun h => by have := h.2.2.2 hpt; rw [hrest] at this; omega
                rw [if_neg (fun e => hno e.1)]
                simp (disch := omega) only [dif_dec, dif_ndec, bif_eq, bif_neq, bif_ne, bif_nne, w64, wu64, Int.toNat_natCast, Option.bind_some, cond_true, cond_false, Bool.not_true, Bool.not_false, Sum.elim_inl, Sum.elim_inr]
            · have hno : ¬ numOk u := fun h => by have := h.2.2.2 hpt; rw [hrest] at this; omega
              rw [if_neg (fun e => hno e.1)]
              simp (disch := omega) only [dif_dec, dif_ndec, bif_eq, bif_neq, bif_ne, bif_nne, w64, wu64, Int.toNat_natCast, Option.bind_some, cond_true, cond_false, Bool.not_true, Bool.not_false, Sum.elim_inl, Sum.elim_inr]
          · have hno : ¬ numOk u := fun h => by have := h.2.2.2 hpt; rw [hrest] at this; exact hP this.1
            have hne : (P.takeWhile dig).length ≠ P.length := fun e => hP (tw_all.1 e)
            rw [if_neg (fun e => hno e.1)]
            have hlen : (((46 :: P).length : Nat) : Int) - 1 = (P.length : Int) := by rw [List.length_cons]; omega
            rw [hlen]
            generalize (P.takeWhile dig).length = k at *
            generalize valN 0 0 (P.takeWhile dig) = v at *
            by_cases hk1 : (k : Int) < 1
            · simp (disch := omega) only [dif_dec, dif_ndec, bif_eq, bif_neq, bif_ne, bif_nne, w64, wu64, Int.toNat_natCast, Option.bind_some, cond_true, cond_false, Bool.not_true, Bool.not_false, Sum.elim_inl, Sum.elim_inr]
            · by_cases hk6 : (k : Int) > 6
              · simp (disch := omega) only [dif_dec, dif_ndec, bif_eq, bif_neq, bif_ne, bif_nne, w64, wu64, Int.toNat_natCast, Option.bind_some, cond_true, cond_false, Bool.not_true, Bool.not_false, Sum.elim_inl, Sum.elim_inr]
              · simp (disch := omega) only [dif_dec, dif_ndec, bif_eq, bif_neq, bif_ne, bif_nne, w64, wu64, Int.toNat_natCast, Option.bind_some, cond_true, cond_false, Bool.not_true, Bool.not_false, Sum.elim_inl, Sum.elim_inr]
      · rw [if_neg (fun e => h5 e.1.2.2.1)]
        simp (disch := omega) only [dif_dec, dif_ndec, bif_eq, bif_neq, bif_ne, bif_nne, w64, wu64, Int.toNat_natCast, Option.bind_some, cond_true, cond_false, Bool.not_true, Bool.not_false, Sum.elim_inl, Sum.elim_inr]
    · rw [if_neg (fun e => h1 e.1.2.1)]
      simp (disch := omega) only [dif_dec, dif_ndec, bif_eq, bif_neq, bif_ne, bif_nne, w64, wu64, Int.toNat_natCast, Option.bind_some, cond_true, cond_false, Bool.not_true, Bool.not_false, Sum.elim_inl, Sum.elim_inr]
  · obtain ⟨c, r, hd, hc⟩ := part_bad hw
    rw [if_neg (fun e => hw e.1.1)]
    simp only [hd]
    have hdl := congrArg List.length hd
    rw [List.length_drop, List.length_cons] at hdl
    generalize (u.takeWhile dig).length = k at *
    generalize valN 0 0 (u.takeWhile dig) = v at *
    have hc2 : ¬ ((c.toNat : Int) = 46) := fun e => hc ((u8_eq (n := 46) (by decide)).2 (by omega))
    have hx1 : List.drop 1 (c :: r) = r := rfl
    by_cases hk1 : (k : Int) < 1
    · simp (disch := omega) only [dif_dec, dif_ndec, bif_eq, bif_neq, bif_ne, bif_nne, w64, wu64, Int.toNat_natCast, Option.bind_some, cond_true, cond_false, Bool.not_true, Bool.not_false, Sum.elim_inl, Sum.elim_inr]
    · by_cases hk5 : (k : Int) > 5
      · simp (disch := omega) only [dif_dec, dif_ndec, bif_eq, bif_neq, bif_ne, bif_nne, w64, wu64, Int.toNat_natCast, Option.bind_some, cond_true, cond_false, Bool.not_true, Bool.not_false, Sum.elim_inl, Sum.elim_inr]
      · simp only [hx1, bt0]
        rw [rdig_val r (by omega)]
        simp only [List.length_cons]
        simp (disch := omega) only [dif_dec, dif_ndec, bif_eq, bif_neq, bif_ne, bif_nne, w64, wu64, Int.toNat_natCast, Option.bind_some, cond_true, cond_false, Bool.not_true, Bool.not_false, Sum.elim_inl, Sum.elim_inr]
theorem tnum_all (s : ByteArray) (hs : s.size ≤ 2 ^ 60) : token_Number.F s = some (numV s.data.toList) := tnum_val s.data.toList (by rw [Array.length_toList]; exact hs)
theorem rnum_all (s : ByteArray) (hs : s.size ≤ 2 ^ 60) : armplanref6_Number.F s = some (numV s.data.toList) := rnum_val s.data.toList (by rw [Array.length_toList]; exact hs)
theorem tint_all (s : ByteArray) : token_Integer.F s = some (intV s.data.toList) := tint_val s.data.toList
theorem rint_all (s : ByteArray) (hs : s.size ≤ 2 ^ 60) : armplanref6_Integer.F s = some (intV s.data.toList) := rint_val s.data.toList (by rw [Array.length_toList]; exact hs)
end Go.Abs
