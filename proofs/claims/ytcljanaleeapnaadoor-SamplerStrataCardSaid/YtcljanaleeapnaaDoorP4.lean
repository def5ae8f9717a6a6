/- A part of the proof that the text with the row names: printed readings of functions, or plain lemmas about them. -/
import Derived.Test.YtcljanaleeapnaaDoorL4
import Derived.Test.YtcljanaleeapnaaDoorM3
set_option linter.unusedVariables false
set_option linter.unusedSimpArgs false
namespace Go.Abs
open Go

theorem strata_step {b m i : Nat} {s : List Bool} (hb : 2 ≤ b) (hb' : b ≤ 29) (hm : b ^ m ≤ 2 ^ 20) (hi : i < b ^ m) (hl : s.length = b ^ m) (hs : s.getD (lead b m i) false = false) :
    armplanlaw23_SamplerStrata.p0.step ((b : Int), ((b ^ m : Nat) : Int), (i : Int), s) = some (.inl ((b : Int), ((b ^ m : Nat) : Int), ((i + 1 : Nat) : Int), s.set (lead b m i) true)) := by
  unfold armplanlaw23_SamplerStrata.p0.step armplanlaw23_SamplerStrata.p0.round
  have h1 := rv_lt hb 32 i
  have h2 := den_pos (i := i) hb
  have h3 := lead_lt hb m i
  have hat := at_val (m := m) hb hb' (show i < 2 ^ 32 by omega) hm
  simp only []
  rw [dif_dec (by omega), rad_val hb hb', Option.bind_some, Nat.mod_eq_of_lt (by omega)]
  simp only []
  rw [hat, bif_neq (by omega), dif_ndec (by omega), bif_ne (by omega), dif_dec (by omega), dif_dec (by omega)]
  rw [Int.toNat_natCast, hs, cond_false, dif_dec (by omega), dif_dec (by omega)]
  rw [wu64 (by omega) (by omega)]
  rfl
theorem strata_true (a c : Int) : armplanlaw23_SamplerStrata.F a c = some true := by
  rw [armplanlaw23_SamplerStrata.F_eq]
  unfold armplanlaw23_SamplerStrata.F0
  rw [round_val (by decide) (by decide), round_val (by decide) (by decide), Option.bind_some, Option.bind_some]
  have ha := Int.emod_nonneg a (show (11 : Int) ≠ 0 by decide)
  have ha' := Int.emod_lt_of_pos a (show (0 : Int) < 11 by decide)
  have hc := Int.emod_nonneg c (show (3 : Int) ≠ 0 by decide)
  have hc' := Int.emod_lt_of_pos c (show (0 : Int) < 3 by decide)
  obtain ⟨x, hx⟩ : ∃ x : Nat, a % 11 = x := ⟨(a % 11).toNat, by omega⟩
  obtain ⟨m, hm⟩ : ∃ x : Nat, c % 3 = x := ⟨(c % 3).toNat, by omega⟩
  rw [hx, hm]
  have hb : IntKind.wrap .u64 (IntKind.wrap .i64 (2 + (x : Int))) = ((2 + x : Nat) : Int) := by rw [w64 (by omega) (by omega), wu64 (by omega) (by omega)]; push_cast; rfl
  have hmb : (2 + x) ^ m ≤ 2 ^ 20 := by
    calc (2 + x) ^ m ≤ 12 ^ m := Nat.pow_le_pow_left (by omega) m
      _ ≤ 12 ^ 2 := Nat.pow_le_pow_right (by omega) (by omega)
      _ ≤ 2 ^ 20 := by decide
  rw [hb, power_F (by omega) (by omega) (by omega), Option.bind_some, dif_dec (by omega), dif_dec (by omega), Int.toNat_natCast]
  have hloop : ∃ o, loopF armplanlaw23_SamplerStrata.p0.step (((2 + x : Nat) : Int), (((2 + x) ^ m : Nat) : Int), (0 : Int), List.replicate ((2 + x) ^ m) false) = some o ∧ o = Sum.inr () := by
    refine loop_rule (fun st => ∃ (i : Nat) (s : List Bool), st = (((2 + x : Nat) : Int), (((2 + x) ^ m : Nat) : Int), (i : Int), s) ∧ i ≤ (2 + x) ^ m ∧ Marks (lead (2 + x) m) ((2 + x) ^ m) 0 i s) (fun o => o = Sum.inr ()) (fun st => ((2 + x) ^ m - st.2.2.1.toNat)) ?_ _ ⟨0, _, rfl, Nat.zero_le _, Marks.start _ _ _⟩
    rintro _ ⟨i, s, rfl, hi, hM⟩
    by_cases h : i < (2 + x) ^ m
    · refine .inl ⟨_, strata_step (by omega) (by omega) hmb h hM.len (hM.free fun j _ hj e => ?_), ⟨i + 1, _, rfl, h, hM.next (Nat.zero_le _)⟩, ?_⟩
      · have := lead_inj (by omega) m j i e
        rw [Nat.mod_eq_of_lt (by omega), Nat.mod_eq_of_lt (by omega)] at this
        omega
      · simp only [Int.toNat_natCast]
        omega
    · refine .inr ⟨_, ?_, rfl⟩
      unfold armplanlaw23_SamplerStrata.p0.step armplanlaw23_SamplerStrata.p0.round
      simp only []
      rw [dif_ndec (by omega)]
  obtain ⟨o, ho, rfl⟩ := hloop
  rw [ho]
  simp only [Option.bind_some, Sum.elim_inr, awake_true]
end Go.Abs
