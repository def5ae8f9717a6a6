/- A part of the proof that the text with the row names: printed readings of functions, or plain lemmas about them. -/
import Derived.Test.YtcljanaleeapnaaDoorG2
import Derived.Test.YtcljanaleeapnaaDoorAbsD
set_option linter.unusedVariables false
set_option linter.unusedSimpArgs false
namespace Go.Abs
open Go Go.Proofs

theorem radical_3_5 : sampler_Radical.F 3 5 = some (7, 9) := by
  rw [sampler_Radical.F_eq]
  have h : loopF sampler_Radical.p0.step (3, (5 : Int).tmod 4294967296, 0, 1) = some (7, 9) := loopF_of (n := 5) (by kernel_rfl)
  show (loopF sampler_Radical.p0.step (3, (5 : Int).tmod 4294967296, 0, 1)).bind _ = _
  rw [h]
  rfl
theorem radical_2_6 : sampler_Radical.F 2 6 = some (3, 8) := by
  rw [sampler_Radical.F_eq]
  have h : loopF sampler_Radical.p0.step (2, (6 : Int).tmod 4294967296, 0, 1) = some (3, 8) := loopF_of (n := 5) (by kernel_rfl)
  show (loopF sampler_Radical.p0.step (2, (6 : Int).tmod 4294967296, 0, 1)).bind _ = _
  rw [h]
  rfl
theorem radical_3_6 : sampler_Radical.F 3 6 = some (2, 9) := by
  rw [sampler_Radical.F_eq]
  have h : loopF sampler_Radical.p0.step (3, (6 : Int).tmod 4294967296, 0, 1) = some (2, 9) := loopF_of (n := 5) (by kernel_rfl)
  show (loopF sampler_Radical.p0.step (3, (6 : Int).tmod 4294967296, 0, 1)).bind _ = _
  rw [h]
  rfl
theorem prime_0 : sampler_Prime.F 0 = some 2 := by rw [sampler_Prime.F_eq]; kernel_rfl
theorem prime_1 : sampler_Prime.F 1 = some 3 := by rw [sampler_Prime.F_eq]; kernel_rfl
theorem count_07 : sampler_count.F 0 7 = some 8 := by rw [sampler_count.F_eq]; kernel_rfl
theorem count_08 : sampler_count.F 0 8 = some 9 := by rw [sampler_count.F_eq]; kernel_rfl
theorem mul_3_8 : bits_Mul64.F 3 8 = some (0, 24) := by rw [bits_Mul64.F_eq]; kernel_rfl
theorem mul_2_9 : bits_Mul64.F 2 9 = some (0, 18) := by rw [bits_Mul64.F_eq]; kernel_rfl
theorem div_24_8 : bits_Div64.F 0 24 8 = some (3, 0) := by rw [bits_Div64.F_eq]; kernel_rfl
theorem div_18_9 : bits_Div64.F 0 18 9 = some (2, 0) := by rw [bits_Div64.F_eq]; kernel_rfl
theorem place_1 : sampler_Place.F 3 8 0 7 = some 3 := by
  rw [sampler_Place.F_eq]
  unfold sampler_Place.F0
  rw [count_07]
  simp only [Option.bind_some]
  rw [mul_3_8]
  simp only [Option.bind_some]
  rw [div_24_8]
  kernel_rfl
theorem place_2 : sampler_Place.F 2 9 0 8 = some 2 := by
  rw [sampler_Place.F_eq]
  unfold sampler_Place.F0
  rw [count_08]
  simp only [Option.bind_some]
  rw [mul_2_9]
  simp only [Option.bind_some]
  rw [div_18_9]
  kernel_rfl
theorem valid_07 : interval_Valid.F 0 7 = some true := by rw [interval_Valid.F_eq]; kernel_rfl
theorem valid_08 : interval_Valid.F 0 8 = some true := by rw [interval_Valid.F_eq]; kernel_rfl
theorem usable_1 : sampler_usable.F [(0, 7), (0, 8)] = some true := by
  rw [sampler_usable.F_eq]
  refine bind_of (a := .inr ()) (loop_next (y := ([(0, 7), (0, 8)], 2, 1)) (bind_of valid_07 (by kernel_rfl)) (loop_next (y := ([(0, 7), (0, 8)], 2, 2)) (Eq.trans (b := (interval_Valid.F 0 8).bind fun r2 => (bif (!r2) then some (.inr (.inl false)) else some (.inl ([(0, 7), (0, 8)], 2, 2)))) (by kernel_rfl) (bind_of valid_08 (by kernel_rfl))) (loop_end (by kernel_rfl)))) rfl
theorem halton_1 : sampler_Halton.F [(0, 7), (0, 8)] 6 = some [3, 2] := by
  rw [sampler_Halton.F_eq]
  refine bind_of usable_1 (bind_of (a := [3, 2]) (loop_next (y := (6, [(0, 7), (0, 8)], 2, 1, [3, 0])) (bind_of prime_0 (bind_of radical_2_6 (bind_of place_1 (by kernel_rfl))))
    (loop_next (y := (6, [(0, 7), (0, 8)], 2, 2, [3, 2])) (Eq.trans (b := (sampler_Prime.F 1).bind fun r5 => (sampler_Radical.F r5 6).bind fun r6 => (sampler_Place.F r6.1 r6.2 0 8).bind fun r7 => some (.inl (6, [(0, 7), (0, 8)], 2, 2, [3, r7]))) (by kernel_rfl) (bind_of prime_1 (bind_of radical_3_6 (bind_of place_2 (by kernel_rfl))))) (loop_end (by kernel_rfl)))) rfl)
theorem awake_true : armplanlaw23_awake.F () = some true := by
  rw [armplanlaw23_awake.F_eq]
  exact bind_of radical_3_5 (bind_of halton_1 (by kernel_rfl))
theorem word_eq : sampler_Word.F = armplanref23_Word.F := by
  rw [sampler_Word.F_eq, armplanref23_Word.F_eq]
  rfl
theorem word_some (a b : Int) : ∃ r, armplanref23_Word.F a b = some r := by
  rw [armplanref23_Word.F_eq]
  exact ⟨_, rfl⟩
end Go.Abs
