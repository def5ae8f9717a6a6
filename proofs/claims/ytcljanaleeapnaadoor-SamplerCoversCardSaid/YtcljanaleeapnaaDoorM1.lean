/- A part of the proof that the text with the row names: printed readings of functions, or plain lemmas about them. -/
import Derived.Test.YtcljanaleeapnaaDoorA1
set_option linter.unusedVariables false
set_option linter.unusedSimpArgs false
namespace Go.Abs
open Go

/-! ### Digits, radical inverses -/
def nd (b : Nat) : Nat → Nat → Nat
  | 0, _ => 0
  | f + 1, i => if i = 0 then 0 else nd b f (i / b) + 1
def rv (b : Nat) : Nat → Nat → Nat
  | 0, _ => 0
  | f + 1, i => if i = 0 then 0 else (i % b) * b ^ nd b f (i / b) + rv b f (i / b)

theorem nd_pow {b : Nat} (hb : 2 ≤ b) : ∀ (f i : Nat), 0 < i → b ^ nd b f i ≤ i * b
  | 0, i, h => by simp [nd]; exact Nat.mul_pos h (by omega)
  | f + 1, i, h => by
    rw [nd, if_neg (by omega)]
    by_cases h0 : i / b = 0
    · have : nd b f (i / b) = 0 := by rw [h0]; cases f <;> simp [nd]
      rw [this]; simp
      exact Nat.le_mul_of_pos_left b h
    · have := nd_pow hb f (i / b) (Nat.pos_of_ne_zero h0)
      rw [Nat.pow_succ]
      refine Nat.le_trans (Nat.mul_le_mul_right b this) (Nat.mul_le_mul_right b (Nat.div_mul_le_self i b))
theorem rv_lt {b : Nat} (hb : 2 ≤ b) : ∀ (f i : Nat), rv b f i < b ^ nd b f i
  | 0, i => by simp [nd, rv]
  | f + 1, i => by
    rw [nd, rv]
    split
    · simp
    · have h1 := rv_lt hb f (i / b)
      have h2 : i % b + 1 ≤ b := Nat.mod_lt _ (by omega)
      rw [Nat.pow_succ]
      calc i % b * b ^ nd b f (i / b) + rv b f (i / b) < i % b * b ^ nd b f (i / b) + b ^ nd b f (i / b) := by omega
        _ = (i % b + 1) * b ^ nd b f (i / b) := by rw [Nat.succ_mul]
        _ ≤ b * b ^ nd b f (i / b) := Nat.mul_le_mul_right _ h2
        _ = _ := Nat.mul_comm _ _
/-- The leading digits: the interval of the length b^-a. -/
def lead (b : Nat) : Nat → Nat → Nat
  | 0, _ => 0
  | a + 1, i => (i % b) * b ^ a + lead b a (i / b)
theorem lead_lt {b : Nat} (hb : 2 ≤ b) : ∀ (a i : Nat), lead b a i < b ^ a
  | 0, i => by simp [lead]
  | a + 1, i => by
    rw [lead, Nat.pow_succ]
    have h1 := lead_lt hb a (i / b)
    have h2 : i % b + 1 ≤ b := Nat.mod_lt _ (by omega)
    calc i % b * b ^ a + lead b a (i / b) < i % b * b ^ a + b ^ a := by omega
      _ = (i % b + 1) * b ^ a := by rw [Nat.succ_mul]
      _ ≤ b * b ^ a := Nat.mul_le_mul_right _ h2
      _ = _ := Nat.mul_comm _ _
theorem lead_zero {b : Nat} : ∀ (a : Nat), lead b a 0 = 0
  | 0 => rfl
  | a + 1 => by simp [lead, lead_zero a]
theorem lead_inj {b : Nat} (hb : 2 ≤ b) : ∀ (a i j : Nat), lead b a i = lead b a j → i % b ^ a = j % b ^ a
  | 0, i, j, _ => by simp [Nat.mod_one]
  | a + 1, i, j, h => by
    rw [lead, lead] at h
    have hi := lead_lt hb a (i / b)
    have hj := lead_lt hb a (j / b)
    have hp : 0 < b ^ a := Nat.pow_pos (by omega)
    have h1 : i % b = j % b := by
      have e1 : (i % b * b ^ a + lead b a (i / b)) / b ^ a = i % b := by rw [Nat.mul_comm, Nat.mul_add_div hp, Nat.div_eq_of_lt hi]; omega
      have e2 : (j % b * b ^ a + lead b a (j / b)) / b ^ a = j % b := by rw [Nat.mul_comm, Nat.mul_add_div hp, Nat.div_eq_of_lt hj]; omega
      rw [← e1, h, e2]
    have h2 : lead b a (i / b) = lead b a (j / b) := by rw [h1] at h; omega
    have h3 := lead_inj hb a _ _ h2
    rw [Nat.pow_succ, Nat.mul_comm, Nat.mod_mul, Nat.mod_mul, h1, h3]
theorem rv_lead {b : Nat} (hb : 2 ≤ b) : ∀ (a f i : Nat), i < 2 ^ f → rv b f i * b ^ a / b ^ nd b f i = lead b a i
  | 0, f, i, _ => by
    rw [Nat.pow_zero, Nat.mul_one, Nat.div_eq_of_lt (rv_lt hb f i)]; rfl
  | a + 1, 0, i, h => by
    have : i = 0 := by simp at h; omega
    subst this
    simp [rv, lead_zero]
  | a + 1, f + 1, i, h => by
    rw [rv, nd]
    by_cases h0 : i = 0
    · subst h0; simp [lead_zero]
    · rw [if_neg h0, if_neg h0, lead]
      have hlt : i / b < 2 ^ f := by
        have : i / b ≤ i / 2 := Nat.div_le_div_left hb (by omega)
        rw [Nat.pow_succ] at h
        omega
      rw [← rv_lead hb a f (i / b) hlt, Nat.pow_succ b (nd b f (i / b)), Nat.pow_succ b a]
      have hp : 0 < b ^ nd b f (i / b) := Nat.pow_pos (by omega)
      rw [show (i % b * b ^ nd b f (i / b) + rv b f (i / b)) * (b ^ a * b) = (b ^ nd b f (i / b) * (i % b * b ^ a) + rv b f (i / b) * b ^ a) * b by grind]
      rw [Nat.mul_div_mul_right _ _ (by omega), Nat.mul_add_div hp]

/-! ### Radical -/
theorem rad_step (b i n d : Nat) (hb : 2 ≤ b) (hi : 0 < i) : sampler_Radical.p0.step ((b : Int), (i : Int), (n : Int), (d : Int)) = some (.inl ((b : Int), IntKind.wrap .u64 ((i / b : Nat) : Int), IntKind.wrap .u64 (IntKind.wrap .u64 ((n * b : Nat) : Int) + ((i % b : Nat) : Int)), IntKind.wrap .u64 ((d * b : Nat) : Int))) := by
  unfold sampler_Radical.p0.step sampler_Radical.p0.round
  simp only []
  rw [dif_dec (by omega), bif_pos (by simp; omega), bif_pos (by simp; omega)]
  rw [tdiv_nat, tmod_nat]
  push_cast
  rfl
theorem rad_end (b n d : Nat) : sampler_Radical.p0.step ((b : Int), ((0 : Nat) : Int), (n : Int), (d : Int)) = some (.inr ((n : Int), (d : Int))) := by
  unfold sampler_Radical.p0.step sampler_Radical.p0.round
  simp only []
  rw [dif_ndec (by omega)]

theorem rad_loop {b : Nat} (hb : 2 ≤ b) : ∀ (f i n d : Nat), i < 2 ^ f → i < 2 ^ 32 → n < d → d * b ^ nd b f i < 2 ^ 63 →
    loopF sampler_Radical.p0.step ((b : Int), (i : Int), (n : Int), (d : Int)) = some (((n * b ^ nd b f i + rv b f i : Nat) : Int), ((d * b ^ nd b f i : Nat) : Int))
  | 0, i, n, d, h, _, _, _ => by
    have : i = 0 := by simp at h; omega
    subst this
    rw [loop_end (rad_end b n d)]
    simp [nd, rv]
  | f + 1, i, n, d, h, h32, hnd, hd => by
    by_cases h0 : i = 0
    · subst h0
      rw [loop_end (rad_end b n d)]
      simp [nd, rv]
    · rw [nd, rv, if_neg h0, if_neg h0]
      rw [nd, if_neg h0] at hd
      have hlt : i / b < 2 ^ f := by
        have : i / b ≤ i / 2 := Nat.div_le_div_left hb (by omega)
        rw [Nat.pow_succ] at h
        omega
      have hlt2 : i / b < 2 ^ 32 := Nat.lt_of_le_of_lt (Nat.div_le_self _ _) h32
      have hp : 0 < b ^ nd b f (i / b) := Nat.pow_pos (by omega)
      have hmod : i % b + 1 ≤ b := Nat.mod_lt _ (by omega)
      have hdb : d * b < 2 ^ 63 := by
        refine Nat.lt_of_le_of_lt ?_ hd
        rw [Nat.pow_succ, Nat.mul_comm (b ^ _) b, ← Nat.mul_assoc]
        exact Nat.le_mul_of_pos_right _ hp
      have hnb : n * b + i % b < d * b := by
        calc n * b + i % b < n * b + b := by omega
          _ = (n + 1) * b := by rw [Nat.succ_mul]
          _ ≤ d * b := Nat.mul_le_mul_right _ hnd
      refine loop_next (rad_step b i n d hb (by omega)) ?_
      rw [wu64_nat, wu64_nat, wu64_nat, ← Int.natCast_add, wu64_nat]
      rw [Nat.mod_eq_of_lt (a := i / b) (by omega), Nat.mod_eq_of_lt (a := d * b) (by omega), Nat.mod_eq_of_lt (a := n * b) (by omega), Nat.mod_eq_of_lt (by omega)]
      rw [rad_loop hb f (i / b) (n * b + i % b) (d * b) hlt hlt2 hnb (by rw [Nat.mul_assoc, Nat.mul_comm b, ← Nat.pow_succ]; exact hd)]
      rw [show (n * b + i % b) * b ^ nd b f (i / b) + rv b f (i / b) = n * b ^ (nd b f (i / b) + 1) + (i % b * b ^ nd b f (i / b) + rv b f (i / b)) by rw [Nat.pow_succ]; grind,
        show d * b * b ^ nd b f (i / b) = d * b ^ (nd b f (i / b) + 1) by rw [Nat.pow_succ]; grind]

/-- The radical inverse of i modulo 2^32. -/
theorem rad_val {b i : Nat} (hb : 2 ≤ b) (hb' : b ≤ 29) : sampler_Radical.F b i = some (((rv b 32 (i % 2 ^ 32) : Nat) : Int), ((b ^ nd b 32 (i % 2 ^ 32) : Nat) : Int)) := by
  rw [sampler_Radical.F_eq]
  unfold sampler_Radical.F0
  rw [dif_ndec (by omega)]
  have hi : i % 2 ^ 32 < 2 ^ 32 := Nat.mod_lt _ (by omega)
  have hp : b ^ nd b 32 (i % 2 ^ 32) < 2 ^ 63 := by
    by_cases h0 : i % 2 ^ 32 = 0
    · rw [h0]; simp [nd]
    · have := nd_pow hb 32 (i % 2 ^ 32) (by omega)
      have h2 : i % 2 ^ 32 * b ≤ 2 ^ 32 * 29 := Nat.mul_le_mul (by omega) hb'
      omega
  have := rad_loop hb 32 (i % 2 ^ 32) 0 1 hi hi (by omega) (by omega)
  rw [show (4294967296 : Int) = ((2 ^ 32 : Nat) : Int) by decide, tmod_nat, show (0 : Int) = ((0 : Nat) : Int) by rfl, show (1 : Int) = ((1 : Nat) : Int) by rfl, this]
  simp
theorem rad_some {b i : Int} (hb : 0 ≤ b) (hb' : b ≤ 18446744073709551615) (hi : 0 ≤ i) : ∃ r, sampler_Radical.F b i = some r := by
  rw [sampler_Radical.F_eq]
  unfold sampler_Radical.F0
  by_cases h2 : b < 2
  · rw [dif_dec h2]; exact ⟨_, rfl⟩
  · rw [dif_ndec h2]
    have := loop_rule (step := sampler_Radical.p0.step) (fun s => 2 ≤ s.1 ∧ 0 ≤ s.2.1 ∧ s.2.1 < 4294967296) (fun _ => True) (fun s => s.2.1.toNat) (by
      rintro ⟨b, i, n, d⟩ ⟨h1, h2, h3⟩
      simp only [sampler_Radical.p0.step, sampler_Radical.p0.round] at h1 h2 h3 ⊢
      by_cases h0 : i > 0
      · rw [dif_dec h0, bif_pos (by simp; omega), bif_pos (by simp; omega)]
        refine .inl ⟨_, rfl, ?_, ?_⟩
        · have e : i.tdiv b = i / b := Int.tdiv_eq_ediv_of_nonneg h2
          have h4 : i / b < i := Int.ediv_lt_self_of_pos_of_ne_one h0 (by omega) 
          have h5 : 0 ≤ i / b := Int.ediv_nonneg h2 (by omega)
          simp only []
          rw [e, wu64 h5 (by omega)]
          exact ⟨h1, h5, by omega⟩
        · have e : i.tdiv b = i / b := Int.tdiv_eq_ediv_of_nonneg h2
          have h4 : i / b < i := Int.ediv_lt_self_of_pos_of_ne_one h0 (by omega) 
          have h5 : 0 ≤ i / b := Int.ediv_nonneg h2 (by omega)
          simp only []
          rw [e, wu64 h5 (by omega)]
          omega
      · rw [dif_ndec h0]
        exact .inr ⟨_, rfl, trivial⟩) (b, i.tmod 4294967296, 0, 1) ⟨by simp only []; omega, by simp only []; exact Int.tmod_nonneg _ hi, by simp only []; exact Int.tmod_lt_of_pos _ (by omega)⟩
    obtain ⟨o, ho, _⟩ := this
    rw [ho]
    exact ⟨_, rfl⟩
theorem radical_eq : armplanref23_Radical.F = sampler_Radical.F := by
  rw [sampler_Radical.F_eq, armplanref23_Radical.F_eq]
  rfl
theorem prime_eq : armplanref23_Prime.F = sampler_Prime.F := by
  rw [sampler_Prime.F_eq, armplanref23_Prime.F_eq]
  rfl
def primeN (k : Nat) : Nat := ([2, 3, 5, 7, 11, 13, 17, 19, 23, 29] : List Nat).getD k 0
theorem prime_val {k : Nat} (h : k < 10) : sampler_Prime.F (k : Int) = some ((primeN k : Nat) : Int) := by
  rw [sampler_Prime.F_eq]
  match k, h with
  | 0, _ | 1, _ | 2, _ | 3, _ | 4, _ | 5, _ | 6, _ | 7, _ | 8, _ | 9, _ => rfl
theorem prime_some (k : Int) : ∃ r, sampler_Prime.F k = some r := by
  rw [sampler_Prime.F_eq]
  unfold sampler_Prime.F0
  by_cases h1 : k < 0
  · rw [dif_dec h1]; exact ⟨_, rfl⟩
  · rw [dif_ndec h1]
    by_cases h2 : k ≥ 10
    · rw [dif_dec h2]; exact ⟨_, rfl⟩
    · rw [dif_ndec h2, dif_dec (by omega), dif_dec (by omega)]; exact ⟨_, rfl⟩

/-! ### Round -/
theorem round_val {a k : Int} (hk : 0 < k) (hk' : k ≤ 4611686018427387904) : armplanmake_Round.F a k = some (a % k) := by
  rw [armplanmake_Round.F_eq]
  unfold armplanmake_Round.F0
  rw [bif_pos (by simp; omega)]
  have h := Int.emod_nonneg a (show k ≠ 0 by omega)
  have h' := Int.emod_lt_of_pos a hk
  rcases Int.lt_or_le a 0 with ha | ha
  · have e : a.tmod k = if k ∣ a then 0 else a % k - k := by
      rw [Int.tmod_eq_emod]
      have : ¬ 0 ≤ a := by omega
      by_cases hd : k ∣ a
      · simp [hd, Int.emod_eq_zero_of_dvd hd]
      · simp [this, hd]; omega
    rw [e]
    split
    · rename_i hd
      rw [dif_ndec (by omega), Int.emod_eq_zero_of_dvd hd]
    · rename_i hd
      rw [dif_dec (by omega), w64 (by omega) (by omega)]
      congr 1; omega
  · rw [Int.tmod_eq_emod_of_nonneg ha, dif_ndec (by omega)]
end Go.Abs
