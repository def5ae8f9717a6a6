/- A part of the proof that the text with the row names: printed readings of functions, or plain lemmas about them. -/
import Derived.Test.YtcljanaleeapnaaDoorL5
import Derived.Test.YtcljanaleeapnaaDoorM3
set_option linter.unusedVariables false
set_option linter.unusedSimpArgs false
namespace Go.Abs
open Go

def netA (p q a b : Nat) (i : Nat) : Nat := lead p a i * q ^ b + lead q b i
theorem netA_lt {p q a b : Nat} (hp : 2 ≤ p) (hq : 2 ≤ q) (i : Nat) : netA p q a b i < p ^ a * q ^ b := by
  unfold netA
  have h1 := lead_lt hp a i
  have h2 := lead_lt hq b i
  calc lead p a i * q ^ b + lead q b i < lead p a i * q ^ b + q ^ b := by omega
    _ = (lead p a i + 1) * q ^ b := by rw [Nat.succ_mul]
    _ ≤ p ^ a * q ^ b := Nat.mul_le_mul_right _ h1
theorem netA_inj {p q a b f : Nat} (hp : 2 ≤ p) (hq : 2 ≤ q) (hc : Nat.Coprime p q) {i j : Nat} (hj : f ≤ j) (hji : j < i) (hi : i < f + p ^ a * q ^ b) (h : netA p q a b j = netA p q a b i) : False := by
  unfold netA at h
  have hqp : 0 < q ^ b := Nat.pow_pos (by omega)
  have e1 : (lead p a j * q ^ b + lead q b j) / q ^ b = lead p a j := by rw [Nat.mul_comm, Nat.mul_add_div hqp, Nat.div_eq_of_lt (lead_lt hq b j)]; omega
  have e2 : (lead p a i * q ^ b + lead q b i) / q ^ b = lead p a i := by rw [Nat.mul_comm, Nat.mul_add_div hqp, Nat.div_eq_of_lt (lead_lt hq b i)]; omega
  have h1 : lead p a j = lead p a i := by rw [← e1, h, e2]
  have h2 : lead q b j = lead q b i := by rw [h1] at h; omega
  have d1 : p ^ a ∣ i - j := Nat.dvd_of_mod_eq_zero (Nat.sub_mod_eq_zero_of_mod_eq (lead_inj hp a j i h1).symm)
  have d2 : q ^ b ∣ i - j := Nat.dvd_of_mod_eq_zero (Nat.sub_mod_eq_zero_of_mod_eq (lead_inj hq b j i h2).symm)
  have d3 : p ^ a * q ^ b ∣ i - j := Nat.Coprime.mul_dvd_of_dvd_of_dvd (Nat.Coprime.pow _ _ hc) d1 d2
  have := Nat.le_of_dvd (by omega) d3
  omega

theorem net_step {p q a b f i : Nat} {s : List Bool} (hp : 2 ≤ p) (hp' : p ≤ 29) (hq : 2 ≤ q) (hq' : q ≤ 29) (hn : p ^ a ≤ 2 ^ 20) (hm : q ^ b ≤ 2 ^ 20) (hnm : p ^ a * q ^ b ≤ 2 ^ 30) (hf : f < 2 ^ 31) (hi : i < f + p ^ a * q ^ b) (hl : s.length = p ^ a * q ^ b) (hs : s.getD (netA p q a b i) false = false) :
    armplanlaw23_SamplerNet.p0.step ((p : Int), (q : Int), ((p ^ a : Nat) : Int), ((q ^ b : Nat) : Int), (f : Int), (i : Int), s) = some (.inl ((p : Int), (q : Int), ((p ^ a : Nat) : Int), ((q ^ b : Nat) : Int), (f : Int), ((i + 1 : Nat) : Int), s.set (netA p q a b i) true)) := by
  unfold armplanlaw23_SamplerNet.p0.step armplanlaw23_SamplerNet.p0.round
  have hi32 : i < 2 ^ 32 := by omega
  have h1 := rv_lt hp 32 i
  have h2 := den_pos (i := i) hp
  have h3 := lead_lt hp a i
  have h1' := rv_lt hq 32 i
  have h2' := den_pos (i := i) hq
  have h3' := lead_lt hq b i
  have hA := netA_lt (a := a) (b := b) hp hq i
  have hle := den_le hp hp' hi32
  have hle' := den_le hq hq' hi32
  have hat := at_val (m := a) hp hp' hi32 hn
  have hat' := at_val (m := b) hq hq' hi32 hm
  have hcnt : IntKind.wrap .u64 ((f : Int) + IntKind.wrap .u64 (((p ^ a : Nat) : Int) * ((q ^ b : Nat) : Int))) = ((f + p ^ a * q ^ b : Nat) : Int) := by
    rw [← Int.natCast_mul, wu64_nat, Nat.mod_eq_of_lt (by omega), ← Int.natCast_add, wu64_nat, Nat.mod_eq_of_lt (by omega)]
  have hL : lead p a i * q ^ b ≤ netA p q a b i := Nat.le_add_right _ _
  have hA2 : IntKind.wrap .u64 (IntKind.wrap .u64 (((lead p a i : Nat) : Int) * ((q ^ b : Nat) : Int)) + ((lead q b i : Nat) : Int)) = ((netA p q a b i : Nat) : Int) := by
    rw [← Int.natCast_mul, wu64_nat, Nat.mod_eq_of_lt (by omega), ← Int.natCast_add, wu64_nat, Nat.mod_eq_of_lt (by unfold netA at hA; omega)]
    rfl
  simp only []
  rw [hcnt, dif_dec (by omega), rad_val hp hp', Option.bind_some, rad_val hq hq', Option.bind_some, Nat.mod_eq_of_lt (by omega)]
  simp only []
  rw [hat, hat', hA2]
  rw [bif_neq (by omega), dif_ndec (by omega), bif_neq (by omega), dif_ndec (by omega), dif_ndec (by omega), dif_ndec (by omega), bif_ne (by omega), bif_ne (by omega), dif_dec (by omega), dif_dec (by omega)]
  rw [Int.toNat_natCast, hs, cond_false, dif_dec (by omega), dif_dec (by omega)]
  rw [wu64 (by omega) (by omega)]
  rfl
theorem net_loop {p q a b f : Nat} (hp : 2 ≤ p) (hp' : p ≤ 29) (hq : 2 ≤ q) (hq' : q ≤ 29) (hc : Nat.Coprime p q) (hn : p ^ a ≤ 2 ^ 20) (hm : q ^ b ≤ 2 ^ 20) (hnm : p ^ a * q ^ b ≤ 2 ^ 30) (hf : f < 2 ^ 31) :
    loopF armplanlaw23_SamplerNet.p0.step ((p : Int), (q : Int), ((p ^ a : Nat) : Int), ((q ^ b : Nat) : Int), (f : Int), (f : Int), List.replicate (p ^ a * q ^ b) false) = some (Sum.inr ()) := by
  have hloop : ∃ o, loopF armplanlaw23_SamplerNet.p0.step ((p : Int), (q : Int), ((p ^ a : Nat) : Int), ((q ^ b : Nat) : Int), (f : Int), (f : Int), List.replicate (p ^ a * q ^ b) false) = some o ∧ o = Sum.inr () := by
    refine loop_rule (fun st => ∃ (i : Nat) (s : List Bool), st = ((p : Int), (q : Int), ((p ^ a : Nat) : Int), ((q ^ b : Nat) : Int), (f : Int), (i : Int), s) ∧ f ≤ i ∧ i ≤ f + p ^ a * q ^ b ∧ Marks (netA p q a b) (p ^ a * q ^ b) f i s) (fun o => o = Sum.inr ()) (fun st => (f + p ^ a * q ^ b - st.2.2.2.2.2.1.toNat)) ?_ _ ⟨f, _, rfl, Nat.le_refl _, by omega, Marks.start _ _ _⟩
    rintro _ ⟨i, s, rfl, hfi, hi, hM⟩
    by_cases h : i < f + p ^ a * q ^ b
    · refine .inl ⟨_, net_step hp hp' hq hq' hn hm hnm hf h hM.len (hM.free fun j hj hji e => netA_inj hp hq hc hj hji h e), ⟨i + 1, _, rfl, by omega, h, hM.next hfi⟩, ?_⟩
      simp only [Int.toNat_natCast]
      omega
    · refine .inr ⟨_, ?_, rfl⟩
      unfold armplanlaw23_SamplerNet.p0.step armplanlaw23_SamplerNet.p0.round
      simp only []
      rw [dif_ndec]
      rw [← Int.natCast_mul, wu64_nat, Nat.mod_eq_of_lt (by omega), ← Int.natCast_add, wu64_nat, Nat.mod_eq_of_lt (by omega)]
      omega
  obtain ⟨o, ho, rfl⟩ := hloop
  exact ho
theorem prime_facts : ∀ x : Nat, x < 4 → 2 ≤ primeN x ∧ primeN x ≤ 7 := by decide
theorem prime_coprime : ∀ x : Nat, x < 4 → ∀ y : Nat, y < 4 → x ≠ y → Nat.Coprime (primeN x) (primeN y) := by decide
theorem net_core {x y α β f : Nat} (hx : x < 4) (hy : y < 4) (hxy : x ≠ y) (ha : α < 3) (hb : β < 3) (hf : f < 2 ^ 31) :
    armplanlaw23_power.F ((primeN x : Nat) : Int) (α : Int) = some (((primeN x) ^ α : Nat) : Int) ∧ armplanlaw23_power.F ((primeN y : Nat) : Int) (β : Int) = some (((primeN y) ^ β : Nat) : Int) ∧
    loopF armplanlaw23_SamplerNet.p0.step (((primeN x : Nat) : Int), ((primeN y : Nat) : Int), ((primeN x ^ α : Nat) : Int), ((primeN y ^ β : Nat) : Int), (f : Int), (f : Int), List.replicate (primeN x ^ α * primeN y ^ β) false) = some (Sum.inr ()) ∧ primeN x ^ α * primeN y ^ β ≤ 2 ^ 30 := by
  obtain ⟨h1, h2⟩ := prime_facts x hx
  obtain ⟨h3, h4⟩ := prime_facts y hy
  have e : ∀ c γ : Nat, c ≤ 7 → 2 ≤ c → γ < 3 → c ^ γ ≤ 49 := by
    intro c γ h h' hg
    calc c ^ γ ≤ 7 ^ γ := Nat.pow_le_pow_left h γ
      _ ≤ 7 ^ 2 := Nat.pow_le_pow_right (by omega) (by omega)
  have e1 := e _ α h2 h1 ha
  have e2 := e _ β h4 h3 hb
  have e3 : primeN x ^ α * primeN y ^ β ≤ 49 * 49 := Nat.mul_le_mul e1 e2
  exact ⟨power_F (by omega) (by omega) (by omega), power_F (by omega) (by omega) (by omega), net_loop h1 (by omega) h3 (by omega) (prime_coprime x hx y hy hxy) (by omega) (by omega) (by omega) hf, by omega⟩
theorem net_true (j k a b : Int) {s : Int} (hs : 0 ≤ s) (hs' : s ≤ 4294967295) : armplanlaw23_SamplerNet.F j k a b s = some true := by
  rw [armplanlaw23_SamplerNet.F_eq]
  unfold armplanlaw23_SamplerNet.F0
  simp only [round_val (show (0 : Int) < 4 by decide) (by decide), round_val (show (0 : Int) < 3 by decide) (by decide), Option.bind_some, prime_eq]
  have n4 : ∀ z : Int, ∃ n : Nat, z % 4 = n ∧ n < 4 := fun z => ⟨(z % 4).toNat, by omega, by omega⟩
  have n3 : ∀ z : Int, ∃ n : Nat, z % 3 = n ∧ n < 3 := fun z => ⟨(z % 3).toNat, by omega, by omega⟩
  obtain ⟨x, ex, hx⟩ := n4 j
  obtain ⟨y, ey, hy⟩ := n3 k
  obtain ⟨α, ea, ha⟩ := n3 a
  obtain ⟨β, eb, hb⟩ := n3 b
  obtain ⟨f, ef, hf⟩ : ∃ f : Nat, (IntKind.wrap .u64 s).tmod 2147483648 = f ∧ f < 2 ^ 31 := by
    rw [wu64 hs (by omega), Int.tmod_eq_emod_of_nonneg hs]
    exact ⟨(s % 2147483648).toNat, by omega, by omega⟩
  rw [ex, ey, ea, eb, ef]
  have fin : ∀ z : Nat, z < 4 → x ≠ z → ∀ r : Int, r = (z : Int) →
      ((sampler_Prime.F (x : Int)).bind fun r3 => (sampler_Prime.F r).bind fun r4 => (armplanlaw23_power.F r3 (α : Int)).bind fun r6 => (armplanlaw23_power.F r4 (β : Int)).bind fun r8 =>
        bif decide (0 ≤ IntKind.wrap .u64 (r6 * r8)) then bif decide ((IntKind.wrap .u64 (r6 * r8)).toNat ≤ 140737488355328 / 1) then
          (loopF armplanlaw23_SamplerNet.p0.step (r3, r4, r6, r8, (f : Int), (f : Int), List.replicate (IntKind.wrap .u64 (r6 * r8)).toNat false)).bind fun y13 => Sum.elim (fun y14 => some y14) (fun z15 => (armplanlaw23_awake.F ()).bind fun r16 => some r16) y13 else none else none) = some true := by
    rintro z hz hxz r rfl
    obtain ⟨h1, h2, h3, h4⟩ := net_core (f := f) (α := α) (β := β) hx hz hxz ha hb hf
    rw [prime_val (by omega), Option.bind_some, prime_val (by omega), Option.bind_some]
    have hw : IntKind.wrap .u64 (((primeN x ^ α : Nat) : Int) * ((primeN z ^ β : Nat) : Int)) = ((primeN x ^ α * primeN z ^ β : Nat) : Int) := by
      rw [← Int.natCast_mul, wu64_nat, Nat.mod_eq_of_lt (by omega)]
    rw [h1, Option.bind_some, h2, Option.bind_some, hw, dif_dec (by omega), dif_dec (by omega), Int.toNat_natCast, h3]
    simp only [Option.bind_some, Sum.elim_inr, awake_true]
  by_cases h : (y : Int) ≥ x
  · rw [dif_dec h]
    exact fin (y + 1) (by omega) (by omega) _ (by rw [w64 (by omega) (by omega)]; rfl)
  · rw [dif_ndec h]
    exact fin y (by omega) (by omega) _ rfl
theorem net_good (x : Int × Int × Int × Int × Int × Unit) (g : GoodAll [.lf (.int .i64), .lf (.int .i64), .lf (.int .i64), .lf (.int .i64), .lf (.int .u32)] x) : armplanlaw23_SamplerNet.F x.1 x.2.1 x.2.2.1 x.2.2.2.1 x.2.2.2.2.1 = some true := by
  obtain ⟨_, _, _, _, ⟨h1, h2⟩, _⟩ := g
  simp only [maxu32, minu32] at h1 h2
  exact net_true _ _ _ _ h1 h2
end Go.Abs
