/- A part of the proof that the text with the row names: printed readings of functions, or plain lemmas about them. -/
import Derived.Test.YtceacicpjgffgaaC41M3
set_option linter.unusedVariables false
set_option linter.unusedSimpArgs false
namespace Go.Abs
open Go
theorem shr_nat (a k : Nat) (hk : k ≤ 64) : shrI .u64 (a : Int) (k : Int) = ((a / 2 ^ k : Nat) : Int) := by
  unfold shrI
  rw [show min ((k : Int).toNat) (IntKind.bits .u64) = k by simp [IntKind.bits]; omega]
  rw [show (2 ^ k : Int) = ((2 ^ k : Nat) : Int) by push_cast; rfl]
  exact (Int.ofNat_fdiv _ _).symm
theorem and_mask (a : Nat) (ha : a < 2 ^ 64) : ibits .and .u64 (a : Int) 4294967295 = ((a % 2 ^ 32 : Nat) : Int) := by
  show IntKind.wrap .u64 ((BitVec.ofInt 64 (a : Int) &&& BitVec.ofInt 64 4294967295).toNat : Int) = _
  rw [BitVec.toNat_and]
  have e1 : (BitVec.ofInt 64 (a : Int)).toNat = a := by simp; omega
  have e2 : (BitVec.ofInt 64 4294967295).toNat = 2 ^ 32 - 1 := by decide
  rw [e1, e2, Nat.and_two_pow_sub_one_eq_mod, wu64_nat, Nat.mod_eq_of_lt (by omega)]
theorem mul64_val {a b : Nat} (ha : a < 2 ^ 64) (hb : b < 2 ^ 64) : bits_Mul64.F (a : Int) (b : Int) = some (((a * b / 2 ^ 64 : Nat) : Int), ((a * b % 2 ^ 64 : Nat) : Int)) := by
  rw [bits_Mul64.F_eq]
  unfold bits_Mul64.F0
  rw [show (32 : Int) = ((32 : Nat) : Int) from rfl]
  simp only [shr_nat a 32 (by decide), shr_nat b 32 (by decide), and_mask a ha, and_mask b hb]
  have hx1 : a / 2 ^ 32 ≤ 4294967295 := by omega
  have hy1 : b / 2 ^ 32 ≤ 4294967295 := by omega
  have hx0 : a % 2 ^ 32 ≤ 4294967295 := by omega
  have hy0 : b % 2 ^ 32 ≤ 4294967295 := by omega
  have h11 := Nat.mul_le_mul hx1 hy1
  have h10 := Nat.mul_le_mul hx1 hy0
  have h01 := Nat.mul_le_mul hx0 hy1
  have h00 := Nat.mul_le_mul hx0 hy0
  have hab : a * b = a / 2 ^ 32 * (b / 2 ^ 32) * 18446744073709551616 + (a / 2 ^ 32 * (b % 2 ^ 32) + a % 2 ^ 32 * (b / 2 ^ 32)) * 4294967296 + a % 2 ^ 32 * (b % 2 ^ 32) := by
    have e1 : a = a / 2 ^ 32 * 4294967296 + a % 2 ^ 32 := by omega
    have e2 : b = b / 2 ^ 32 * 4294967296 + b % 2 ^ 32 := by omega
    generalize a / 2 ^ 32 = x1 at *
    generalize a % 2 ^ 32 = x0 at *
    generalize b / 2 ^ 32 = y1 at *
    generalize b % 2 ^ 32 = y0 at *
    subst e1 e2
    grind
  have hlo : IntKind.wrap .u64 ((a : Int) * (b : Int)) = ((a * b % 2 ^ 64 : Nat) : Int) := by rw [← Int.natCast_mul, wu64_nat]
  rw [hlo, hab]
  simp only [← Int.natCast_mul]
  generalize a / 2 ^ 32 * (b / 2 ^ 32) = P11 at *
  generalize a / 2 ^ 32 * (b % 2 ^ 32) = P10 at *
  generalize a % 2 ^ 32 * (b / 2 ^ 32) = P01 at *
  generalize a % 2 ^ 32 * (b % 2 ^ 32) = P00 at *
  rw [wu64_nat P00, wu64_nat P10, wu64_nat P01, wu64_nat P11, Nat.mod_eq_of_lt (a := P00) (by omega), Nat.mod_eq_of_lt (a := P10) (by omega), Nat.mod_eq_of_lt (a := P01) (by omega), Nat.mod_eq_of_lt (a := P11) (by omega)]
  rw [shr_nat P00 32 (by decide), ← Int.natCast_add, wu64_nat, Nat.mod_eq_of_lt (a := P10 + P00 / 2 ^ 32) (by omega), shr_nat (P10 + P00 / 2 ^ 32) 32 (by decide), and_mask _ (by omega), ← Int.natCast_add, ← Int.natCast_add, wu64_nat, wu64_nat,
    Nat.mod_eq_of_lt (a := (P10 + P00 / 2 ^ 32) % 2 ^ 32 + P01) (by omega), shr_nat _ 32 (by decide), Nat.mod_eq_of_lt (a := P11 + (P10 + P00 / 2 ^ 32) / 2 ^ 32) (by omega), ← Int.natCast_add, wu64_nat]
  congr 3
  omega

theorem repeat_loop {n : Nat} (hn : n ≤ 16384) : ∀ (f k : Nat), 1 ≤ k → k ≤ n → n ≤ k + f →
    loopF slices_Repeat_bool.p0.step ((k : Int), List.replicate k true ++ List.replicate (n - k) false) = some (List.replicate n true)
  | 0, k, h1, h2, h3 => by
    obtain rfl : k = n := by omega
    refine loop_end ?_
    unfold slices_Repeat_bool.p0.step slices_Repeat_bool.p0.round
    simp only [Nat.sub_self, List.replicate_zero, List.append_nil, List.length_replicate]
    simp (disch := omega) only [dif_dec, dif_ndec, bif_eq, bif_neq, bif_ne, bif_nne, w64, wu64, Int.toNat_natCast, Option.bind_some, cond_true, cond_false, Bool.not_true, Bool.not_false, Sum.elim_inl, Sum.elim_inr]
  | f + 1, k, h1, h2, h3 => by
    by_cases e : k = n
    · exact repeat_loop hn 0 k h1 h2 (by omega)
    · have ha : (List.replicate k true ++ List.replicate (n - k) false).length = n := by simp; omega
      have ht : ((List.replicate k true ++ List.replicate (n - k) false).drop 0).take (k - 0) = List.replicate k true := by
        rw [List.drop_zero, Nat.sub_zero]
        exact List.take_left' (by simp)
      have ih := repeat_loop hn f (k + min k (n - k)) (by omega) (by omega) (by omega)
      refine loop_next ?_ ih
      unfold slices_Repeat_bool.p0.step slices_Repeat_bool.p0.round
      simp only [ha, Int.toNat_natCast, ht, List.length_replicate]
      have e1 : (List.replicate k true ++ List.replicate (n - k) false).take k ++ ((List.replicate k true).take (n - k) ++ (List.replicate k true ++ List.replicate (n - k) false).drop (k + Nat.min k (n - k))) = List.replicate (k + min k (n - k)) true ++ List.replicate (n - (k + min k (n - k))) false := by
        have q1 : (List.replicate k true ++ List.replicate (n - k) false).take k = List.replicate k true := List.take_left' (by simp)
        have q2 : (List.replicate k true ++ List.replicate (n - k) false).drop (k + Nat.min k (n - k)) = List.replicate (n - (k + min k (n - k))) false := by
          rw [List.drop_append, List.length_replicate, List.drop_of_length_le (by simp), List.nil_append, List.drop_replicate]
          congr 1
          show n - k - (k + min k (n - k) - k) = _
          omega
        rw [q1, q2, List.take_replicate, ← List.append_assoc, List.replicate_append_replicate]
        congr 2
        omega
      rw [e1]
      have e2 : ((Nat.min k (n - k) : Nat) : Int) = ((min k (n - k) : Nat) : Int) := rfl
      rw [e2]
      simp (disch := omega) only [dif_dec, dif_ndec, bif_eq, bif_neq, bif_ne, bif_nne, w64, wu64, Int.toNat_natCast, Option.bind_some, cond_true, cond_false, Bool.not_true, Bool.not_false, Sum.elim_inl, Sum.elim_inr]
      rfl
theorem repeat_val {n : Nat} (hn : n ≤ 16384) : slices_Repeat_bool.F [true] (n : Int) = some (List.replicate n true) := by
  rw [slices_Repeat_bool.F_eq]
  unfold slices_Repeat_bool.F0
  have hm : bits_Mul.F ((1 : Nat) : Int) (n : Int) = some (((1 * n / 2 ^ 64 : Nat) : Int), ((1 * n % 2 ^ 64 : Nat) : Int)) := by
    rw [bits_Mul.F_eq]
    unfold bits_Mul.F0
    rw [mul64_val (a := 1) (b := n) (by omega) (by omega)]
    rfl
  rw [dif_ndec (by omega), show IntKind.wrap .u64 ((([true] : List Bool).length : Nat) : Int) = ((1 : Nat) : Int) from rfl, wu64 (by omega) (by omega), hm, Option.bind_some]
  have e0 : 1 * n / 2 ^ 64 = 0 := by omega
  have e1 : 1 * n % 2 ^ 64 = n := by omega
  simp only [e0, e1]
  simp (disch := omega) only [dif_dec, dif_ndec, bif_eq, bif_neq, bif_ne, bif_nne, w64, wu64, Int.toNat_natCast, Option.bind_some, cond_true, cond_false, Bool.not_true, Bool.not_false, Sum.elim_inl, Sum.elim_inr]
  rw [List.length_replicate]
  by_cases h : n = 0
  · subst h
    rw [loop_end (r := []) (by kernel_rfl)]
    rfl
  · have e2 : (List.replicate n false).take 0 ++ (([true] : List Bool).take n ++ (List.replicate n false).drop (0 + Nat.min ([true] : List Bool).length n)) = List.replicate 1 true ++ List.replicate (n - 1) false := by
      have m : Nat.min ([true] : List Bool).length n = 1 := by show min 1 n = 1; omega
      rw [m, List.take_zero, List.nil_append, List.drop_replicate, List.take_of_length_le (by simp; omega)]
      rfl
    have e3 : ((Nat.min ([true] : List Bool).length n : Nat) : Int) = ((1 : Nat) : Int) := by
      show ((min 1 n : Nat) : Int) = _
      omega
    rw [e2, e3, repeat_loop hn n 1 (by omega) (by omega) (by omega)]
    rfl
theorem containsB_val {l : List Bool} (hl : l.length ≤ 2 ^ 60) : slices_Contains_bool.F l true = some (anyB (fun i => l.getD i false) 0 l.length) := by
  rw [slices_Contains_bool.F_eq]
  unfold slices_Contains_bool.F0
  rw [slices_Index_bool.F_eq]
  unfold slices_Index_bool.F0
  have h := loop_find (step := slices_Index_bool.p0.step) (fun i : Nat => (l, true, (l.length : Int), (i : Int))) l.length (fun i => bif (fun i => l.getD i false) i then some (.inl (i : Int)) else none) (.inr ()) (by
    intro i hi
    unfold slices_Index_bool.p0.step slices_Index_bool.p0.round
    simp only []
    simp (disch := omega) only [dif_dec, dif_ndec, bif_eq, bif_neq, bif_ne, bif_nne, w64, wu64, Int.toNat_natCast, Option.bind_some, cond_true, cond_false, Bool.not_true, Bool.not_false, Sum.elim_inl, Sum.elim_inr]
    cases l.getD i false <;> rfl) (by
    unfold slices_Index_bool.p0.step slices_Index_bool.p0.round
    simp only []
    simp (disch := omega) only [dif_dec, dif_ndec, bif_eq, bif_neq, bif_ne, bif_nne, w64, wu64, Int.toNat_natCast, Option.bind_some, cond_true, cond_false, Bool.not_true, Bool.not_false, Sum.elim_inl, Sum.elim_inr]) l.length 0 (by omega)
  rw [show ((0 : Nat) : Int) = 0 from rfl] at h
  obtain ⟨v, e1, e2⟩ := idx_any (fun i => l.getD i false) l.length 0
  rw [h, Option.bind_some, e1]
  simp only [Option.bind_some, e2]

/-! ### Wake -/
def wakeP (rows : List RT) (look : List Bool) (i k : Nat) : List Bool := (List.range look.length).map fun j => look.getD j false || (decide (j < k) && depB (rows.getD j R0) i)
theorem wakeP_get {rows : List RT} {lk : List Bool} {i k j : Nat} (h : j < lk.length) : (wakeP rows lk i k).getD j false = (lk.getD j false || (decide (j < k) && depB (rows.getD j R0) i)) := by
  unfold wakeP
  rw [List.getD_eq_getElem?_getD, List.getElem?_map, List.getElem?_range h, Option.map_some]
  rfl
theorem wakeP_length {rows : List RT} {lk : List Bool} {i k : Nat} : (wakeP rows lk i k).length = lk.length := by unfold wakeP; simp
theorem ext_getD {α : Type} {d : α} {x y : List α} (h : x.length = y.length) (hh : ∀ i, i < x.length → x.getD i d = y.getD i d) : x = y := by
  refine List.ext_getElem h fun i h1 h2 => ?_
  have := hh i h1
  rwa [List.getD_eq_getElem?_getD, List.getD_eq_getElem?_getD, List.getElem?_eq_getElem h1, List.getElem?_eq_getElem h2] at this
theorem wakeP_on {rows : List RT} {lk : List Bool} {i k : Nat} (hk : k < lk.length) (h : depB (rows.getD k R0) i = true) : (wakeP rows lk i k).set k true = wakeP rows lk i (k + 1) := by
  refine ext_getD (d := false) (by rw [List.length_set, wakeP_length, wakeP_length]) fun j hj => ?_
  rw [List.length_set, wakeP_length] at hj
  rw [getD_set (by rw [wakeP_length]; exact hk), wakeP_get hj, wakeP_get hj]
  by_cases e : k = j
  · subst e
    rw [if_pos rfl, h, decide_eq_true (show k < k + 1 by omega)]
    cases lk.getD k false <;> rfl
  · rw [if_neg e]
    have : decide (j < k) = decide (j < k + 1) := by
      by_cases c : j < k
      · rw [decide_eq_true c, decide_eq_true (by omega)]
      · rw [decide_eq_false c, decide_eq_false (by omega)]
    rw [this]
theorem wakeP_off {rows : List RT} {lk : List Bool} {i k : Nat} (h : depB (rows.getD k R0) i = false) : wakeP rows lk i k = wakeP rows lk i (k + 1) := by
  refine ext_getD (d := false) (by rw [wakeP_length, wakeP_length]) fun j hj => ?_
  rw [wakeP_length] at hj
  rw [wakeP_get hj, wakeP_get hj]
  by_cases e : k = j
  · subst e
    rw [h, Bool.and_false, Bool.and_false]
  · have : decide (j < k) = decide (j < k + 1) := by
      by_cases c : j < k
      · rw [decide_eq_true c, decide_eq_true (by omega)]
      · rw [decide_eq_false c, decide_eq_false (by omega)]
    rw [this]
theorem wake_val {n : Nat} {rows : List RT} (hr : RowsP n rows) (hn : n ≤ 65) (hrl : rows.length ≤ 16384) {lk : List Bool} (hl : lk.length = rows.length) (i : Nat) : profile_wake.F rows (i : Int) lk = some (wakeL rows lk i) := by
  rw [profile_wake.F_eq]
  unfold profile_wake.F0
  have h := loop_count (step := profile_wake.p0.step) (fun k : Nat => ((i : Int), rows, (rows.length : Int), (k : Int), wakeP rows lk i k)) rows.length (wakeP rows lk i rows.length) (by
    intro k hk
    have hv := hr k hk
    have hlo : 0 ≤ (rows.getD k ((0 : Int), ((0 : Int), ((0 : Int), (0 : Int))))).1 := hv.lo
    have hhi : (rows.getD k ((0 : Int), ((0 : Int), ((0 : Int), (0 : Int))))).1 ≤ (n : Int) - 2 := hv.hi
    have hwl := wakeP_length (rows := rows) (lk := lk) (i := i) (k := k)
    unfold profile_wake.p0.step profile_wake.p0.round
    simp only [hwl]
    by_cases hd : depB (rows.getD k ((0 : Int), ((0 : Int), ((0 : Int), (0 : Int))))) i = true
    · rw [← wakeP_on (by omega) hd]
      unfold depB at hd
      by_cases a : 0 < (rows.getD k ((0 : Int), ((0 : Int), ((0 : Int), (0 : Int))))).2.1
      · by_cases b : (rows.getD k ((0 : Int), ((0 : Int), ((0 : Int), (0 : Int))))).1 + 1 = (i : Int)
        · simp (disch := omega) only [dif_dec, dif_ndec, bif_eq, bif_neq, bif_ne, bif_nne, w64, wu64, Int.toNat_natCast, Option.bind_some, cond_true, cond_false, Bool.not_true, Bool.not_false, Sum.elim_inl, Sum.elim_inr]
          rfl
        · rw [decide_eq_true a, decide_eq_false (show ¬ (rows.getD k ((0 : Int), ((0 : Int), ((0 : Int), (0 : Int))))).1.toNat + 1 = i by omega), Bool.and_false, Bool.false_or, Bool.and_eq_true] at hd
          have c := of_decide_eq_true hd.1
          have d := of_decide_eq_true hd.2
          simp (disch := omega) only [dif_dec, dif_ndec, bif_eq, bif_neq, bif_ne, bif_nne, w64, wu64, Int.toNat_natCast, Option.bind_some, cond_true, cond_false, Bool.not_true, Bool.not_false, Sum.elim_inl, Sum.elim_inr]
          rfl
      · rw [decide_eq_false a, Bool.false_and, Bool.false_or, Bool.and_eq_true] at hd
        have c := of_decide_eq_true hd.1
        have d := of_decide_eq_true hd.2
        simp (disch := omega) only [dif_dec, dif_ndec, bif_eq, bif_neq, bif_ne, bif_nne, w64, wu64, Int.toNat_natCast, Option.bind_some, cond_true, cond_false, Bool.not_true, Bool.not_false, Sum.elim_inl, Sum.elim_inr]
        rfl
    · have hd : depB (rows.getD k ((0 : Int), ((0 : Int), ((0 : Int), (0 : Int))))) i = false := by simpa using hd
      rw [← wakeP_off hd]
      unfold depB at hd
      rw [Bool.or_eq_false_iff, Bool.and_eq_false_iff, Bool.and_eq_false_iff, decide_eq_false_iff_not, decide_eq_false_iff_not, decide_eq_false_iff_not, decide_eq_false_iff_not] at hd
      by_cases a : 0 < (rows.getD k ((0 : Int), ((0 : Int), ((0 : Int), (0 : Int))))).2.1
      · by_cases c : 0 < (rows.getD k ((0 : Int), ((0 : Int), ((0 : Int), (0 : Int))))).2.2.1
        · simp (disch := omega) only [dif_dec, dif_ndec, bif_eq, bif_neq, bif_ne, bif_nne, w64, wu64, Int.toNat_natCast, Option.bind_some, cond_true, cond_false, Bool.not_true, Bool.not_false, Sum.elim_inl, Sum.elim_inr]
          rfl
        · simp (disch := omega) only [dif_dec, dif_ndec, bif_eq, bif_neq, bif_ne, bif_nne, w64, wu64, Int.toNat_natCast, Option.bind_some, cond_true, cond_false, Bool.not_true, Bool.not_false, Sum.elim_inl, Sum.elim_inr]
          rfl
      · by_cases c : 0 < (rows.getD k ((0 : Int), ((0 : Int), ((0 : Int), (0 : Int))))).2.2.1
        · simp (disch := omega) only [dif_dec, dif_ndec, bif_eq, bif_neq, bif_ne, bif_nne, w64, wu64, Int.toNat_natCast, Option.bind_some, cond_true, cond_false, Bool.not_true, Bool.not_false, Sum.elim_inl, Sum.elim_inr]
          rfl
        · simp (disch := omega) only [dif_dec, dif_ndec, bif_eq, bif_neq, bif_ne, bif_nne, w64, wu64, Int.toNat_natCast, Option.bind_some, cond_true, cond_false, Bool.not_true, Bool.not_false, Sum.elim_inl, Sum.elim_inr]
          rfl) (by
    unfold profile_wake.p0.step profile_wake.p0.round
    simp only []
    simp (disch := omega) only [dif_dec, dif_ndec, bif_eq, bif_neq, bif_ne, bif_nne, w64, wu64, Int.toNat_natCast, Option.bind_some, cond_true, cond_false, Bool.not_true, Bool.not_false, Sum.elim_inl, Sum.elim_inr]) rows.length 0 (by omega)
  have e0 : wakeP rows lk i 0 = lk := by
    refine ext_getD (d := false) wakeP_length fun j hj => ?_
    rw [wakeP_length] at hj
    rw [wakeP_get hj, decide_eq_false (by omega), Bool.false_and, Bool.or_false]
  rw [show ((0 : Nat) : Int) = 0 from rfl, e0] at h
  rw [h]
  rfl

/-! ### Greatest -/
theorem pg_row {n : Nat} {rows : List RT} (hr : RowsP n rows) (hn : n ≤ 65) (hrl : rows.length ≤ 16384) : ∀ (m k : Nat) (x s : List Int) (lk : List Bool), k + m = rows.length → Lev n x → lk.length = rows.length → s.length ≤ 16384 →
    loopF profile_Greatest.p1.step (rows, rows, (rows.length : Int), (k : Int), lk, s, x) = some (match psweep rows m k x s lk with | .inl e => .inl (e.2.2, e.2.1) | .inr (x', (s', lk')) => .inr (rows, lk', s', x'))
  | 0, k, x, s, lk, hm, hx, hl, hs => by
    refine loop_end ?_
    unfold profile_Greatest.p1.step profile_Greatest.p1.round
    simp only []
    simp (disch := omega) only [dif_dec, dif_ndec, bif_eq, bif_neq, bif_ne, bif_nne, w64, wu64, Int.toNat_natCast, Option.bind_some, cond_true, cond_false, Bool.not_true, Bool.not_false, Sum.elim_inl, Sum.elim_inr]
    rfl
  | m + 1, k, x, s, lk, hm, hx, hl, hs => by
    have hk : k < rows.length := by omega
    have hxl := hx.1
    have ht := tgt_lt (hr k hk)
    have hset : (lk.set k false).length = rows.length := by rw [List.length_set]; exact hl
    have hbok := bndOk_of (hr k hk) (lev_lev1 hx)
    rw [psweep]
    cases hlk : lk.getD k false with
    | false =>
      rw [cond_false, ← pg_row hr hn hrl m (k + 1) x s lk (by omega) hx hl hs]
      refine loop_next ?_ rfl
      unfold profile_Greatest.p1.step profile_Greatest.p1.round
      simp only []
      simp (disch := omega) only [dif_dec, dif_ndec, bif_eq, bif_neq, bif_ne, bif_nne, w64, wu64, Int.toNat_natCast, Option.bind_some, cond_true, cond_false, Bool.not_true, Bool.not_false, Sum.elim_inl, Sum.elim_inr, hlk]
      rfl
    | true =>
      rw [cond_true]
      unfold impB
      cases ha : actB (rows.getD k R0) with
      | false =>
        rw [Bool.false_and, cond_false, ← pg_row hr hn hrl m (k + 1) x s (lk.set k false) (by omega) hx hset hs]
        refine loop_next ?_ rfl
        unfold profile_Greatest.p1.step profile_Greatest.p1.round
        simp only []
        simp (disch := omega) only [dif_dec, dif_ndec, bif_eq, bif_neq, bif_ne, bif_nne, w64, wu64, Int.toNat_natCast, Option.bind_some, cond_true, cond_false, Bool.not_true, Bool.not_false, Sum.elim_inl, Sum.elim_inr, hlk, bound_val (rows.getD k R0) (x := x) (by omega)]
        unfold boundV
        rw [hbok, ha]
        rfl
      | true =>
        rw [Bool.true_and]
        by_cases hb : bnd (rows.getD k R0) x < x.getD (tgt (rows.getD k R0)) 0
        · rw [decide_eq_true hb, cond_true]
          by_cases h16 : s.length = 16384
          · rw [decide_eq_true h16, cond_true]
            refine loop_end ?_
            unfold profile_Greatest.p1.step profile_Greatest.p1.round
            simp only []
            simp (disch := omega) only [dif_dec, dif_ndec, bif_eq, bif_neq, bif_ne, bif_nne, w64, wu64, Int.toNat_natCast, Option.bind_some, cond_true, cond_false, Bool.not_true, Bool.not_false, Sum.elim_inl, Sum.elim_inr, hlk, bound_val (rows.getD k R0) (x := x) (by omega)]
            unfold boundV
            rw [hbok, ha]
            simp only [cond_true]
            simp (disch := omega) only [dif_dec, dif_ndec, bif_eq, bif_neq, bif_ne, bif_nne, w64, wu64, Int.toNat_natCast, Option.bind_some, cond_true, cond_false, Bool.not_true, Bool.not_false, Sum.elim_inl, Sum.elim_inr]
          · rw [decide_eq_false h16, cond_false]
            by_cases h0 : bnd (rows.getD k R0) x < 0
            · rw [decide_eq_true h0, cond_true]
              refine loop_end ?_
              unfold profile_Greatest.p1.step profile_Greatest.p1.round
              simp only [List.length_cons, List.length_nil]
              simp (disch := omega) only [dif_dec, dif_ndec, bif_eq, bif_neq, bif_ne, bif_nne, w64, wu64, Int.toNat_natCast, Option.bind_some, cond_true, cond_false, Bool.not_true, Bool.not_false, Sum.elim_inl, Sum.elim_inr, hlk, bound_val (rows.getD k R0) (x := x) (by omega)]
              unfold boundV
              rw [hbok, ha]
              simp only [cond_true]
              simp (disch := omega) only [dif_dec, dif_ndec, bif_eq, bif_neq, bif_ne, bif_nne, w64, wu64, Int.toNat_natCast, Option.bind_some, cond_true, cond_false, Bool.not_true, Bool.not_false, Sum.elim_inl, Sum.elim_inr]
            · rw [decide_eq_false h0, cond_false, ← pg_row hr hn hrl m (k + 1) _ (s ++ [(k : Int)]) _ (by omega) (lev_set hx ht (by omega) hb) (by rw [wakeL_length]; exact hset) (by simp only [List.length_append, List.length_cons, List.length_nil]; omega)]
              refine loop_next ?_ rfl
              unfold profile_Greatest.p1.step profile_Greatest.p1.round
              simp only [List.length_cons, List.length_nil]
              simp (disch := omega) only [dif_dec, dif_ndec, bif_eq, bif_neq, bif_ne, bif_nne, w64, wu64, Int.toNat_natCast, Option.bind_some, cond_true, cond_false, Bool.not_true, Bool.not_false, Sum.elim_inl, Sum.elim_inr, hlk, bound_val (rows.getD k R0) (x := x) (by omega)]
              unfold boundV
              rw [hbok, ha]
              simp only [cond_true]
              simp (disch := omega) only [dif_dec, dif_ndec, bif_eq, bif_neq, bif_ne, bif_nne, w64, wu64, Int.toNat_natCast, Option.bind_some, cond_true, cond_false, Bool.not_true, Bool.not_false, Sum.elim_inl, Sum.elim_inr, wake_val hr hn hrl hset]
              rfl
        · rw [decide_eq_false hb, cond_false, ← pg_row hr hn hrl m (k + 1) x s (lk.set k false) (by omega) hx hset hs]
          refine loop_next ?_ rfl
          unfold profile_Greatest.p1.step profile_Greatest.p1.round
          simp only []
          simp (disch := omega) only [dif_dec, dif_ndec, bif_eq, bif_neq, bif_ne, bif_nne, w64, wu64, Int.toNat_natCast, Option.bind_some, cond_true, cond_false, Bool.not_true, Bool.not_false, Sum.elim_inl, Sum.elim_inr, hlk, bound_val (rows.getD k R0) (x := x) (by omega)]
          unfold boundV
          rw [hbok, ha]
          simp only [cond_true]
          simp (disch := omega) only [dif_dec, dif_ndec, bif_eq, bif_neq, bif_ne, bif_nne, w64, wu64, Int.toNat_natCast, Option.bind_some, cond_true, cond_false, Bool.not_true, Bool.not_false, Sum.elim_inl, Sum.elim_inr]
          rfl
theorem rg_row {n : Nat} {rows : List RT} (hr : RowsP n rows) (hn : n ≤ 65) (hrl : rows.length ≤ 16384) : ∀ (m k : Nat) (x s : List Int) (a : Bool), k + m = rows.length → Lev n x → s.length ≤ 16384 →
    loopF armplanref40_Greatest.p1.step (rows, a, (k : Int), x, s) = some (match rsweep rows m k x s a with | .inl e => .inl (e.2.2, e.2.1) | .inr (x', (s', a')) => .inr (rows, a', x', s'))
  | 0, k, x, s, a, hm, hx, hs => by
    refine loop_end ?_
    unfold armplanref40_Greatest.p1.step armplanref40_Greatest.p1.round
    simp only []
    simp (disch := omega) only [dif_dec, dif_ndec, bif_eq, bif_neq, bif_ne, bif_nne, w64, wu64, Int.toNat_natCast, Option.bind_some, cond_true, cond_false, Bool.not_true, Bool.not_false, Sum.elim_inl, Sum.elim_inr]
    rfl
  | m + 1, k, x, s, a, hm, hx, hs => by
    have hk : k < rows.length := by omega
    have hxl := hx.1
    have ht := tgt_lt (hr k hk)
    have hbok := bndOk_of (hr k hk) (lev_lev1 hx)
    rw [rsweep]
    unfold impB
    cases ha : actB (rows.getD k R0) with
    | false =>
      rw [Bool.false_and, cond_false, ← rg_row hr hn hrl m (k + 1) x s a (by omega) hx hs]
      refine loop_next ?_ rfl
      unfold armplanref40_Greatest.p1.step armplanref40_Greatest.p1.round
      simp only []
      simp (disch := omega) only [dif_dec, dif_ndec, bif_eq, bif_neq, bif_ne, bif_nne, w64, wu64, Int.toNat_natCast, Option.bind_some, cond_true, cond_false, Bool.not_true, Bool.not_false, Sum.elim_inl, Sum.elim_inr, rbound_val (rows.getD k R0) (x := x) (by omega)]
      unfold boundV
      rw [hbok, ha]
      rfl
    | true =>
      rw [Bool.true_and]
      by_cases hb : bnd (rows.getD k R0) x < x.getD (tgt (rows.getD k R0)) 0
      · rw [decide_eq_true hb, cond_true]
        by_cases h16 : s.length = 16384
        · rw [decide_eq_true h16, cond_true]
          refine loop_end ?_
          unfold armplanref40_Greatest.p1.step armplanref40_Greatest.p1.round
          simp only []
          simp (disch := omega) only [dif_dec, dif_ndec, bif_eq, bif_neq, bif_ne, bif_nne, w64, wu64, Int.toNat_natCast, Option.bind_some, cond_true, cond_false, Bool.not_true, Bool.not_false, Sum.elim_inl, Sum.elim_inr, rbound_val (rows.getD k R0) (x := x) (by omega)]
          unfold boundV
          rw [hbok, ha]
          simp only [cond_true]
          simp (disch := omega) only [dif_dec, dif_ndec, bif_eq, bif_neq, bif_ne, bif_nne, w64, wu64, Int.toNat_natCast, Option.bind_some, cond_true, cond_false, Bool.not_true, Bool.not_false, Sum.elim_inl, Sum.elim_inr]
        · rw [decide_eq_false h16, cond_false]
          by_cases h0 : bnd (rows.getD k R0) x < 0
          · rw [decide_eq_true h0, cond_true]
            refine loop_end ?_
            unfold armplanref40_Greatest.p1.step armplanref40_Greatest.p1.round
            simp only [List.length_cons, List.length_nil]
            simp (disch := omega) only [dif_dec, dif_ndec, bif_eq, bif_neq, bif_ne, bif_nne, w64, wu64, Int.toNat_natCast, Option.bind_some, cond_true, cond_false, Bool.not_true, Bool.not_false, Sum.elim_inl, Sum.elim_inr, rbound_val (rows.getD k R0) (x := x) (by omega)]
            unfold boundV
            rw [hbok, ha]
            simp only [cond_true]
            simp (disch := omega) only [dif_dec, dif_ndec, bif_eq, bif_neq, bif_ne, bif_nne, w64, wu64, Int.toNat_natCast, Option.bind_some, cond_true, cond_false, Bool.not_true, Bool.not_false, Sum.elim_inl, Sum.elim_inr]
          · rw [decide_eq_false h0, cond_false, ← rg_row hr hn hrl m (k + 1) _ (s ++ [(k : Int)]) true (by omega) (lev_set hx ht (by omega) hb) (by simp only [List.length_append, List.length_cons, List.length_nil]; omega)]
            refine loop_next ?_ rfl
            unfold armplanref40_Greatest.p1.step armplanref40_Greatest.p1.round
            simp only [List.length_cons, List.length_nil]
            simp (disch := omega) only [dif_dec, dif_ndec, bif_eq, bif_neq, bif_ne, bif_nne, w64, wu64, Int.toNat_natCast, Option.bind_some, cond_true, cond_false, Bool.not_true, Bool.not_false, Sum.elim_inl, Sum.elim_inr, rbound_val (rows.getD k R0) (x := x) (by omega)]
            unfold boundV
            rw [hbok, ha]
            simp only [cond_true]
            simp (disch := omega) only [dif_dec, dif_ndec, bif_eq, bif_neq, bif_ne, bif_nne, w64, wu64, Int.toNat_natCast, Option.bind_some, cond_true, cond_false, Bool.not_true, Bool.not_false, Sum.elim_inl, Sum.elim_inr]
            rfl
      · rw [decide_eq_false hb, cond_false, ← rg_row hr hn hrl m (k + 1) x s a (by omega) hx hs]
        refine loop_next ?_ rfl
        unfold armplanref40_Greatest.p1.step armplanref40_Greatest.p1.round
        simp only []
        simp (disch := omega) only [dif_dec, dif_ndec, bif_eq, bif_neq, bif_ne, bif_nne, w64, wu64, Int.toNat_natCast, Option.bind_some, cond_true, cond_false, Bool.not_true, Bool.not_false, Sum.elim_inl, Sum.elim_inr, rbound_val (rows.getD k R0) (x := x) (by omega)]
        unfold boundV
        rw [hbok, ha]
        simp only [cond_true]
        simp (disch := omega) only [dif_dec, dif_ndec, bif_eq, bif_neq, bif_ne, bif_nne, w64, wu64, Int.toNat_natCast, Option.bind_some, cond_true, cond_false, Bool.not_true, Bool.not_false, Sum.elim_inl, Sum.elim_inr]
        rfl
theorem rsweep_calm {rows : List RT} {x : List Int} (h : ∀ j, j < rows.length → impB (rows.getD j R0) x = false) (s : List Int) (a : Bool) : ∀ (m k : Nat), k + m = rows.length → rsweep rows m k x s a = .inr (x, (s, a))
  | 0, k, hm => rfl
  | m + 1, k, hm => by
    rw [rsweep, h k (by omega), cond_false]
    exact rsweep_calm h s a m (k + 1) (by omega)
theorem rsweep_inl {rows : List RT} : ∀ (m k : Nat) (x s : List Int) (a : Bool) {e : GR}, rsweep rows m k x s a = .inl e → e.1 = []
  | 0, k, x, s, a, e, h => by simp [rsweep] at h
  | m + 1, k, x, s, a, e, h => by
    rw [rsweep] at h
    cases h1 : impB (rows.getD k R0) x with
    | false => rw [h1, cond_false] at h; exact rsweep_inl _ _ _ _ _ h
    | true =>
      rw [h1, cond_true] at h
      cases h2 : decide (s.length = 16384) with
      | true => rw [h2, cond_true] at h; injection h with h; rw [← h]
      | false =>
        rw [h2, cond_false] at h
        cases h3 : decide (bnd (rows.getD k R0) x < 0) with
        | true => rw [h3, cond_true] at h; injection h with h; rw [← h]
        | false => rw [h3, cond_false] at h; exact rsweep_inl _ _ _ _ _ h
theorem rrun_inl {rows : List RT} : ∀ (f : Nat) (x s : List Int) {e : GR}, rrun rows f x s = .inl e → e.1 = []
  | 0, x, s, e, h => by simp [rrun] at h
  | f + 1, x, s, e, h => by
    rw [rrun] at h
    cases hw : rsweep rows rows.length 0 x s false with
    | inl q => rw [hw] at h; injection h with h; rw [← h]; exact rsweep_inl _ _ _ _ _ hw
    | inr q =>
      obtain ⟨x', s', a⟩ := q
      rw [hw] at h
      cases a with
      | true => exact rrun_inl f x' s' h
      | false => cases h
theorem rrun_lev {n : Nat} {rows : List RT} (hr : RowsP n rows) : ∀ (f : Nat) (x s : List Int) {x' s' : List Int}, Lev n x → s.length ≤ 16384 → rrun rows f x s = .inr (x', s') → Lev n x' ∧ s'.length ≤ 16384
  | 0, x, s, x', s', hx, hs, h => by
    simp only [rrun, Sum.inr.injEq, Prod.mk.injEq] at h
    obtain ⟨rfl, rfl⟩ := h
    exact ⟨hx, hs⟩
  | f + 1, x, s, x', s', hx, hs, h => by
    rw [rrun] at h
    cases hw : rsweep rows rows.length 0 x s false with
    | inl q => rw [hw] at h; cases h
    | inr q =>
      obtain ⟨x1, s1, a⟩ := q
      obtain ⟨h1, h2, _⟩ := rsweep_lev hr rows.length 0 x s false (by omega) hx hs hw
      rw [hw] at h
      cases a with
      | true => exact rrun_lev hr f x1 s1 h1 h2 h
      | false =>
        simp only [cond_false, Sum.inr.injEq, Prod.mk.injEq] at h
        obtain ⟨rfl, rfl⟩ := h
        exact ⟨h1, h2⟩
theorem pg_run {n : Nat} {rows : List RT} (hr : RowsP n rows) (hn : n ≤ 65) (hrl : rows.length ≤ 16384) : ∀ (f : Nat) (x s : List Int) (lk : List Bool), Lev n x → Calm rows lk x → s.length ≤ 16384 → 16386 ≤ f + s.length →
    loopF profile_Greatest.p0.step (rows, lk, s, x) = some (match rrun rows f x s with | .inl e => .inl (e.2.2, e.2.1) | .inr (x', s') => .inr (rows, s', x'))
  | 0, x, s, lk, hx, hc, hs, hf => by omega
  | f + 1, x, s, lk, hx, hc, hs, hf => by
    have hlk := hc.1
    have hend : ∀ (lk : List Bool) (s x : List Int), lk.length = rows.length → (∀ j, j < rows.length → lk.getD j false = false) → profile_Greatest.p0.step (rows, lk, s, x) = some (.inr (.inr (rows, s, x))) := by
      intro lk s x hl hh
      unfold profile_Greatest.p0.step profile_Greatest.p0.round
      simp only []
      have : anyB (fun i => lk.getD i false) 0 lk.length = false := by
        cases hb : anyB (fun i => lk.getD i false) 0 lk.length with
        | false => rfl
        | true =>
          obtain ⟨j, _, h2, h3⟩ := anyB_iff.1 hb
          have := hh j (by omega)
          rw [this] at h3; cases h3
      rw [containsB_val (by omega), this]
      rfl
    rw [rrun]
    cases hany : anyB (fun i => lk.getD i false) 0 lk.length with
    | false =>
      have hall : ∀ j, j < rows.length → lk.getD j false = false := by
        intro j hj
        cases hb : lk.getD j false with
        | false => rfl
        | true =>
          have := (anyB_iff (P := fun i => lk.getD i false) (i := 0) (k := lk.length)).2 ⟨j, Nat.zero_le _, by omega, hb⟩
          rw [hany] at this; cases this
      rw [rsweep_calm (fun j hj => hc.2 j hj (hall j hj)) s false rows.length 0 (by omega)]
      exact loop_end (hend lk s x hlk hall)
    | true =>
      have hrow := pg_row hr hn hrl rows.length 0 x s lk (by omega) hx hlk hs
      rw [show ((0 : Nat) : Int) = 0 from rfl] at hrow
      obtain ⟨p1, p2⟩ := psweep_eq hr rows.length 0 x s lk false (by omega) hx hc
      have hlev := @rsweep_lev n rows hr rows.length 0 x s false (by omega) hx hs
      have hst : ∀ q, psweep rows rows.length 0 x s lk = q → profile_Greatest.p0.step (rows, lk, s, x) = some (match q with | .inl e => .inr (.inl (e.2.2, e.2.1)) | .inr (x', (s', lk')) => .inl (rows, lk', s', x')) := by
        intro q hq
        rw [hq] at hrow
        unfold profile_Greatest.p0.step profile_Greatest.p0.round
        simp only []
        rw [containsB_val (by omega), hany, Option.bind_some, cond_true, hrow]
        cases q <;> rfl
      cases hw : rsweep rows rows.length 0 x s false with
      | inl e => exact loop_end (hst _ (p1 e hw))
      | inr q =>
        obtain ⟨x', s', a⟩ := q
        obtain ⟨lk', g1, g2, g3⟩ := p2 x' s' a hw
        obtain ⟨k1, k2, k3, k4, k5⟩ := hlev hw
        refine loop_next (hst _ g1) ?_
        cases a with
        | true =>
          have := k4 rfl rfl
          exact pg_run hr hn hrl f x' s' lk' k1 g2 k2 (by omega)
        | false =>
          refine loop_end (hend lk' s' x' g2.1 fun j hj => ?_)
          cases hb : lk'.getD j false with
          | false => rfl
          | true => have := (g3 rfl j hj hb).1; omega
theorem rg_run {n : Nat} {rows : List RT} (hr : RowsP n rows) (hn : n ≤ 65) (hrl : rows.length ≤ 16384) : ∀ (f : Nat) (x s : List Int), Lev n x → s.length ≤ 16384 → 16386 ≤ f + s.length →
    loopF armplanref40_Greatest.p0.step (rows, true, x, s) = some (match rrun rows f x s with | .inl e => .inl (e.2.2, e.2.1) | .inr (x', s') => .inr (rows, x', s'))
  | 0, x, s, hx, hs, hf => by omega
  | f + 1, x, s, hx, hs, hf => by
    have hrow := rg_row hr hn hrl rows.length 0 x s false (by omega) hx hs
    rw [show ((0 : Nat) : Int) = 0 from rfl] at hrow
    have hlev := @rsweep_lev n rows hr rows.length 0 x s false (by omega) hx hs
    have hst : ∀ q, rsweep rows rows.length 0 x s false = q → armplanref40_Greatest.p0.step (rows, true, x, s) = some (match q with | .inl e => .inr (.inl (e.2.2, e.2.1)) | .inr (x', (s', a')) => .inl (rows, a', x', s')) := by
      intro q hq
      rw [hq] at hrow
      unfold armplanref40_Greatest.p0.step armplanref40_Greatest.p0.round
      simp only []
      rw [cond_true, hrow]
      cases q <;> rfl
    rw [rrun]
    cases hw : rsweep rows rows.length 0 x s false with
    | inl e => exact loop_end (hst _ hw)
    | inr q =>
      obtain ⟨x', s', a⟩ := q
      obtain ⟨k1, k2, k3, k4, k5⟩ := hlev hw
      refine loop_next (hst _ hw) ?_
      cases a with
      | true =>
        have := k4 rfl rfl
        exact rg_run hr hn hrl f x' s' k1 k2 (by omega)
      | false => exact loop_end rfl
theorem great_val (top : List Int) (rows : List RT) : profile_Greatest.F top rows = some ((greatV top rows).2.2, (greatV top rows).1, (greatV top rows).2.1) := by
  rw [profile_Greatest.F_eq]
  unfold profile_Greatest.F0 greatV
  rw [valid_val, Option.bind_some]
  cases hv : validB top rows with
  | false => rfl
  | true =>
    have hV := validB_iff.1 hv
    have h65 := hV.n65
    have h2 := hV.n2
    have hrl := hV.rl
    obtain ⟨hl, hr⟩ := valid_lev hV
    have hcalm : Calm rows (List.replicate rows.length true) top := by
      refine ⟨by simp, fun k hk h => ?_⟩
      rw [List.getD_eq_getElem?_getD, List.getElem?_replicate, if_pos hk] at h
      cases h
    rw [Bool.not_true, cond_false, clone_val (by omega) (by omega), Option.bind_some, repeat_val hrl, Option.bind_some, pg_run hr h65 hrl 20000 top [] _ hl hcalm (by simp) (by simp), Option.bind_some, cond_true]
    cases hw : rrun rows 20000 top [] with
    | inl e =>
      have := rrun_inl _ _ _ hw
      obtain ⟨e1, e2, e3⟩ := e
      simp only [] at this
      subst this
      rfl
    | inr q =>
      obtain ⟨x, s⟩ := q
      obtain ⟨hx, hs⟩ := rrun_lev hr _ _ _ hl (by simp) hw
      have hxl := hx.1
      simp only [Sum.elim_inr, gfin]
      rw [containsG_val (by rw [hx.1]; exact hr) (lev1_near (lev_lev1 hx)) (by omega) (by omega), Option.bind_some]
      cases satsB rows x <;> rfl
theorem rgreat_val (top : List Int) (rows : List RT) : armplanref40_Greatest.F top rows = some ((greatV top rows).2.2, (greatV top rows).1, (greatV top rows).2.1) := by
  rw [armplanref40_Greatest.F_eq]
  unfold armplanref40_Greatest.F0 greatV
  rw [rvalid_val, Option.bind_some]
  cases hv : validB top rows with
  | false => rfl
  | true =>
    have hV := validB_iff.1 hv
    have h65 := hV.n65
    have h2 := hV.n2
    have hrl := hV.rl
    obtain ⟨hl, hr⟩ := valid_lev hV
    rw [Bool.not_true, cond_false, dif_dec (by omega), rg_run hr h65 hrl 20000 top [] hl (by simp) (by simp), Option.bind_some, cond_true]
    cases hw : rrun rows 20000 top [] with
    | inl e =>
      have := rrun_inl _ _ _ hw
      obtain ⟨e1, e2, e3⟩ := e
      simp only [] at this
      subst this
      rfl
    | inr q =>
      obtain ⟨x, s⟩ := q
      obtain ⟨hx, hs⟩ := rrun_lev hr _ _ _ hl (by simp) hw
      have hxl := hx.1
      simp only [Sum.elim_inr, gfin]
      have l1 := loop_find (step := armplanref40_Greatest.p2.step) (fun i : Nat => (rows, (i : Int), x, s)) rows.length (fun i => bif satB (rows.getD i R0) x then none else some (.inl (false, s))) (.inr (x, s)) (by
        intro i hi
        have hv := holds_val (by rw [hx.1]; exact hr i hi) (lev1_near (lev_lev1 hx)) (by omega)
        unfold armplanref40_Greatest.p2.step armplanref40_Greatest.p2.round
        simp only []
        simp (disch := omega) only [dif_dec, dif_ndec, bif_eq, bif_neq, bif_ne, bif_nne, w64, wu64, Int.toNat_natCast, Option.bind_some, cond_true, cond_false, Bool.not_true, Bool.not_false, Sum.elim_inl, Sum.elim_inr, hv]
        cases satB (rows.getD i R0) x <;> rfl) (by
        unfold armplanref40_Greatest.p2.step armplanref40_Greatest.p2.round
        simp only []
        simp (disch := omega) only [dif_dec, dif_ndec, bif_eq, bif_neq, bif_ne, bif_nne, w64, wu64, Int.toNat_natCast, Option.bind_some, cond_true, cond_false, Bool.not_true, Bool.not_false, Sum.elim_inl, Sum.elim_inr]) rows.length 0 (by omega)
      rw [show ((0 : Nat) : Int) = 0 from rfl] at l1
      rw [l1, Option.bind_some, findE_all (P := fun i => satB (rows.getD i R0) x) fun j _ _ => rfl]
      show Sum.elim _ _ (bif satsB rows x then _ else _) = _
      cases satsB rows x <;> rfl
end Go.Abs
