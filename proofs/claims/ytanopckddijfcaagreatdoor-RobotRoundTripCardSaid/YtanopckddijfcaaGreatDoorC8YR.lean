/- A part of the proof that the text with the row names: printed readings of functions, or plain lemmas about them. -/
import Derived.Test.YtanopckddijfcaaGreatDoorC8YW
import Derived.Test.YtanopckddijfcaaGreatDoorC8YM6
set_option linter.unusedVariables false
set_option linter.unusedSimpArgs false
namespace Go.Abs
open Go Go.Proofs
/-! ### What is read back: texts -/
theorem numV_fm {v : Int} (h : -2147483648 ≤ v ∧ v ≤ 2147483648) : numV (fm v).data.toList = (v, true) := by
  have hc : clampI v = v := by unfold clampI; rw [if_neg (by omega), if_neg (by omega)]
  show numV (fmtI v) = _
  unfold fmtI
  rw [hc, fmt_num (by omega)]
  by_cases h0 : v < 0
  · rw [decide_eq_true h0, cond_true]
    have e : -((v.natAbs : Nat) : Int) = v := by omega
    rw [e]
  · rw [decide_eq_false h0, cond_false]
    have e : ((v.natAbs : Nat) : Int) = v := by omega
    rw [e]
theorem fm_size (v : Int) : (fm v).size ≤ 2 ^ 60 := by
  have hr := clamp_range v
  have hl : (fmtI v).length ≤ 20 := fmt_len (by omega)
  show (fmtI v).length ≤ _
  omega
theorem intV_dm {v : Int} (h0 : 0 ≤ v) (h1 : v ≤ 2 ^ 40) : token_Integer.F (dm v) = some (v, true) := by
  have hd := decD_ok (v.toNat + 1) v.toNat (Nat.lt_succ_self _)
  have hlen := hd.len (m := 15) (by decide) (by omega)
  obtain ⟨s1, s2⟩ := strip_dig (r := []) hd.a hd.lo
  rw [List.append_nil] at s1 s2
  unfold dm
  rw [tint_val]
  unfold intV
  rw [s1, s2, if_pos ⟨hd.a, hd.lo, hlen⟩, hd.v]
  have e : ((v.toNat : Nat) : Int) = v := by omega
  rw [cond_false, e]
def kindsLit : List ByteArray := [(⟨#[102, 105, 120, 101, 100]⟩ : ByteArray), (⟨#[116, 117, 114, 110, 120]⟩ : ByteArray), (⟨#[116, 117, 114, 110, 121]⟩ : ByteArray), (⟨#[116, 117, 114, 110, 122]⟩ : ByteArray), (⟨#[115, 108, 105, 100, 101, 120]⟩ : ByteArray), (⟨#[115, 108, 105, 100, 101, 121]⟩ : ByteArray), (⟨#[115, 108, 105, 100, 101, 122]⟩ : ByteArray)]
theorem kind_back {q : Int} (h : 0 ≤ q ∧ q ≤ 6) : slices_Index_string.F kindsLit (kindN.getD q.toNat ⟨#[]⟩) = some q := by
  have hk : q = 0 ∨ q = 1 ∨ q = 2 ∨ q = 3 ∨ q = 4 ∨ q = 5 ∨ q = 6 := by omega
  rw [slices_Index_string.F_eq]
  unfold slices_Index_string.F0
  rcases hk with rfl | rfl | rfl | rfl | rfl | rfl | rfl
  · rw [loopF_of (n := 1) (o := .inl 0) (by kernel_rfl)]; rfl
  · rw [loopF_of (n := 2) (o := .inl 1) (by kernel_rfl)]; rfl
  · rw [loopF_of (n := 3) (o := .inl 2) (by kernel_rfl)]; rfl
  · rw [loopF_of (n := 4) (o := .inl 3) (by kernel_rfl)]; rfl
  · rw [loopF_of (n := 5) (o := .inl 4) (by kernel_rfl)]; rfl
  · rw [loopF_of (n := 6) (o := .inl 5) (by kernel_rfl)]; rfl
  · rw [loopF_of (n := 7) (o := .inl 6) (by kernel_rfl)]; rfl

/-! ### The map of names -/
theorem getM_self (s : ByteArray) (x : Int) : ∀ m : List (ByteArray × Int), getM s (setM s x m) = some x
  | [] => by simp only [setM, getM, eqS_refl, cond_true]
  | p :: r => by
    simp only [setM]
    cases h : eqS s p.1 with
    | true => simp only [cond_true, getM, eqS_refl]
    | false => simp only [cond_false, getM, h]; exact getM_self s x r
theorem getM_ne {s t : ByteArray} (x : Int) (h : eqS s t = false) : ∀ m : List (ByteArray × Int), getM s (setM t x m) = getM s m
  | [] => by simp only [setM, getM, h, cond_false]
  | p :: r => by
    simp only [setM]
    cases h2 : eqS t p.1 with
    | true =>
      have e := eqS_eq h2
      simp only [cond_true, getM, h, cond_false]
      rw [← e, h]
      rfl
    | false =>
      simp only [cond_false, getM]
      rw [getM_ne x h r]
structure MInv (js : List JT) (i : Nat) (m : List (ByteArray × Int)) : Prop where
  get : ∀ k : Nat, k < i → getM (js.getD k J0).1 m = some (k : Int)
  has : ∀ s, hasM s m = true → ∃ k : Nat, k < i ∧ s = (js.getD k J0).1
theorem nameIn_ne {js : List JT} {nm : ByteArray} {i : Nat} (h : nameIn js nm i = false) : ∀ k, k < i → eqS (js.getD k J0).1 nm = false := by
  intro k hk
  rw [Bool.eq_false_iff]
  intro e
  rw [Bool.eq_false_iff] at h
  exact h (anyB_iff.2 ⟨k, Nat.zero_le _, by omega, e⟩)
theorem MInv.next {js : List JT} {i : Nat} {m : List (ByteArray × Int)} (h : MInv js i m) (hn : nameIn js (js.getD i J0).1 i = false) : MInv js (i + 1) (setM (js.getD i J0).1 (i : Int) m) := by
  have hne := nameIn_ne hn
  refine ⟨fun k hk => ?_, fun s hs => ?_⟩
  · by_cases e : k = i
    · subst e
      exact getM_self _ _ _
    · rw [getM_ne _ (hne k (by omega))]
      exact h.get k (by omega)
  · cases he : eqS s (js.getD i J0).1 with
    | true => exact ⟨i, by omega, eqS_eq he⟩
    | false =>
      unfold hasM at hs
      rw [getM_ne _ he] at hs
      obtain ⟨k, h1, h2⟩ := h.has s hs
      exact ⟨k, by omega, h2⟩
theorem MInv.no {js : List JT} {i : Nat} {m : List (ByteArray × Int)} (h : MInv js i m) (hn : nameIn js (js.getD i J0).1 i = false) : hasM (js.getD i J0).1 m = false := by
  rw [Bool.eq_false_iff]
  intro e
  obtain ⟨k, h1, h2⟩ := h.has _ e
  have := nameIn_ne hn k h1
  rw [← h2, eqS_refl] at this
  cases this

/-! ### Places of the statements -/
theorem put_at {w : ByteArray} {a : List ByteArray} {out : List ST} {k : Nat} : (put w a out).getD k St0 = if k < out.length then out.getD k St0 else if k = out.length then ((out.length : Int) + 1, (w, a)) else St0 := by
  unfold put
  simp only [List.getD_eq_getElem?_getD]
  split
  · rename_i h
    rw [List.getElem?_append_left h]
  · split
    · rename_i h1 h2
      subst h2
      simp
    · rename_i h1 h2
      rw [List.getElem?_eq_none (by rw [List.length_append, List.length_cons, List.length_nil]; omega)]
      rfl
theorem outJ_at {js : List JT} {i : Nat} : ∀ n : Nat, i < n → ((outJ js n).getD (2 * i) St0).2 = (jointB, jArgs js (js.getD i J0)) ∧ ((outJ js n).getD (2 * i + 1) St0).2 = (limitB, lArgs (js.getD i J0))
  | 0, h => by omega
  | n + 1, h => by
    have hl := outJ_len js n
    simp only [outJ, put_at, put_len, hl]
    by_cases e : i = n
    · subst e
      rw [if_pos (by omega), if_neg (by omega), if_pos rfl, if_neg (by omega), if_pos (by omega)]
      exact ⟨rfl, rfl⟩
    · rw [if_pos (by omega), if_pos (by omega), if_pos (by omega), if_pos (by omega)]
      exact outJ_at n (by omega)
theorem outM_low {js : List JT} {ms : List MT} {k : Nat} (hk : k < 2 * js.length) : ∀ n : Nat, (outM js ms n).getD k St0 = (outJ js js.length).getD k St0
  | 0 => rfl
  | n + 1 => by
    have hl := outM_len js ms n
    simp only [outM, put_at, hl]
    rw [if_pos (by omega)]
    exact outM_low hk n
theorem outM_at {js : List JT} {ms : List MT} {k : Nat} : ∀ n : Nat, k < n → ((outM js ms n).getD (2 * js.length + k) St0).2 = (massB, mArgs js (ms.getD k M0))
  | 0, h => by omega
  | n + 1, h => by
    have hl := outM_len js ms n
    simp only [outM, put_at, hl]
    by_cases e : k = n
    · subst e
      rw [if_neg (by omega), if_pos rfl]
    · rw [if_pos (by omega)]
      exact outM_at n (by omega)
end Go.Abs
