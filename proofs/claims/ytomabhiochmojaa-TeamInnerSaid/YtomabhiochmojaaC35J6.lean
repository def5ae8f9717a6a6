/- A part of the proof that the text with the row names: printed readings of functions, or plain lemmas about them. -/
import Derived.Test.YtomabhiochmojaaC35J5
set_option linter.unusedVariables false
set_option linter.unusedSimpArgs false
namespace Go.Abs
open Go
theorem rowP_iff {P : Nat → Nat → Bool} {i : Nat} {x : SkT} : ∀ {m k : Nat}, x ∈ rowP P i k m ↔ ∃ b, k ≤ b ∧ b < k + m ∧ P i b = true ∧ x = ((i : Int), (b : Int))
  | 0, k => by simp [rowP]; omega
  | m + 1, k => by
    rw [rowP, List.mem_append, rowP_iff]
    constructor
    · rintro (h | ⟨b, h1, h2, h3⟩)
      · cases hp : P i k with
        | true => rw [hp, if_pos rfl] at h; simp at h; exact ⟨k, by omega, by omega, hp, h⟩
        | false => rw [hp, if_neg (by simp)] at h; cases h
      · exact ⟨b, by omega, by omega, h3⟩
    · rintro ⟨b, h1, h2, h3, h4⟩
      by_cases e : b = k
      · subst e
        left
        rw [h3, if_pos rfl, h4]
        simp
      · exact .inr ⟨b, by omega, by omega, h3, h4⟩
theorem allP_iff {P : Nat → Nat → Bool} {n : Nat} {x : SkT} : ∀ {m i : Nat}, i + m = n → (x ∈ allP P n i m ↔ ∃ a b, i ≤ a ∧ a < b ∧ b < n ∧ P a b = true ∧ x = ((a : Int), (b : Int)))
  | 0, i, hm => by
    simp only [allP, List.not_mem_nil, false_iff]
    rintro ⟨a, b, h1, h2, h3, _⟩
    omega
  | m + 1, i, hm => by
    rw [allP, List.mem_append, rowP_iff, allP_iff (by omega)]
    constructor
    · rintro (⟨b, h1, h2, h3, h4⟩ | ⟨a, b, h1, h2, h3, h4⟩)
      · exact ⟨i, b, by omega, by omega, by omega, h3, h4⟩
      · exact ⟨a, b, by omega, h2, h3, h4⟩
    · rintro ⟨a, b, h1, h2, h3, h4, h5⟩
      by_cases e : a = i
      · subst e
        exact .inl ⟨b, by omega, by omega, h4, h5⟩
      · exact .inr ⟨a, b, by omega, h2, h3, h4, h5⟩
theorem rowP_nodup {P : Nat → Nat → Bool} {i : Nat} : ∀ (m k : Nat), (rowP P i k m).Nodup
  | 0, k => by simp [rowP]
  | m + 1, k => by
    rw [rowP]
    cases P i k with
    | false => rw [if_neg (by simp), List.nil_append]; exact rowP_nodup m (k + 1)
    | true =>
      rw [if_pos rfl, List.singleton_append, List.nodup_cons]
      refine ⟨fun h => ?_, rowP_nodup m (k + 1)⟩
      obtain ⟨b, h1, _, _, h4⟩ := rowP_iff.1 h
      injection h4 with _ h4
      omega
theorem allP_nodup {P : Nat → Nat → Bool} {n : Nat} : ∀ (m i : Nat), i + m = n → (allP P n i m).Nodup
  | 0, i, _ => by simp [allP]
  | m + 1, i, hm => by
    rw [allP, List.nodup_append]
    refine ⟨rowP_nodup _ _, allP_nodup m (i + 1) (by omega), fun x hx y hy e => ?_⟩
    obtain ⟨b, _, _, _, h4⟩ := rowP_iff.1 hx
    obtain ⟨a, c, h1, _, _, _, h5⟩ := (allP_iff (by omega)).1 hy
    rw [h4, h5] at e
    injection e with e _
    omega

def nJ (l : List ScT) (bs : List PT) (k : Nat) : Nat := (joinN l bs k).1.length
def nS (l : List ScT) (bs : List PT) (k : Nat) : Nat := (joinN l bs k).2.2.1.length
theorem nJ_next {l : List ScT} {bs : List PT} {k : Nat} : nJ l bs (k + 1) = nJ l bs k + (l.getD k Sc0).1.1.length := by
  unfold nJ
  rw [joinN]
  exact addV_len.1
theorem nS_next {l : List ScT} {bs : List PT} {k : Nat} : nS l bs (k + 1) = nS l bs k + (l.getD k Sc0).2.1.length := by
  unfold nS
  rw [joinN]
  exact addV_len.2.2.1
theorem nJ_mono {l : List ScT} {bs : List PT} : ∀ (d k : Nat), nJ l bs k ≤ nJ l bs (k + d)
  | 0, k => Nat.le_refl _
  | d + 1, k => by
    have := nJ_mono (l := l) (bs := bs) d k
    rw [show k + (d + 1) = k + d + 1 from rfl, nJ_next]
    omega
theorem nS_mono {l : List ScT} {bs : List PT} : ∀ (d k : Nat), nS l bs k ≤ nS l bs (k + d)
  | 0, k => Nat.le_refl _
  | d + 1, k => by
    have := nS_mono (l := l) (bs := bs) d k
    rw [show k + (d + 1) = k + d + 1 from rfl, nS_next]
    omega
theorem getD_left {α : Type} {A B : List α} {d : α} {i : Nat} (h : i < A.length) : (A ++ B).getD i d = A.getD i d := by
  rw [List.getD_eq_getElem?_getD, List.getElem?_append_left h, List.getD_eq_getElem?_getD]
theorem getD_map_right {α β : Type} {A : List β} {B : List α} {f : α → β} {d : β} {d' : α} {i : Nat} (h : i < B.length) : (A ++ B.map f).getD (A.length + i) d = f (B.getD i d') := by
  rw [List.getD_eq_getElem?_getD, List.getElem?_append_right (by omega), Nat.add_sub_cancel_left, List.getElem?_map, List.getElem?_eq_getElem h, List.getD_eq_getElem?_getD, List.getElem?_eq_getElem h]
  rfl
theorem joint_at {l : List ScT} {bs : List PT} {k i : Nat} (hi : i < (l.getD k Sc0).1.1.length) : ∀ d : Nat, (joinN l bs (k + 1 + d)).1.getD (nJ l bs k + i) J0 = jJ (letV k) (nJ l bs k) (bs.getD k P0) ((l.getD k Sc0).1.1.getD i J0)
  | 0 => by
    rw [Nat.add_zero, joinN]
    unfold addV nJ
    exact getD_map_right hi
  | d + 1 => by
    have ih := joint_at (bs := bs) hi d
    have hm := nJ_mono (l := l) (bs := bs) d (k + 1)
    rw [nJ_next] at hm
    rw [show k + 1 + (d + 1) = (k + 1 + d) + 1 from rfl, joinN]
    unfold addV
    simp only []
    rw [getD_left (by unfold nJ at hm ⊢; omega)]
    exact ih
theorem shape_at {l : List ScT} {bs : List PT} {k i : Nat} (hi : i < (l.getD k Sc0).2.1.length) : ∀ d : Nat, (joinN l bs (k + 1 + d)).2.2.1.getD (nS l bs k + i) Sh0 = sJ (nJ l bs k) (bs.getD k P0) ((l.getD k Sc0).2.1.getD i Sh0)
  | 0 => by
    rw [Nat.add_zero, joinN]
    unfold addV nS nJ
    exact getD_map_right hi
  | d + 1 => by
    have ih := shape_at (bs := bs) hi d
    have hm := nS_mono (l := l) (bs := bs) d (k + 1)
    rw [nS_next] at hm
    rw [show k + 1 + (d + 1) = (k + 1 + d) + 1 from rfl, joinN]
    unfold addV
    simp only []
    rw [getD_left (by unfold nS at hm ⊢; omega)]
    exact ih
/-- A link of scene k in the joined scene. -/
def rn (n : Nat) (a : Int) : Int := if a = -1 then -1 else a + n
theorem renV_rn {n : Nat} {a : Int} (hn : n ≤ 1000) (h0 : -1 ≤ a) (h1 : a ≤ 1000) : renV a n = rn n a := by
  unfold renV rn
  by_cases h : a = -1
  · rw [bif_eq h, if_pos h, h]
  · rw [bif_neq h, if_neg h, w64 (by omega) (by omega)]
theorem rn_inj {n : Nat} {a b : Int} (h : -1 ≤ a) (h' : -1 ≤ b) (e : rn n a = rn n b) : a = b := by
  unfold rn at e
  split at e <;> split at e <;> omega
theorem rn_beq {n : Nat} {a b : Int} (h : -1 ≤ a) (h' : -1 ≤ b) : (rn n a == rn n b) = (a == b) := by
  rw [Bool.eq_iff_iff, beq_iff_eq, beq_iff_eq]
  exact ⟨rn_inj h h', fun e => by rw [e]⟩
theorem skip_join {l : List ScT} {bs : List PT} (hv : ∀ i, i < l.length → chkSc (l.getD i Sc0) = 0) (hl : l.length ≤ 4) {k : Nat} (hk : k < l.length) {a b : Int} (ha : -1 ≤ a ∧ a < ((l.getD k Sc0).1.1.length : Int)) (hb : -1 ≤ b ∧ b < ((l.getD k Sc0).1.1.length : Int)) (hab : a ≠ b) :
    ∀ m, m ≤ l.length → (joinN l bs m).2.2.2.any (fun x => skipOne x (rn (nJ l bs k) a) (rn (nJ l bs k) b)) = (decide (k < m) && (l.getD k Sc0).2.2.any fun x => skipOne x a b)
  | 0, _ => by
    rw [decide_eq_false (by omega)]
    rfl
  | m + 1, hm => by
    have ih := skip_join (bs := bs) hv hl hk ha hb hab m (by omega)
    have hsm : ∀ i, i < l.length → SmallS (l.getD i Sc0) := fun i hi => small_of (hv i hi)
    obtain ⟨L1, _⟩ := joinN_len (bs := bs) hsm m (by omega)
    have LM : nJ l bs m ≤ 40 := by unfold nJ; omega
    have hkm := (chkScene_zero (hv m (by omega))).2.2.2.2
    have hjm := (hsm m (by omega)).j
    have hlink : ∀ x ∈ (l.getD m Sc0).2.2, (-1 ≤ x.1 ∧ x.1 < ((l.getD m Sc0).1.1.length : Int)) ∧ (-1 ≤ x.2 ∧ x.2 < ((l.getD m Sc0).1.1.length : Int)) := by
      intro x hx
      obtain ⟨i, hi, e⟩ := mem_getD (d := ((0 : Int), (0 : Int))) hx
      have h := hkm i hi
      rw [e] at h
      unfold chkK at h
      cases h1 : linkB ((l.getD m Sc0).1.1.length : Int) x.1 with
      | false => rw [h1] at h; cases h
      | true =>
        cases h2 : linkB ((l.getD m Sc0).1.1.length : Int) x.2 with
        | false => rw [h1, h2] at h; cases h
        | true => exact ⟨linkB_iff.1 h1, linkB_iff.1 h2⟩
    have hblock : ∀ x ∈ (l.getD m Sc0).2.2, skipOne (kJ (nJ l bs m) x) (rn (nJ l bs k) a) (rn (nJ l bs k) b) = (decide (k = m) && skipOne x a b) := by
      intro x hx
      obtain ⟨⟨x1, x2⟩, x3, x4⟩ := hlink x hx
      unfold kJ
      rw [renV_rn (by omega) x1 (by omega), renV_rn (by omega) x3 (by omega)]
      by_cases e : k = m
      · subst e
        rw [decide_eq_true rfl, Bool.true_and]
        unfold skipOne
        simp only []
        rw [rn_beq x1 ha.1, rn_beq x3 hb.1, rn_beq x1 hb.1, rn_beq x3 ha.1]
      · rw [decide_eq_false e, Bool.false_and]
        have hd : nJ l bs (m + 1) ≤ nJ l bs k ∨ nJ l bs (k + 1) ≤ nJ l bs m := by
          rcases Nat.lt_or_ge m k with h | h
          · have := nJ_mono (l := l) (bs := bs) (k - (m + 1)) (m + 1)
            rw [show m + 1 + (k - (m + 1)) = k by omega] at this
            exact .inl this
          · have := nJ_mono (l := l) (bs := bs) (m - (k + 1)) (k + 1)
            rw [show k + 1 + (m - (k + 1)) = m by omega] at this
            exact .inr this
        rw [nJ_next, nJ_next] at hd
        have far : ∀ u v : Int, -1 ≤ u → u < ((l.getD m Sc0).1.1.length : Int) → -1 ≤ v → v < ((l.getD k Sc0).1.1.length : Int) → v ≠ -1 → (rn (nJ l bs m) u == rn (nJ l bs k) v) = false := by
          intro u v u1 u2 v1 v2 v3
          rw [beq_eq_false_iff_ne]
          unfold rn
          rw [if_neg v3]
          split <;> omega
        unfold skipOne
        simp only []
        by_cases a0 : a = -1
        · have b0 : b ≠ -1 := by omega
          rw [far x.2 b x3 x4 hb.1 hb.2 b0, far x.1 b x1 x2 hb.1 hb.2 b0, Bool.and_false, Bool.false_and]
          rfl
        · rw [far x.1 a x1 x2 ha.1 ha.2 a0, far x.2 a x3 x4 ha.1 ha.2 a0, Bool.and_false, Bool.false_and]
          rfl
    rw [joinN]
    unfold addV
    simp only []
    rw [List.any_append, ih, List.any_map]
    have hany : (l.getD m Sc0).2.2.any ((fun x => skipOne x (rn (nJ l bs k) a) (rn (nJ l bs k) b)) ∘ kJ ((joinN l bs m).1.length : Int)) = (decide (k = m) && (l.getD m Sc0).2.2.any fun x => skipOne x a b) := by
      have : ∀ q : List SkT, (∀ x ∈ q, x ∈ (l.getD m Sc0).2.2) → q.any ((fun x => skipOne x (rn (nJ l bs k) a) (rn (nJ l bs k) b)) ∘ kJ ((joinN l bs m).1.length : Int)) = (decide (k = m) && q.any fun x => skipOne x a b) := by
        intro q
        induction q with
        | nil => intro _; simp
        | cons y q ihq =>
          intro hq
          rw [List.any_cons, List.any_cons, ihq fun x hx => hq x (List.mem_cons_of_mem _ hx)]
          show (skipOne (kJ (nJ l bs m) y) (rn (nJ l bs k) a) (rn (nJ l bs k) b) || _) = _
          rw [hblock y (hq y (List.mem_cons_self ..))]
          cases decide (k = m) <;> simp
      exact this _ fun x hx => hx
    rw [hany]
    by_cases e : k = m
    · subst e
      rw [decide_eq_false (Nat.lt_irrefl k), decide_eq_true rfl, decide_eq_true (Nat.lt_succ_self k)]
      simp
    · rw [decide_eq_false e]
      have : decide (k < m) = decide (k < m + 1) := by
        by_cases c : k < m
        · rw [decide_eq_true c, decide_eq_true (by omega)]
        · rw [decide_eq_false c, decide_eq_false (by omega)]
      rw [this]
      simp
end Go.Abs
