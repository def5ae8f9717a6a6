/- A part of the proof that the text with the row names: printed readings of functions, or plain lemmas about them. -/
import Derived.Test.YtomabhiochmojaaC35J6
set_option linter.unusedVariables false
set_option linter.unusedSimpArgs false
namespace Go.Abs
open Go
theorem hasB_iff {l : List Int} {v : Int} : hasB l v = true ↔ v ∈ l := by
  unfold hasB
  rw [anyB_iff]
  constructor
  · rintro ⟨j, _, h2, h3⟩
    rw [beq_iff_eq] at h3
    rw [h3]
    exact getD_mem (by omega)
  · intro h
    obtain ⟨i, hi, e⟩ := mem_getD (d := 0) h
    exact ⟨i, Nat.zero_le _, by omega, by rw [e]; exact beq_self_eq_true v⟩
theorem btwL_iff {js : List JT} {a b x : Int} : ∀ {k i : Nat}, x ∈ btwL js a b i k ↔ ∃ j : Nat, i ≤ j ∧ j < i + k ∧ (hasB (chainL js 11 a) (j : Int) == hasB (chainL js 11 b) (j : Int)) = false ∧ x = (j : Int)
  | 0, i => by simp [btwL]; omega
  | k + 1, i => by
    rw [btwL, List.mem_append, btwL_iff]
    constructor
    · rintro (h | ⟨j, h1, h2, h3⟩)
      · cases hb : (hasB (chainL js 11 a) (i : Int) == hasB (chainL js 11 b) (i : Int)) with
        | true => rw [hb, if_pos rfl] at h; cases h
        | false => rw [hb, if_neg (by simp)] at h; simp at h; exact ⟨i, by omega, by omega, hb, h⟩
      · exact ⟨j, by omega, by omega, h3⟩
    · rintro ⟨j, h1, h2, h3, h4⟩
      by_cases e : j = i
      · subst e
        left
        rw [h3, if_neg (by simp), h4]
        simp
      · exact .inr ⟨j, by omega, by omega, h3, h4⟩
theorem movB_iff {js : List JT} {a b : Int} {n : Nat} : movB js (btwL js a b 0 n) = true ↔ ∃ j : Nat, j < n ∧ ¬ ((j : Int) ∈ chainL js 11 a ↔ (j : Int) ∈ chainL js 11 b) ∧ lo__ js j < hi__ js j := by
  unfold movB
  rw [anyB_iff]
  constructor
  · rintro ⟨i, _, h2, h3⟩
    have h3 := of_decide_eq_true h3
    obtain ⟨j, _, j2, j3, j4⟩ := btwL_iff.1 (getD_mem (d := 0) (show i < (btwL js a b 0 n).length by omega))
    rw [j4] at h3
    refine ⟨j, by omega, fun h => ?_, h3⟩
    rw [← hasB_iff, ← hasB_iff, ← Bool.eq_iff_iff] at h
    rw [h] at j3
    simp at j3
  · rintro ⟨j, h1, h2, h3⟩
    have hm : (j : Int) ∈ btwL js a b 0 n := btwL_iff.2 ⟨j, Nat.zero_le _, by omega, by
      rw [beq_eq_false_iff_ne]
      intro e
      apply h2
      rw [← hasB_iff, ← hasB_iff, e], rfl⟩
    obtain ⟨i, hi, e⟩ := mem_getD (d := 0) hm
    exact ⟨i, Nat.zero_le _, by omega, by rw [e]; exact decide_eq_true h3⟩
/-- js' has the joints of js from n0 on, renumbered. -/
structure Part (js' js : List JT) (n0 : Nat) : Prop where
  len : n0 + js.length ≤ js'.length
  par : ∀ i, i < js.length → par_ js' ((n0 + i : Nat) : Int) = rn n0 (par_ js (i : Int))
  lo : ∀ i, i < js.length → lo__ js' ((n0 + i : Nat) : Int) = lo__ js (i : Int)
  hi : ∀ i, i < js.length → hi__ js' ((n0 + i : Nat) : Int) = hi__ js (i : Int)
theorem chain_mem {js : List JT} (hd : Down js) : ∀ (f : Nat) (a : Int), -1 ≤ a → a < js.length → ∀ x ∈ chainL js f a, 0 ≤ x ∧ x < (js.length : Int)
  | 0, a, h1, h2, x, hx => by simp [chainL] at hx
  | f + 1, a, h1, h2, x, hx => by
    rw [chainL] at hx
    split at hx
    · cases hx
    · rename_i ha
      rw [List.mem_append] at hx
      have hp := hd a.toNat (by omega)
      rw [show ((a.toNat : Nat) : Int) = a by omega] at hp
      rcases hx with hx | hx
      · exact chain_mem hd f (par_ js a) hp.1 (by omega) x hx
      · simp at hx; omega
theorem chain_part {js' js : List JT} {n0 : Nat} (h : Part js' js n0) (hd : Down js) : ∀ (f : Nat) (a : Int), -1 ≤ a → a < js.length → chainL js' f (rn n0 a) = (chainL js f a).map (· + (n0 : Int))
  | 0, a, h1, h2 => rfl
  | f + 1, a, h1, h2 => by
    rw [chainL, chainL]
    by_cases ha : a = -1
    · rw [if_pos ha, if_pos (by rw [ha]; rfl)]
      rfl
    · have hr : rn n0 a = a + n0 := by unfold rn; rw [if_neg ha]
      have hp := hd a.toNat (by omega)
      rw [show ((a.toNat : Nat) : Int) = a by omega] at hp
      have e := h.par a.toNat (by omega)
      rw [show ((a.toNat : Nat) : Int) = a by omega, show ((n0 + a.toNat : Nat) : Int) = a + n0 by omega] at e
      rw [if_neg ha, if_neg (by omega), hr, e, chain_part h hd f (par_ js a) hp.1 (by omega), List.map_append]
      rfl
theorem mem_shift {l : List Int} {n : Int} {x : Int} : x + n ∈ l.map (· + n) ↔ x ∈ l := by
  rw [List.mem_map]
  constructor
  · rintro ⟨y, hy, e⟩
    have : y = x := by omega
    rwa [← this]
  · exact fun h => ⟨x, h, rfl⟩
theorem rigid_part {js' js : List JT} {n0 : Nat} (h : Part js' js n0) (hd : Down js) {a b : Int} (ha : -1 ≤ a ∧ a < js.length) (hb : -1 ≤ b ∧ b < js.length) : rigidB js' (rn n0 a) (rn n0 b) = rigidB js a b := by
  have hlen := h.len
  have l1 : ∀ c : Int, -1 ≤ c ∧ c < js.length → linkB js'.length (rn n0 c) = true := by
    intro c hc
    refine linkB_of ?_ ?_
    · unfold rn; split <;> omega
    · unfold rn; split <;> omega
  unfold rigidB
  rw [l1 a ha, l1 b hb, linkB_of ha.1 ha.2, linkB_of hb.1 hb.2, Bool.true_and, Bool.true_and, Bool.true_and, Bool.true_and]
  congr 1
  rw [Bool.eq_iff_iff, movB_iff, movB_iff, chain_part h hd 11 a ha.1 ha.2, chain_part h hd 11 b hb.1 hb.2]
  constructor
  · rintro ⟨j, h1, h2, h3⟩
    have hx : ∃ x : Int, (0 ≤ x ∧ x < js.length) ∧ (j : Int) = x + n0 := by
      by_cases c : (j : Int) ∈ (chainL js 11 a).map (· + (n0 : Int))
      · obtain ⟨x, hx, e⟩ := List.mem_map.1 c
        exact ⟨x, chain_mem hd 11 a ha.1 ha.2 x hx, e.symm⟩
      · by_cases c' : (j : Int) ∈ (chainL js 11 b).map (· + (n0 : Int))
        · obtain ⟨x, hx, e⟩ := List.mem_map.1 c'
          exact ⟨x, chain_mem hd 11 b hb.1 hb.2 x hx, e.symm⟩
        · exact absurd ⟨fun q => absurd q c, fun q => absurd q c'⟩ h2
    obtain ⟨x, ⟨x0, x1⟩, e⟩ := hx
    refine ⟨x.toNat, by omega, ?_, ?_⟩
    · rw [show ((x.toNat : Nat) : Int) = x by omega]
      rw [e, mem_shift, mem_shift] at h2
      exact h2
    · have q1 := h.lo x.toNat (by omega)
      have q2 := h.hi x.toNat (by omega)
      rw [show ((n0 + x.toNat : Nat) : Int) = (j : Int) by omega] at q1 q2
      rw [← q1, ← q2]
      exact h3
  · rintro ⟨j, h1, h2, h3⟩
    refine ⟨n0 + j, by omega, ?_, ?_⟩
    · rw [show ((n0 + j : Nat) : Int) = (j : Int) + n0 by omega, mem_shift, mem_shift]
      exact h2
    · rw [h.lo j h1, h.hi j h1]
      exact h3
theorem skipB_any (sk : List SkT) (a b : Int) : skipB sk a b = sk.any fun x => skipOne x a b := by
  rw [Bool.eq_iff_iff, List.any_eq_true]
  unfold skipB
  rw [anyB_iff]
  constructor
  · rintro ⟨j, _, h2, h3⟩
    exact ⟨_, getD_mem (by omega), h3⟩
  · rintro ⟨x, hx, h⟩
    obtain ⟨i, hi, e⟩ := mem_getD (d := ((0 : Int), (0 : Int))) hx
    exact ⟨i, Nat.zero_le _, by omega, by rw [e]; exact h⟩
theorem part_join {l : List ScT} {bs : List PT} (hv : ∀ i, i < l.length → chkSc (l.getD i Sc0) = 0) (hl : l.length ≤ 4) {k : Nat} (hk : k < l.length) : Part (joinN l bs l.length).1 (l.getD k Sc0).1.1 (nJ l bs k) := by
  have hsm : ∀ i, i < l.length → SmallS (l.getD i Sc0) := fun i hi => small_of (hv i hi)
  obtain ⟨L1, _⟩ := joinN_len (bs := bs) hsm k (by omega)
  have LM : nJ l bs k ≤ 40 := by unfold nJ; omega
  have hj := (hsm k hk).j
  have hd := down_of (chkScene_zero (hv k hk)).1
  have hat : ∀ i, i < (l.getD k Sc0).1.1.length → (joinN l bs l.length).1.getD (nJ l bs k + i) J0 = jJ (letV k) (nJ l bs k) (bs.getD k P0) ((l.getD k Sc0).1.1.getD i J0) := by
    intro i hi
    have := joint_at (bs := bs) hi (l.length - (k + 1))
    rwa [show k + 1 + (l.length - (k + 1)) = l.length by omega] at this
  have hm := nJ_mono (l := l) (bs := bs) (l.length - (k + 1)) (k + 1)
  rw [show k + 1 + (l.length - (k + 1)) = l.length by omega, nJ_next] at hm
  refine ⟨hm, fun i hi => ?_, fun i hi => ?_, fun i hi => ?_⟩
  · have hp := hd i hi
    unfold par_ at hp ⊢
    rw [Int.toNat_natCast] at hp
    rw [Int.toNat_natCast, Int.toNat_natCast, hat i hi]
    unfold jJ
    simp only []
    exact renV_rn (by omega) hp.1 (by omega)
  · unfold lo__
    rw [Int.toNat_natCast, Int.toNat_natCast, hat i hi]
    rfl
  · unfold hi__
    rw [Int.toNat_natCast, Int.toNat_natCast, hat i hi]
    rfl
theorem keep_join {l : List ScT} {bs : List PT} (hv : ∀ i, i < l.length → chkSc (l.getD i Sc0) = 0) (hl : l.length ≤ 4) {k : Nat} (hk : k < l.length) {i j : Nat} (hi : i < (l.getD k Sc0).2.1.length) (hj : j < (l.getD k Sc0).2.1.length) :
    keepB (joinN l bs l.length).1 (joinN l bs l.length).2.2.1 (joinN l bs l.length).2.2.2 (nS l bs k + i) (nS l bs k + j) = keepB (l.getD k Sc0).1.1 (l.getD k Sc0).2.1 (l.getD k Sc0).2.2 i j := by
  have hsm : ∀ i, i < l.length → SmallS (l.getD i Sc0) := fun i hi => small_of (hv i hi)
  obtain ⟨L1, _⟩ := joinN_len (bs := bs) hsm k (by omega)
  have LM : nJ l bs k ≤ 40 := by unfold nJ; omega
  have hjl := (hsm k hk).j
  obtain ⟨z1, _, z3, _, _⟩ := chkScene_zero (hv k hk)
  have hd := down_of z1
  have hp := part_join (bs := bs) hv hl hk
  have hlk : ∀ i, i < (l.getD k Sc0).2.1.length → -1 ≤ lk (l.getD k Sc0).2.1 i ∧ lk (l.getD k Sc0).2.1 i < ((l.getD k Sc0).1.1.length : Int) := fun i hi => linkB_iff.1 (kindsS z3 hi)
  have hat : ∀ i, i < (l.getD k Sc0).2.1.length → lk (joinN l bs l.length).2.2.1 (nS l bs k + i) = rn (nJ l bs k) (lk (l.getD k Sc0).2.1 i) := by
    intro i hi
    have := shape_at (bs := bs) hi (l.length - (k + 1))
    rw [show k + 1 + (l.length - (k + 1)) = l.length by omega] at this
    have q := hlk i hi
    unfold lk at q ⊢
    rw [this]
    unfold sJ
    simp only []
    exact renV_rn (by omega) q.1 (by omega)
  have qi := hlk i hi
  have qj := hlk j hj
  unfold keepB
  rw [hat i hi, hat j hj]
  generalize lk (l.getD k Sc0).2.1 i = a at *
  generalize lk (l.getD k Sc0).2.1 j = b at *
  by_cases e : a = b
  · subst e
    simp
  · have e1 : (rn (nJ l bs k) a != rn (nJ l bs k) b) = (a != b) := by unfold bne; rw [rn_beq qi.1 qj.1]
    rw [e1, rigid_part hp hd qi qj, skipB_any, skip_join hv hl hk qi qj e l.length (Nat.le_refl _), decide_eq_true hk, Bool.true_and, ← skipB_any]
/-- Each pair of a scene is a pair of the joined scene, at the shifted places. -/
theorem pair_join {l : List ScT} {bs : List PT} (hv : ∀ i, i < l.length → chkSc (l.getD i Sc0) = 0) (hl : l.length ≤ 4) {k : Nat} (hk : k < l.length) {p : SkT} (h : p ∈ allP (keepB (l.getD k Sc0).1.1 (l.getD k Sc0).2.1 (l.getD k Sc0).2.2) (l.getD k Sc0).2.1.length 0 (l.getD k Sc0).2.1.length) :
    (p.1 + nS l bs k, p.2 + nS l bs k) ∈ allP (keepB (joinN l bs l.length).1 (joinN l bs l.length).2.2.1 (joinN l bs l.length).2.2.2) (joinN l bs l.length).2.2.1.length 0 (joinN l bs l.length).2.2.1.length := by
  obtain ⟨a, b, _, h2, h3, h4, h5⟩ := (allP_iff (by omega)).1 h
  have hm := nS_mono (l := l) (bs := bs) (l.length - (k + 1)) (k + 1)
  rw [show k + 1 + (l.length - (k + 1)) = l.length by omega, nS_next] at hm
  unfold nS at hm
  refine (allP_iff (by omega)).2 ⟨nS l bs k + a, nS l bs k + b, Nat.zero_le _, by omega, by unfold nS; omega, ?_, ?_⟩
  · rw [keep_join hv hl hk (by omega) h3]
    exact h4
  · rw [h5]
    simp only [Prod.mk.injEq]
    omega
end Go.Abs
