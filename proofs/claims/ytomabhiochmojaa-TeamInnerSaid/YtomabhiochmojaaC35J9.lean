/- A part of the proof that the text with the row names: printed readings of functions, or plain lemmas about them. -/
import Derived.Test.YtomabhiochmojaaC35J8
set_option linter.unusedVariables false
set_option linter.unusedSimpArgs false
namespace Go.Abs
open Go
abbrev ownP (l : List ScT) (k : Nat) : List SkT := allP (keepB (l.getD k Sc0).1.1 (l.getD k Sc0).2.1 (l.getD k Sc0).2.2) (l.getD k Sc0).2.1.length 0 (l.getD k Sc0).2.1.length
abbrev allO (l : List ScT) (bs : List PT) : List SkT := allP (keepB (joinN l bs l.length).1 (joinN l bs l.length).2.2.1 (joinN l bs l.length).2.2.2) (joinN l bs l.length).2.2.1.length 0 (joinN l bs l.length).2.2.1.length
def InnerOk (l : List ScT) (bs : List PT) (k : Nat) (res : List Int) : Prop :=
  res.length = (ownP l k).length ∧ ∀ i, i < (ownP l k).length → ∃ j : Nat, j < (allO l bs).length ∧ res.getD i 0 = (j : Int) ∧ (allO l bs).getD j (0, 0) = (((ownP l k).getD i (0, 0)).1 + nS l bs k, ((ownP l k).getD i (0, 0)).2 + nS l bs k)
theorem nodup_getD {l : List SkT} (h : l.Nodup) {a b : Nat} (ha : a < l.length) (hb : b < l.length) (e : l.getD a (0, 0) = l.getD b (0, 0)) : a = b := by
  rw [List.getD_eq_getElem?_getD, List.getD_eq_getElem?_getD, List.getElem?_eq_getElem ha, List.getElem?_eq_getElem hb] at e
  have e : l[a] = l[b] := e
  have hp := List.pairwise_iff_getElem.1 h
  rcases Nat.lt_trichotomy a b with c | c | c
  · exact absurd e (hp a b ha hb c)
  · exact c
  · exact absurd e.symm (hp b a hb ha c)
theorem inner_unique {l : List ScT} {bs : List PT} {k : Nat} {r r' : List Int} (h : InnerOk l bs k r) (h' : InnerOk l bs k r') : r = r' := by
  obtain ⟨h1, h2⟩ := h
  obtain ⟨h3, h4⟩ := h'
  refine List.ext_getElem (by omega) fun i hi hi' => ?_
  obtain ⟨j, a1, a2, a3⟩ := h2 i (by omega)
  obtain ⟨j', b1, b2, b3⟩ := h4 i (by omega)
  have e := nodup_getD (allP_nodup _ _ (Nat.zero_add _)) a1 b1 (a3.trans b3.symm)
  rw [List.getD_eq_getElem?_getD, List.getElem?_eq_getElem hi] at a2
  rw [List.getD_eq_getElem?_getD, List.getElem?_eq_getElem hi'] at b2
  have a2 : r[i] = (j : Int) := a2
  have b2 : r'[i] = (j' : Int) := b2
  rw [a2, b2, e]
/-- What a join without error says. -/
theorem join_ok {l : List ScT} {bs : List PT} (h : (joinV l bs).2.2.2.2 = 0) : l.length ≤ 4 ∧ (∀ i, i < l.length → chkSc (l.getD i Sc0) = 0) ∧ chkO (joinN l bs l.length) = 0 ∧ joinV l bs = ((joinN l bs l.length).1, ((joinN l bs l.length).2.1, ((joinN l bs l.length).2.2.1, ((joinN l bs l.length).2.2.2, 0)))) := by
  unfold joinV at h ⊢
  by_cases a : (l.length : Int) < 1
  · rw [dif_dec a] at h; cases h
  · rw [dif_ndec a] at h ⊢
    by_cases b : (l.length : Int) > 4
    · rw [dif_dec b] at h; cases h
    · rw [dif_ndec b] at h ⊢
      by_cases c : bs.length ≠ l.length
      · rw [dif_dec c] at h; cases h
      · rw [dif_ndec c] at h ⊢
        by_cases d : errsL l = 0
        · rw [bif_nne d] at h ⊢
          by_cases e : chkO (joinN l bs l.length) = 0
          · rw [bif_nne e]
            exact ⟨by omega, fun i hi => firstErr_iff.1 d i (Nat.zero_le _) (by omega), e, rfl⟩
          · rw [bif_ne e] at h; cases h
        · rw [bif_ne d] at h
          exact absurd h d
theorem sizes {l : List ScT} {bs : List PT} (hv : ∀ i, i < l.length → chkSc (l.getD i Sc0) = 0) (hO : chkO (joinN l bs l.length) = 0) (hl : l.length ≤ 4) : (allO l bs).length ≤ 576 ∧ (∀ k, k < l.length → (ownP l k).length ≤ 576) ∧ ∀ k, k ≤ l.length → nS l bs k ≤ 96 := by
  have hsm : ∀ i, i < l.length → SmallS (l.getD i Sc0) := fun i hi => small_of (hv i hi)
  refine ⟨?_, fun k hk => ?_, fun k hk => ?_⟩
  · have h1 := (chkScene_zero hO).2.1
    have h2 := allP_length (P := keepB (joinN l bs l.length).1 (joinN l bs l.length).2.2.1 (joinN l bs l.length).2.2.2) (n := (joinN l bs l.length).2.2.1.length) (joinN l bs l.length).2.2.1.length 0
    exact Nat.le_trans h2 (Nat.le_trans (Nat.mul_le_mul h1 h1) (by decide))
  · have h1 := (hsm k hk).s
    have h2 := allP_length (P := keepB (l.getD k Sc0).1.1 (l.getD k Sc0).2.1 (l.getD k Sc0).2.2) (n := (l.getD k Sc0).2.1.length) (l.getD k Sc0).2.1.length 0
    exact Nat.le_trans h2 (Nat.le_trans (Nat.mul_le_mul h1 h1) (by decide))
  · obtain ⟨_, _, h, _⟩ := joinN_len (bs := bs) hsm k hk
    unfold nS
    omega
theorem nS_take {l : List ScT} {bs : List PT} {k i : Nat} (hi : i < k) (hk : k ≤ l.length) : nS l bs (i + 1) = nS l bs i + ((l.take k).getD i Sc0).2.1.length := by
  rw [nS_next]
  have : (l.take k).getD i Sc0 = l.getD i Sc0 := by
    rw [List.getD_eq_getElem?_getD, List.getElem?_take, if_pos hi, List.getD_eq_getElem?_getD]
  rw [this]
theorem own_mem {l : List ScT} {bs : List PT} (hv : ∀ i, i < l.length → chkSc (l.getD i Sc0) = 0) (hl : l.length ≤ 4) {k i : Nat} (hk : k < l.length) (hi : i < (ownP l k).length) : ((((ownP l k).getD i (0, 0)).1 + nS l bs k, ((ownP l k).getD i (0, 0)).2 + nS l bs k) : SkT) ∈ allO l bs ∧ (0 ≤ ((ownP l k).getD i (0, 0)).1 ∧ ((ownP l k).getD i (0, 0)).1 ≤ 24) ∧ (0 ≤ ((ownP l k).getD i (0, 0)).2 ∧ ((ownP l k).getD i (0, 0)).2 ≤ 24) := by
  have hm : (ownP l k).getD i (0, 0) ∈ ownP l k := getD_mem hi
  refine ⟨pair_join hv hl hk hm, ?_⟩
  obtain ⟨a, b, _, h2, h3, _, h5⟩ := (allP_iff (Nat.zero_add _)).1 hm
  have h24 := (small_of (hv k hk)).s
  rw [h5]
  simp only []
  omega
theorem inner_val {l : List ScT} {bs : List PT} (hL : BigL l) {k : Nat} (hk : k < l.length) (h : (joinV l bs).2.2.2.2 = 0) : ∃ res, team_Inner.F l bs (k : Int) = some (true, res) ∧ InnerOk l bs k res := by
  have eS : ((([] : List JT), ([] : List MT)), (([] : List ShT), ([] : List SkT))) = Sc0 := rfl
  obtain ⟨h4, hv, hO, hj⟩ := join_ok h
  obtain ⟨z1, z2, z3⟩ := sizes hv hO h4
  have z2 := z2 k hk
  have z3k := z3 k (by omega)
  rw [team_Inner.F_eq]
  unfold team_Inner.F0
  rw [join_val bs hL, Option.bind_some, hj]
  simp only []
  rw [bif_nne rfl, dif_ndec (by omega), dif_ndec (by omega), dif_dec (by omega), dif_dec (by omega), Int.toNat_natCast]
  have htl : (l.take k).length = k := by rw [List.length_take]; omega
  have l0 := loop_count (step := team_Inner.p0.step) (fun i : Nat => (l, (k : Int), ((nS l bs i : Nat) : Int), l.take k, ((l.take k).length : Int), (i : Int), (joinN l bs l.length).1, (joinN l bs l.length).2.1, (joinN l bs l.length).2.2.1, (joinN l bs l.length).2.2.2)) k (l, (k : Int), ((nS l bs k : Nat) : Int), (joinN l bs l.length).1, (joinN l bs l.length).2.1, (joinN l bs l.length).2.2.1, (joinN l bs l.length).2.2.2) (by
    intro i hi
    have hn := nS_take (bs := bs) hi (by omega : k ≤ l.length)
    have z := z3 (i + 1) (by omega)
    unfold team_Inner.p0.step team_Inner.p0.round
    simp only [Int.toNat_natCast, eS]
    rw [dif_dec (by omega), dif_dec (by omega), dif_dec (by omega), w64 (n := (i : Int) + 1) (by omega) (by omega), w64 (n := ((nS l bs i : Nat) : Int) + (((l.take k).getD i Sc0).2.1.length : Int)) (by omega) (by omega), show ((nS l bs i : Nat) : Int) + (((l.take k).getD i Sc0).2.1.length : Int) = ((nS l bs (i + 1) : Nat) : Int) by omega]
    rfl) (by
    unfold team_Inner.p0.step team_Inner.p0.round
    simp only []
    rw [dif_ndec (by omega)]) k 0 (by omega)
  rw [show ((0 : Nat) : Int) = 0 from rfl, show nS l bs 0 = 0 from rfl, show ((0 : Nat) : Int) = 0 from rfl] at l0
  rw [l0, Option.bind_some]
  simp only [Int.toNat_natCast, eS]
  have hown := hv k hk
  unfold chkSc at hown
  rw [pairs_val hO, Option.bind_some, dif_dec (by omega), dif_dec (by omega), pairs_val hown, Option.bind_some]
  have l1 : ∀ (m i : Nat) (out : List Int), i + m = (ownP l k).length → out.length = i → (∀ q, q < i → ∃ j : Nat, j < (allO l bs).length ∧ out.getD q 0 = (j : Int) ∧ (allO l bs).getD j (0, 0) = (((ownP l k).getD q (0, 0)).1 + nS l bs k, ((ownP l k).getD q (0, 0)).2 + nS l bs k)) →
      ∃ res, loopF team_Inner.p1.step (((nS l bs k : Nat) : Int), ((ownP l k).length : Int), (i : Int), allO l bs, out, ownP l k) = some res ∧ InnerOk l bs k res := by
    intro m
    induction m with
    | zero =>
      intro i out hi ho hq
      refine ⟨out, loop_end ?_, by omega, fun q hq' => hq q (by omega)⟩
      unfold team_Inner.p1.step team_Inner.p1.round
      simp only []
      rw [dif_ndec (by omega)]
    | succ m ih =>
      intro i out hi ho hq
      obtain ⟨m1, m2, m3⟩ := own_mem (bs := bs) hv h4 hk (show i < (ownP l k).length by omega)
      obtain ⟨j, j1, j2, j3⟩ := index_val m1 (by omega)
      obtain ⟨res, g1, g2⟩ := ih (i + 1) (out ++ [(j : Int)]) (by omega) (by simp; omega) (by
        intro q hq'
        by_cases e : q = i
        · subst e
          exact ⟨j, j1, by rw [List.getD_eq_getElem?_getD, List.getElem?_append_right (by omega), ho, Nat.sub_self]; rfl, j2⟩
        · rw [getD_left (by omega)]
          exact hq q (by omega))
      refine ⟨res, loop_next ?_ g1, g2⟩
      simp only [] at j3
      unfold team_Inner.p1.step team_Inner.p1.round
      simp only [List.length_cons, List.length_nil, Int.toNat_natCast]
      rw [dif_dec (by omega), dif_dec (by omega), dif_dec (by omega), w64 (n := ((ownP l k).getD i (0, 0)).1 + ((nS l bs k : Nat) : Int)) (by omega) (by omega), w64 (n := ((ownP l k).getD i (0, 0)).2 + ((nS l bs k : Nat) : Int)) (by omega) (by omega), j3, Option.bind_some, dif_dec (by omega), w64 (n := (i : Int) + 1) (by omega) (by omega)]
      rfl
  obtain ⟨res, g1, g2⟩ := l1 (ownP l k).length 0 [] (by omega) rfl (by intro q hq; omega)
  rw [show ((0 : Nat) : Int) = 0 from rfl] at g1
  refine ⟨res, ?_, g2⟩
  rw [g1]
  rfl
end Go.Abs
