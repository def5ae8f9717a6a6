/- A part of the proof that the text with the row names: printed readings of functions, or plain lemmas about them. -/
import Derived.Test.YtomabhiochmojaaC35GLTeamInner
import Derived.Test.YtomabhiochmojaaC35J9
set_option linter.unusedVariables false
set_option linter.unusedSimpArgs false
namespace Go.Abs
open Go
theorem rinner_pair {n i : Nat} {all own : List SkT} {out : List Int} {j0 : Nat} (hn : n ≤ 96) (hi : i < own.length) (ho : 0 ≤ (own.getD i (0, 0)).1 ∧ (own.getD i (0, 0)).1 ≤ 24) (ho' : 0 ≤ (own.getD i (0, 0)).2 ∧ (own.getD i (0, 0)).2 ≤ 24) (hall : all.length ≤ 576) (hown : own.length ≤ 576) (hout : out.length ≤ 576) (hnd : all.Nodup) (hj : j0 < all.length) (hje : all.getD j0 (0, 0) = ((own.getD i (0, 0)).1 + n, (own.getD i (0, 0)).2 + n)) :
    loopF r32_Inner.p2.step ((n : Int), (i : Int), 0, all, own, out) = some ((n : Int), (i : Int), all, own, out ++ [(j0 : Int)]) := by
  have := loop_count (step := r32_Inner.p2.step) (fun j : Nat => ((n : Int), (i : Int), (j : Int), all, own, if j0 < j then out ++ [(j0 : Int)] else out)) all.length ((n : Int), (i : Int), all, own, out ++ [(j0 : Int)]) (by
    intro j hj'
    have e1 : ((all.getD j (0, 0)).1 == (own.getD i (0, 0)).1 + (n : Int) && (all.getD j (0, 0)).2 == (own.getD i (0, 0)).2 + (n : Int)) = decide (j = j0) := by
      rw [Bool.eq_iff_iff, Bool.and_eq_true, beq_iff_eq, beq_iff_eq, decide_eq_true_eq]
      constructor
      · rintro ⟨a, b⟩
        exact nodup_getD hnd hj' hj (Prod.ext (by rw [hje]; exact a) (by rw [hje]; exact b))
      · intro e
        rw [e, hje]
        exact ⟨rfl, rfl⟩
    unfold r32_Inner.p2.step r32_Inner.p2.round
    simp only [List.length_cons, List.length_nil, Int.toNat_natCast]
    rw [dif_dec (by omega), dif_dec (by omega), dif_dec (by omega), dif_dec (by omega), dif_dec (by omega), w64 (n := (own.getD i (0, 0)).1 + (n : Int)) (by omega) (by omega), dif_dec (by omega), dif_dec (by omega), dif_dec (by omega), dif_dec (by omega), w64 (n := (own.getD i (0, 0)).2 + (n : Int)) (by omega) (by omega), w64 (n := (j : Int) + 1) (by omega) (by omega)]
    by_cases e : j = j0
    · subst e
      rw [decide_eq_true rfl, Bool.and_eq_true] at e1
      rw [e1.1, e1.2, cond_true, cond_true, if_neg (Nat.lt_irrefl j), if_pos (Nat.lt_succ_self j), dif_dec (by omega)]
      rfl
    · rw [decide_eq_false e] at e1
      have hif : (if j0 < j + 1 then out ++ [(j0 : Int)] else out) = (if j0 < j then out ++ [(j0 : Int)] else out) := by
        by_cases c : j0 < j
        · rw [if_pos c, if_pos (by omega)]
        · rw [if_neg c, if_neg (by omega)]
      rw [hif]
      generalize (if j0 < j then out ++ [(j0 : Int)] else out) = O
      rw [Bool.and_eq_false_iff] at e1
      cases c1 : ((all.getD j (0, 0)).1 == (own.getD i (0, 0)).1 + (n : Int)) with
      | false => rfl
      | true =>
        rw [c1] at e1
        rcases e1 with e1 | e1
        · cases e1
        · rw [cond_true, e1]
          rfl) (by
    unfold r32_Inner.p2.step r32_Inner.p2.round
    simp only []
    rw [dif_ndec (by omega), if_pos hj]) all.length 0 (by omega)
  rw [show ((0 : Nat) : Int) = 0 from rfl, if_neg (by omega)] at this
  exact this
theorem rinner_val {l : List ScT} {bs : List PT} (hL : BigL l) {k : Nat} (hk : k < l.length) (h : (joinV l bs).2.2.2.2 = 0) : ∃ res, r32_Inner.F l bs (k : Int) = some (true, res) ∧ InnerOk l bs k res := by
  have eS : ((([] : List JT), ([] : List MT)), (([] : List ShT), ([] : List SkT))) = Sc0 := rfl
  obtain ⟨h4, hv, hO, hj⟩ := join_ok h
  obtain ⟨z1, z2, z3⟩ := sizes hv hO h4
  have z2 := z2 k hk
  have z3k := z3 k (by omega)
  rw [r32_Inner.F_eq]
  unfold r32_Inner.F0
  rw [rjoin_val bs hL, Option.bind_some, hj]
  simp only []
  rw [bif_nne rfl, dif_ndec (by omega), dif_ndec (by omega)]
  have l0 := loop_count (step := r32_Inner.p0.step) (fun i : Nat => (l, (k : Int), ((nS l bs i : Nat) : Int), (i : Int), (joinN l bs l.length).1, (joinN l bs l.length).2.1, (joinN l bs l.length).2.2.1, (joinN l bs l.length).2.2.2)) k (l, (k : Int), ((nS l bs k : Nat) : Int), (joinN l bs l.length).1, (joinN l bs l.length).2.1, (joinN l bs l.length).2.2.1, (joinN l bs l.length).2.2.2) (by
    intro i hi
    have hn := nS_next (l := l) (bs := bs) (k := i)
    have z := z3 (i + 1) (by omega)
    unfold r32_Inner.p0.step r32_Inner.p0.round
    simp only [Int.toNat_natCast, eS]
    rw [dif_dec (by omega), dif_dec (by omega), dif_dec (by omega), w64 (n := (i : Int) + 1) (by omega) (by omega), w64 (n := ((nS l bs i : Nat) : Int) + ((l.getD i Sc0).2.1.length : Int)) (by omega) (by omega), show ((nS l bs i : Nat) : Int) + ((l.getD i Sc0).2.1.length : Int) = ((nS l bs (i + 1) : Nat) : Int) by omega]
    rfl) (by
    unfold r32_Inner.p0.step r32_Inner.p0.round
    simp only []
    rw [dif_ndec (by omega)]) k 0 (by omega)
  rw [show ((0 : Nat) : Int) = 0 from rfl, show nS l bs 0 = 0 from rfl, show ((0 : Nat) : Int) = 0 from rfl] at l0
  rw [l0, Option.bind_some]
  simp only [Int.toNat_natCast, eS]
  have hown := hv k hk
  unfold chkSc at hown
  rw [rpairs_val hO, Option.bind_some, dif_dec (by omega), dif_dec (by omega), rpairs_val hown, Option.bind_some]
  have l1 : ∀ (m i : Nat) (out : List Int), i + m = (ownP l k).length → out.length = i → (∀ q, q < i → ∃ j : Nat, j < (allO l bs).length ∧ out.getD q 0 = (j : Int) ∧ (allO l bs).getD j (0, 0) = (((ownP l k).getD q (0, 0)).1 + nS l bs k, ((ownP l k).getD q (0, 0)).2 + nS l bs k)) →
      ∃ res, loopF r32_Inner.p1.step (((nS l bs k : Nat) : Int), (i : Int), allO l bs, ownP l k, out) = some res ∧ InnerOk l bs k res := by
    intro m
    induction m with
    | zero =>
      intro i out hi ho hq
      refine ⟨out, loop_end ?_, by omega, fun q hq' => hq q (by omega)⟩
      unfold r32_Inner.p1.step r32_Inner.p1.round
      simp only []
      rw [dif_ndec (by omega)]
    | succ m ih =>
      intro i out hi ho hq
      obtain ⟨m1, m2, m3⟩ := own_mem (bs := bs) hv h4 hk (show i < (ownP l k).length by omega)
      obtain ⟨j, j1, j2⟩ := mem_getD (d := ((0 : Int), (0 : Int))) m1
      have hp := rinner_pair (out := out) z3k (show i < (ownP l k).length by omega) m2 m3 z1 z2 (by omega) (allP_nodup _ _ (Nat.zero_add _)) j1 j2
      obtain ⟨res, g1, g2⟩ := ih (i + 1) (out ++ [(j : Int)]) (by omega) (by simp; omega) (by
        intro q hq'
        by_cases e : q = i
        · subst e
          exact ⟨j, j1, by rw [List.getD_eq_getElem?_getD, List.getElem?_append_right (by omega), ho, Nat.sub_self]; rfl, j2⟩
        · rw [getD_left (by omega)]
          exact hq q (by omega))
      refine ⟨res, loop_next ?_ g1, g2⟩
      unfold r32_Inner.p1.step r32_Inner.p1.round
      simp only []
      rw [dif_dec (by omega), hp, Option.bind_some]
      simp only []
      rw [w64 (n := (i : Int) + 1) (by omega) (by omega)]
      rfl
  obtain ⟨res, g1, g2⟩ := l1 (ownP l k).length 0 [] (by omega) rfl (by intro q hq; omega)
  rw [show ((0 : Nat) : Int) = 0 from rfl] at g1
  refine ⟨res, ?_, g2⟩
  rw [g1]
  rfl

theorem inner_both {l : List ScT} (bs : List PT) (hL : BigL l) (k : Int) : ∃ ok res, team_Inner.F l bs k = some (ok, res) ∧ r32_Inner.F l bs k = some (ok, res) ∧ (ok = false → res = []) ∧ (ok = true → ∃ k' : Nat, k' < l.length ∧ (joinV l bs).2.2.2.2 = 0 ∧ InnerOk l bs k' res) := by
  by_cases hj : (joinV l bs).2.2.2.2 = 0
  · by_cases hk : 0 ≤ k ∧ k < l.length
    · obtain ⟨r, a1, a2⟩ := inner_val (bs := bs) hL (show k.toNat < l.length by omega) hj
      obtain ⟨r', b1, b2⟩ := rinner_val (bs := bs) hL (show k.toNat < l.length by omega) hj
      have e := inner_unique a2 b2
      subst e
      rw [show ((k.toNat : Nat) : Int) = k by omega] at a1 b1
      exact ⟨true, r, a1, b1, fun h => (by cases h), fun _ => ⟨k.toNat, by omega, hj, a2⟩⟩
    · refine ⟨false, [], ?_, ?_, fun _ => rfl, fun h => by cases h⟩
      · rw [team_Inner.F_eq]
        unfold team_Inner.F0
        rw [join_val bs hL, Option.bind_some, bif_nne hj]
        by_cases c : k < 0
        · rw [dif_dec c]
        · rw [dif_ndec c, dif_dec (by omega)]
      · rw [r32_Inner.F_eq]
        unfold r32_Inner.F0
        rw [rjoin_val bs hL, Option.bind_some, bif_nne hj]
        by_cases c : k < 0
        · rw [dif_dec c]
        · rw [dif_ndec c, dif_dec (by omega)]
  · refine ⟨false, [], ?_, ?_, fun _ => rfl, fun h => by cases h⟩
    · rw [team_Inner.F_eq]
      unfold team_Inner.F0
      rw [join_val bs hL, Option.bind_some, bif_ne hj]
    · rw [r32_Inner.F_eq]
      unfold r32_Inner.F0
      rw [rjoin_val bs hL, Option.bind_some, bif_ne hj]
theorem restr_loop {a3 a5 z1 z2 z3 z4 : Int} {a6 a7 res : List Int} {ns : List PT} (hr : res.length ≤ 576) (hin : ∀ i, i < res.length → 0 ≤ res.getD i 0 ∧ res.getD i 0 < (ns.length : Int)) :
    loopF team_Restrict.p0.step ((res.length : Int), 0, a3, ns, a5, a6, a7, z1, z2, z3, z4, res, ([] : List PT)) = some (z1, z2, z3, z4, res.map fun i => ns.getD i.toNat P0) := by
  have := loop_count (step := team_Restrict.p0.step) (fun i : Nat => ((res.length : Int), (i : Int), a3, ns, a5, a6, a7, z1, z2, z3, z4, res, (res.take i).map fun i => ns.getD i.toNat P0)) res.length (z1, z2, z3, z4, res.map fun i => ns.getD i.toNat P0) (by
    intro i hi
    obtain ⟨h1, h2⟩ := hin i hi
    have hlen : ((res.take i).map fun i => ns.getD i.toNat P0).length ≤ 576 := by rw [List.length_map, List.length_take]; omega
    rw [take_next (d := 0) _ hi]
    unfold team_Restrict.p0.step team_Restrict.p0.round
    simp only [List.length_cons, List.length_nil, Int.toNat_natCast]
    generalize ((res.take i).map fun i => ns.getD i.toNat P0) = O at *
    rw [dif_dec (by omega), dif_dec (by omega), dif_dec (by omega), dif_dec (by omega), dif_dec (by omega), dif_dec (by omega), w64 (n := (i : Int) + 1) (by omega) (by omega)]
    rfl) (by
    unfold team_Restrict.p0.step team_Restrict.p0.round
    simp only [List.take_length]
    rw [dif_ndec (by omega)]) res.length 0 (by omega)
  exact this
theorem rrestr_loop {a3 a5 z1 z2 z3 z4 : Int} {a6 a7 res : List Int} {ns : List PT} (hr : res.length ≤ 576) (hin : ∀ i, i < res.length → 0 ≤ res.getD i 0 ∧ res.getD i 0 < (ns.length : Int)) :
    loopF r32_Restrict.p0.step (0, a3, ns, a5, a6, a7, z1, z2, res, z3, z4, ([] : List PT)) = some (z1, z2, z3, z4, res.map fun i => ns.getD i.toNat P0) := by
  have := loop_count (step := r32_Restrict.p0.step) (fun i : Nat => ((i : Int), a3, ns, a5, a6, a7, z1, z2, res, z3, z4, (res.take i).map fun i => ns.getD i.toNat P0)) res.length (z1, z2, z3, z4, res.map fun i => ns.getD i.toNat P0) (by
    intro i hi
    obtain ⟨h1, h2⟩ := hin i hi
    have hlen : ((res.take i).map fun i => ns.getD i.toNat P0).length ≤ 576 := by rw [List.length_map, List.length_take]; omega
    rw [take_next (d := 0) _ hi]
    unfold r32_Restrict.p0.step r32_Restrict.p0.round
    simp only [List.length_cons, List.length_nil, Int.toNat_natCast]
    generalize ((res.take i).map fun i => ns.getD i.toNat P0) = O at *
    rw [dif_dec (by omega), dif_dec (by omega), dif_dec (by omega), dif_dec (by omega), dif_dec (by omega), dif_dec (by omega), w64 (n := (i : Int) + 1) (by omega) (by omega)]
    rfl) (by
    unfold r32_Restrict.p0.step r32_Restrict.p0.round
    simp only [List.take_length]
    rw [dif_ndec (by omega)]) res.length 0 (by omega)
  exact this
theorem restrict_both {l : List ScT} (bs : List PT) (hL : BigL l) (k kind a5 : Int) (ns : List PT) (a6 a7 : List Int) : ∃ r, team_Restrict.F l bs k kind ns a5 a6 a7 = some r ∧ r32_Restrict.F l bs k kind ns a5 a6 a7 = some r ∧ r.2.1.length ≤ 576 ∧ r.2.2.2.1 = [] ∧ r.2.2.2.2.1 = [] := by
  obtain ⟨ok, res, h1, h2, h3, h4⟩ := inner_both bs hL k
  rw [team_Restrict.F_eq, r32_Restrict.F_eq]
  unfold team_Restrict.F0 r32_Restrict.F0
  rw [h1, h2, Option.bind_some, Option.bind_some, rjoin_val bs hL, Option.bind_some]
  simp only []
  cases ok with
  | false => exact ⟨_, rfl, rfl, by simp, rfl, rfl⟩
  | true =>
    obtain ⟨k', k1, k2, k3, k4⟩ := h4 rfl
    obtain ⟨q1, hv, hO, hjv⟩ := join_ok k2
    obtain ⟨z1, z2, z3⟩ := sizes hv hO q1
    have z2 := z2 k' k1
    rw [Bool.not_true, cond_false, cond_false]
    by_cases c : kind = 1
    · rw [bif_nne c, bif_nne c, join_val bs hL, Option.bind_some, hjv]
      simp only []
      rw [pairs_val hO, rpairs_val hO, Option.bind_some, Option.bind_some]
      by_cases d : (ns.length : Int) = ((allO l bs).length : Int)
      · have hin : ∀ i, i < res.length → 0 ≤ res.getD i 0 ∧ res.getD i 0 < (ns.length : Int) := by
          intro i hi
          obtain ⟨j, j1, j2, _⟩ := k4 i (by omega)
          rw [j2]
          omega
        rw [bif_nne d, bif_nne d, restr_loop (by omega) hin, rrestr_loop (by omega) hin]
        exact ⟨_, rfl, rfl, by simp only [List.length_map]; omega, rfl, rfl⟩
      · rw [bif_ne d, bif_ne d]
        exact ⟨_, rfl, rfl, by simp, rfl, rfl⟩
    · rw [bif_ne c, bif_ne c]
      exact ⟨_, rfl, rfl, by simp, rfl, rfl⟩
theorem sameInt_val {x y : List Int} (hx : x.length ≤ 2 ^ 60) : mk_Same_int.F x y = some (decide (x = y)) := by
  rw [mk_Same_int.F_eq]
  unfold mk_Same_int.F0
  by_cases a : x.length = y.length
  · rw [bif_nne (by omega)]
    have l0 := loop_find (step := mk_Same_int.p0.step) (fun i : Nat => (x, y, (i : Int))) x.length (fun i => bif (fun i => x.getD i 0 == y.getD i 0) i then none else some (.inl false)) (.inr ()) (by
      intro i hi
      unfold mk_Same_int.p0.step mk_Same_int.p0.round
      simp only []
      simp (disch := omega) only [dif_dec, dif_ndec, bif_eq, bif_neq, bif_ne, bif_nne, w64, wu64, Int.toNat_natCast, Option.bind_some, cond_true, cond_false, Bool.not_true, Bool.not_false, Sum.elim_inl, Sum.elim_inr]
      rw [bne]
      cases (x.getD i 0 == y.getD i 0) <;> rfl) (by
      unfold mk_Same_int.p0.step mk_Same_int.p0.round
      simp only []
      simp (disch := omega) only [dif_dec, dif_ndec, bif_eq, bif_neq, bif_ne, bif_nne, w64, wu64, Int.toNat_natCast, Option.bind_some, cond_true, cond_false, Bool.not_true, Bool.not_false, Sum.elim_inl, Sum.elim_inr]) x.length 0 (by omega)
    rw [show ((0 : Nat) : Int) = 0 from rfl] at l0
    rw [l0, Option.bind_some, findE_all (P := fun i => x.getD i 0 == y.getD i 0) fun j _ _ => rfl, list_all (d := 0) a fun i _ => (Bool.eq_iff_iff.2 (by simp))]
    cases decide (x = y) <;> rfl
  · rw [bif_ne (by omega), decide_eq_false fun h => a (by rw [h])]

theorem sameVerdict_refl {a b : Int} {ns : List PT} (h : ns.length ≤ 2 ^ 60) : mk_SameVerdict.F a ns b [] [] a ns b [] [] = some true := by
  rw [mk_SameVerdict.F_eq]
  unfold mk_SameVerdict.F0
  rw [mk_SameWitness.F_eq]
  unfold mk_SameWitness.F0
  rw [same_Vec h, same64_val (by decide)]
  simp
theorem inner_true {l : List ScT} (bs : List PT) (hL : BigL l) (k kind a5 : Int) (ns : List PT) (a6 a7 : List Int) : l35_inner.F l bs k kind ns a5 a6 a7 = some true := by
  rw [l35_inner.F_eq]
  unfold l35_inner.F0
  obtain ⟨ok, res, h1, h2, h3, h4⟩ := inner_both bs hL k
  obtain ⟨r, g1, g2, g3, g4, g5⟩ := restrict_both bs hL k kind a5 ns a6 a7
  have hlen : res.length ≤ 576 := by
    cases ok with
    | false => rw [h3 rfl]; simp
    | true =>
      obtain ⟨k', k1, k2, k3, k4⟩ := h4 rfl
      obtain ⟨q1, hv, hO, hjv⟩ := join_ok k2
      have := (sizes hv hO q1).2.1 k' k1
      omega
  rw [h1, h2, g1, g2]
  simp only [Option.bind_some, beq_self_eq_true, cond_true]
  rw [sameInt_val (by omega), g4, g5, sameVerdict_refl (by omega)]
  simp
theorem pairs_bad : r6_Pairs.F [] [] [] [] = some [] := by
  rw [r6_Pairs.F_eq]
  unfold r6_Pairs.F0
  rw [rsceneCheck_val (by decide) (by decide) (by decide) (by decide) (by intro j hj; cases hj), Option.bind_some]
  rfl
theorem rpairs_join (l : List ScT) (bs : List PT) : ∃ q, r6_Pairs.F (joinV l bs).1 (joinV l bs).2.1 (joinV l bs).2.2.1 (joinV l bs).2.2.2.1 = some q ∧ q.length ≤ 576 := by
  obtain ⟨_, _, _, _, h5, _⟩ := joinV_small l bs
  by_cases hj : (joinV l bs).2.2.2.2 = 0
  · obtain ⟨q1, hv, hO, hjv⟩ := join_ok hj
    have := (sizes hv hO q1).1
    rw [hjv]
    exact ⟨_, rpairs_val hO, this⟩
  · rcases h5 with h5 | h5
    · exact absurd h5 hj
    · rw [h5]
      exact ⟨[], pairs_bad, by simp⟩
theorem innerl_law {raw : List ScT} {bases ns : List PT} {l m a6 a7 : List Int} (k kind a5 : Int) (hr : raw.length ≤ 2 ^ 60) (hraw : BigL raw) (hl : l.length ≤ 17592186043904) (hm : m.length ≤ 2 ^ 60) : l35_TeamInner.F raw bases k kind ns a5 a6 a7 l m = some true := by
  rw [l35_TeamInner.F_eq]
  unfold l35_TeamInner.F0
  obtain ⟨q, e, hq⟩ := few35_val raw bases hr
  rw [e, Option.bind_some]
  cases q with
  | false => rw [Bool.not_false, cond_true, awake35_true]; rfl
  | true =>
    rw [Bool.not_true, cond_false]
    by_cases c : (ns.length : Int) > 40
    · rw [dif_dec c, awake35_true]; rfl
    · rw [dif_ndec c]
      obtain ⟨xs, bs, e2, h1, h2, h3, h4⟩ := scenes_val hl hm
      have hx := big_of h4
      obtain ⟨P, p1, p2⟩ := rpairs_join xs bs
      rw [e2, Option.bind_some]
      simp only []
      rw [rjoin_val bs hx, Option.bind_some]
      have lp : ∀ (d i : Nat) (out : List PT), i + d = P.length → out.length = i →
          ∃ out', loopF l35_TeamInner.p0.step (raw, bases, k, xs, bs, (i : Int), kind, ns, a5, a6, a7, (joinV xs bs).1, (joinV xs bs).2.1, (joinV xs bs).2.2.1, (joinV xs bs).2.2.2.1, 1, 0, out) = some (raw, bases, k, xs, bs, kind, ns, a5, a6, a7, 1, 0, out') := by
        intro d
        induction d with
        | zero =>
          intro i out hi ho
          refine ⟨out, loop_end ?_⟩
          unfold l35_TeamInner.p0.step l35_TeamInner.p0.round
          simp only []
          rw [p1, Option.bind_some, dif_ndec (by omega)]
        | succ d ih =>
          intro i out hi ho
          obtain ⟨out', g⟩ := ih (i + 1) (out ++ [((i : Int), ((1 : Int), (0 : Int)))]) (by omega) (by simp; omega)
          refine ⟨out', loop_next ?_ g⟩
          unfold l35_TeamInner.p0.step l35_TeamInner.p0.round
          simp only [List.length_cons, List.length_nil]
          rw [p1, Option.bind_some, dif_dec (by omega), dif_dec (by omega), w64 (n := (i : Int) + 1) (by omega) (by omega)]
          rfl
      obtain ⟨out', g⟩ := lp P.length 0 [] (by omega) rfl
      rw [show ((0 : Nat) : Int) = 0 from rfl] at g
      rw [g, Option.bind_some]
      simp only []
      rw [w64 (n := (xs.length : Int) + 2) (by omega) (by omega), round_val (by omega) (by omega), Option.bind_some, awake35_true, Option.bind_some, cond_true]
      simp only [inner_true _ hraw, inner_true _ hx, Option.bind_some, cond_true]
abbrev scTy : Ty := .pair (.pair (.slc (.pair .str (.pair (.int .i64) (.pair (.int .i64) (.pair (.pair (.int .i64) (.pair (.int .i64) (.int .i64))) (.pair (.int .i64) (.pair (.int .i64) (.pair (.int .i64) (.pair (.int .i64) (.pair (.int .i64) (.int .i64))))))))))) (.slc (.pair (.int .i64) (.pair (.int .i64) (.pair (.int .i64) (.pair (.int .i64) (.int .i64))))))) (.pair (.slc (.pair (.int .i64) (.pair (.int .i64) (.slc (.pair (.int .i64) (.pair (.int .i64) (.int .i64))))))) (.slc (.pair (.int .i64) (.int .i64))))
theorem bigS_good {s : ScT} (g : Good scTy s) : BigS s := by
  obtain ⟨⟨⟨g1, g2⟩, g3, _⟩, ⟨g4, _⟩, g5, _⟩ := g
  simp only [minB, reachBytes] at g1 g3 g4 g5
  refine ⟨by omega, fun j hj => ?_, by omega, by omega, by omega⟩
  have : j.1.size ≤ reachBytes := (g2 j hj).1
  simp only [reachBytes] at this
  omega
abbrev innerAk : List AK := [.lf (.slc scTy), .lf (.slc (.pair (.int .i64) (.pair (.int .i64) (.int .i64)))), .lf (.int .i64), .ag (.pair (.int .i64) (.pair (.slc (.pair (.int .i64) (.pair (.int .i64) (.int .i64)))) (.pair (.int .i64) (.pair (.slc (.int .i64)) (.slc (.int .i64)))))), .lf (.slc (.int .i64)), .lf (.slc (.int .i64))]
theorem innerl_good (x : ArgT innerAk) (g : GoodAll innerAk x) : l35_TeamInner.F x.1 x.2.1 x.2.2.1 x.2.2.2.1.1 x.2.2.2.1.2.1 x.2.2.2.1.2.2.1 x.2.2.2.1.2.2.2.1 x.2.2.2.1.2.2.2.2 x.2.2.2.2.1 x.2.2.2.2.2.1 = some true := by
  obtain ⟨⟨g1, g2⟩, _, _, _, ⟨g3, _⟩, ⟨g4, _⟩, _⟩ := g
  simp only [minB, reachBytes] at g1 g3 g4
  exact innerl_law _ _ _ (by omega) (fun i hi => bigS_good (g2 _ (getD_mem hi))) (by omega) (by omega)
end Go.Abs
