/- A part of the proof that the text with the row names: printed readings of functions, or plain lemmas about them. -/
import Derived.Test.YtomabhiochmojaaC35J2
set_option linter.unusedVariables false
set_option linter.unusedSimpArgs false
namespace Go.Abs
open Go
theorem okC_zero {x : Int} (h : okC 4194304 x = true) : IntKind.wrap .i64 (x + 0) = x := by
  have := okC_iff.1 h
  rw [w64 (by omega) (by omega)]
  omega
theorem small_of {s : ScT} (h : chkScene s.1.1 s.1.2 s.2.1 s.2.2 = 0) : SmallS s := by
  obtain ⟨h1, h2, h3, h4, _⟩ := chkScene_zero h
  obtain ⟨g1, g2, g3, g4, g5⟩ := chkRobot_zero h1
  refine ⟨g2, fun j hj => ?_, g4, h2, fun x hx => ?_, h4, fun m hm => ?_, fun x hx v hv => ?_⟩
  · obtain ⟨i, hi, e⟩ := mem_getD (d := J0) hj
    have hn := (g3 i hi).2.nm
    rw [e] at hn
    unfold nameB at hn
    rw [Bool.and_eq_true, Bool.and_eq_true] at hn
    exact of_decide_eq_true hn.2.1
  · obtain ⟨i, hi, e⟩ := mem_getD (d := Sh0) hx
    have hs := h3 i hi
    rw [e] at hs
    unfold chkS at hs
    cases c1 : linkB s.1.1.length x.1 with
    | false => rw [c1] at hs; cases hs
    | true =>
      cases c2 : btwB 1 x.2.1 1048576 with
      | false => rw [c1, c2] at hs; cases hs
      | true =>
        cases c3 : btwB 1 (x.2.2.length : Int) 8 with
        | false => rw [c1, c2, c3] at hs; cases hs
        | true => have := btwB_iff.1 c3; omega
  · obtain ⟨i, hi, e⟩ := mem_getD (d := M0) hm
    have hs := g5 i hi
    rw [e] at hs
    intro hneg
    unfold chkM at hs
    rw [dif_dec (by omega)] at hs
    cases hs
  · obtain ⟨i, hi, e⟩ := mem_getD (d := Sh0) hx
    have hs := h3 i hi
    rw [e] at hs
    unfold chkS at hs
    have hp : ptsB x.2.2 = true := by
      cases c1 : linkB s.1.1.length x.1 with
      | false => rw [c1] at hs; cases hs
      | true =>
        cases c2 : btwB 1 x.2.1 1048576 with
        | false => rw [c1, c2] at hs; cases hs
        | true =>
          cases c3 : btwB 1 (x.2.2.length : Int) 8 with
          | false => rw [c1, c2, c3] at hs; cases hs
          | true =>
            cases c4 : ptsB x.2.2 with
            | false => rw [c1, c2, c3, c4] at hs; cases hs
            | true => rfl
    unfold ptsB at hp
    rw [allB_iff] at hp
    obtain ⟨k, hk, ev⟩ := mem_getD (d := P0) hv
    have hvv : vecB (x.2.2.getD k P0).1 (x.2.2.getD k P0).2.1 (x.2.2.getD k P0).2.2 = true := hp k (Nat.zero_le _) (by omega)
    rw [ev] at hvv
    unfold vecB at hvv
    rw [Bool.and_eq_true, Bool.and_eq_true] at hvv
    unfold plusV
    simp only [okC_zero hvv.1, okC_zero hvv.2.1, okC_zero hvv.2.2]

def joinN (l : List ScT) (bs : List PT) : Nat → OutT
  | 0 => ([], ([], ([], [])))
  | k + 1 => addV (joinN l bs k) (l.getD k Sc0) (bs.getD k P0) (letV k)
def chkSc (s : ScT) : Int := chkScene s.1.1 s.1.2 s.2.1 s.2.2
def chkO (o : OutT) : Int := chkScene o.1 o.2.1 o.2.2.1 o.2.2.2
def errsL (l : List ScT) : Int := firstErr (fun i => chkSc (l.getD i Sc0)) 0 l.length
abbrev JoinT := List JT × (List MT × (List ShT × (List SkT × Int)))
def joinV (l : List ScT) (bs : List PT) : JoinT :=
  bif decide ((l.length : Int) < 1) then ([], ([], ([], ([], 3501)))) else bif decide ((l.length : Int) > 4) then ([], ([], ([], ([], 3501)))) else
  bif decide (bs.length ≠ l.length) then ([], ([], ([], ([], 3501)))) else
  bif errsL l != 0 then ([], ([], ([], ([], errsL l)))) else
  bif chkO (joinN l bs l.length) != 0 then ([], ([], ([], ([], 3502)))) else ((joinN l bs l.length).1, ((joinN l bs l.length).2.1, ((joinN l bs l.length).2.2.1, ((joinN l bs l.length).2.2.2, 0))))
theorem addV_len {o : OutT} {s : ScT} {b : PT} {c : ByteArray} : (addV o s b c).1.length = o.1.length + s.1.1.length ∧ (addV o s b c).2.1.length = o.2.1.length + s.1.2.length ∧ (addV o s b c).2.2.1.length = o.2.2.1.length + s.2.1.length ∧ (addV o s b c).2.2.2.length = o.2.2.2.length + s.2.2.length := by
  unfold addV
  simp
theorem joinN_len {l : List ScT} {bs : List PT} (h : ∀ i, i < l.length → SmallS (l.getD i Sc0)) : ∀ k, k ≤ l.length → (joinN l bs k).1.length ≤ 10 * k ∧ (joinN l bs k).2.1.length ≤ 32 * k ∧ (joinN l bs k).2.2.1.length ≤ 24 * k ∧ (joinN l bs k).2.2.2.length ≤ 64 * k
  | 0, _ => by simp [joinN]
  | k + 1, hk => by
    obtain ⟨h1, h2, h3, h4⟩ := joinN_len (bs := bs) h k (by omega)
    obtain ⟨a1, _, a2, a3, _, a4, _, _⟩ := h k (by omega)
    rw [joinN]
    obtain ⟨e1, e2, e3, e4⟩ := addV_len (o := joinN l bs k) (s := l.getD k Sc0) (b := bs.getD k P0) (c := letV k)
    refine ⟨?_, ?_, ?_, ?_⟩
    · rw [e1]; omega
    · rw [e2]; omega
    · rw [e3]; omega
    · rw [e4]; omega
theorem joinN_small {l : List ScT} {bs : List PT} (h : ∀ i, i < l.length → SmallS (l.getD i Sc0)) (hl : l.length ≤ 4) {k : Nat} (hk : k ≤ l.length) : SmallO (joinN l bs k) := by
  obtain ⟨h1, h2, h3, h4⟩ := joinN_len (bs := bs) h k hk
  exact ⟨by omega, by omega, by omega, by omega⟩
theorem joinN_names {l : List ScT} {bs : List PT} (h : ∀ i, i < l.length → SmallS (l.getD i Sc0)) : ∀ k, k ≤ l.length → ∀ j ∈ (joinN l bs k).1, j.1.size ≤ 17
  | 0, _, j, hj => by simp [joinN] at hj
  | k + 1, hk, j, hj => by
    rw [joinN] at hj
    unfold addV at hj
    simp only [List.mem_append, List.mem_map] at hj
    rcases hj with hj | ⟨q, hq, e⟩
    · exact joinN_names h k (by omega) j hj
    · have := (h k (by omega)).jn q hq
      rw [← e]
      unfold jJ
      simp only [ByteArray.size_append, letV_size]
      omega
structure BigS (q : ScT) : Prop where
  j : q.1.1.length ≤ 2 ^ 60
  jn : ∀ j ∈ q.1.1, j.1.size ≤ 2 ^ 60
  m : q.1.2.length ≤ 2 ^ 60
  s : q.2.1.length ≤ 2 ^ 60
  k : q.2.2.length ≤ 2 ^ 60
def BigL (l : List ScT) : Prop := ∀ i, i < l.length → BigS (l.getD i Sc0)
theorem errs_small {l : List ScT} (h : errsL l = 0) : ∀ i, i < l.length → SmallS (l.getD i Sc0) := by
  intro i hi
  exact small_of (firstErr_iff.1 h i (Nat.zero_le _) (by omega))
theorem join_val {l : List ScT} (bs : List PT) (hL : BigL l) : team_Join.F l bs = some (joinV l bs) := by
  have eS : ((([] : List JT), ([] : List MT)), (([] : List ShT), ([] : List SkT))) = Sc0 := rfl
  rw [team_Join.F_eq]
  unfold team_Join.F0 joinV
  by_cases a : (l.length : Int) < 1
  · rw [bif_eq (by omega), dif_dec a]
  · rw [bif_neq (by omega), dif_ndec a]
    by_cases b : (l.length : Int) > 4
    · rw [dif_dec b, dif_dec b]
    · rw [dif_ndec b, dif_ndec b]
      by_cases c : bs.length = l.length
      · rw [bif_nne (by omega), dif_ndec (by omega)]
        have l0 := loop_find (step := team_Join.p0.step) (fun i : Nat => (l, bs, l, (l.length : Int), (i : Int))) l.length (fun i => bif chkSc (l.getD i Sc0) != 0 then some (.inl (chkSc (l.getD i Sc0))) else none) (.inr (l, bs)) (by
          intro i hi
          obtain ⟨b1, _, b2, b3, b4⟩ := hL i hi
          unfold team_Join.p0.step team_Join.p0.round
          simp only [Int.toNat_natCast, eS]
          rw [sceneCheck_val b1 b2 b3 b4, dif_dec (by omega), dif_dec (by omega), dif_dec (by omega), Option.bind_some, w64 (by omega) (by omega)]
          unfold chkSc
          cases (chkScene (l.getD i Sc0).1.1 (l.getD i Sc0).1.2 (l.getD i Sc0).2.1 (l.getD i Sc0).2.2 != 0) <;> rfl) (by
          unfold team_Join.p0.step team_Join.p0.round
          simp only []
          simp (disch := omega) only [dif_dec, dif_ndec, bif_eq, bif_neq, bif_ne, bif_nne, w64, wu64, Int.toNat_natCast, Option.bind_some, cond_true, cond_false, Bool.not_true, Bool.not_false, Sum.elim_inl, Sum.elim_inr]) l.length 0 (by omega)
        rw [show ((0 : Nat) : Int) = 0 from rfl] at l0
        rw [l0, Option.bind_some, findE_err (f := fun i => chkSc (l.getD i Sc0)) (g := Sum.inl) fun _ _ _ => rfl]
        show Sum.elim _ _ (bif errsL l != 0 then .inl (errsL l) else _) = _
        by_cases he : errsL l = 0
        · rw [bif_nne he, bif_nne he]
          simp only [Sum.elim_inr]
          have hs := errs_small he
          have l1 := loop_count (step := team_Join.p1.step) (fun k : Nat => (bs, l, (l.length : Int), (k : Int), (joinN l bs k).1, (joinN l bs k).2.1, (joinN l bs k).2.2.1, (joinN l bs k).2.2.2)) l.length ((joinN l bs l.length).1, (joinN l bs l.length).2.1, (joinN l bs l.length).2.2.1, (joinN l bs l.length).2.2.2) (by
            intro k hk
            have hadd := add_val (bs.getD k P0) (IntKind.wrap .u8 (IntKind.wrap .i64 (97 + (k : Int)))) (joinN_small (bs := bs) hs (by omega) (Nat.le_of_lt hk)) (hs k hk)
            unfold team_Join.p1.step team_Join.p1.round
            simp only [Int.toNat_natCast, eS]
            rw [dif_dec (by omega), dif_dec (by omega), dif_dec (by omega), dif_dec (by omega), dif_dec (by omega), hadd, Option.bind_some, w64 (n := (k : Int) + 1) (by omega) (by omega)]
            rfl) (by
            unfold team_Join.p1.step team_Join.p1.round
            simp only []
            simp (disch := omega) only [dif_dec, dif_ndec, bif_eq, bif_neq, bif_ne, bif_nne, w64, wu64, Int.toNat_natCast, Option.bind_some, cond_true, cond_false, Bool.not_true, Bool.not_false, Sum.elim_inl, Sum.elim_inr]) l.length 0 (by omega)
          rw [show ((0 : Nat) : Int) = 0 from rfl] at l1
          have hso := joinN_small (bs := bs) hs (by omega) (Nat.le_refl _)
          obtain ⟨s1, s2, s3, s4⟩ := hso
          have e0 : joinN l bs 0 = ([], ([], ([], []))) := rfl
          rw [e0] at l1
          rw [l1, Option.bind_some]
          simp only []
          rw [sceneCheck_val (by omega) (by omega) (by omega) (by omega), Option.bind_some]
          show (bif chkO (joinN l bs l.length) != 0 then _ else _) = _
          cases (chkO (joinN l bs l.length) != 0) <;> rfl
        · rw [bif_ne he, bif_ne he]
          rfl
      · rw [bif_ne (by omega), dif_dec (show bs.length ≠ l.length from c)]
theorem rjoin_val {l : List ScT} (bs : List PT) (hL : BigL l) : r32_JoinScenes.F l bs = some (joinV l bs) := by
  have eS : ((([] : List JT), ([] : List MT)), (([] : List ShT), ([] : List SkT))) = Sc0 := rfl
  rw [r32_JoinScenes.F_eq]
  unfold r32_JoinScenes.F0 joinV
  by_cases a : (l.length : Int) < 1
  · rw [dif_dec a, dif_dec a]
  · rw [dif_ndec a, dif_ndec a]
    by_cases b : (l.length : Int) > 4
    · rw [dif_dec b, dif_dec b]
    · rw [dif_ndec b, dif_ndec b]
      by_cases c : bs.length = l.length
      · rw [bif_nne (by omega), dif_ndec (by omega)]
        have l0 := loop_find (step := r32_JoinScenes.p0.step) (fun i : Nat => (l, bs, (i : Int))) l.length (fun i => bif chkSc (l.getD i Sc0) != 0 then some (.inl (chkSc (l.getD i Sc0))) else none) (.inr (l, bs)) (by
          intro i hi
          obtain ⟨b1, b5, b2, b3, b4⟩ := hL i hi
          unfold r32_JoinScenes.p0.step r32_JoinScenes.p0.round
          simp only [Int.toNat_natCast, eS]
          rw [rsceneCheck_val b1 b2 b3 b4 b5, dif_dec (by omega), dif_dec (by omega), dif_dec (by omega), Option.bind_some, w64 (by omega) (by omega)]
          unfold chkSc
          cases (chkScene (l.getD i Sc0).1.1 (l.getD i Sc0).1.2 (l.getD i Sc0).2.1 (l.getD i Sc0).2.2 != 0) <;> rfl) (by
          unfold r32_JoinScenes.p0.step r32_JoinScenes.p0.round
          simp only []
          simp (disch := omega) only [dif_dec, dif_ndec, bif_eq, bif_neq, bif_ne, bif_nne, w64, wu64, Int.toNat_natCast, Option.bind_some, cond_true, cond_false, Bool.not_true, Bool.not_false, Sum.elim_inl, Sum.elim_inr]) l.length 0 (by omega)
        rw [show ((0 : Nat) : Int) = 0 from rfl] at l0
        rw [l0, Option.bind_some, findE_err (f := fun i => chkSc (l.getD i Sc0)) (g := Sum.inl) fun _ _ _ => rfl]
        show Sum.elim _ _ (bif errsL l != 0 then .inl (errsL l) else _) = _
        by_cases he : errsL l = 0
        · rw [bif_nne he, bif_nne he]
          simp only [Sum.elim_inr]
          have hs := errs_small he
          have l1 := loop_count (step := r32_JoinScenes.p1.step) (fun k : Nat => (l, bs, (k : Int), (joinN l bs k).1, (joinN l bs k).2.1, (joinN l bs k).2.2.1, (joinN l bs k).2.2.2)) l.length ((joinN l bs l.length).1, (joinN l bs l.length).2.1, (joinN l bs l.length).2.2.1, (joinN l bs l.length).2.2.2) (by
            intro k hk
            exact radd_val (by omega) hk (by omega) (by omega) (by omega) (joinN_small (bs := bs) hs (by omega) (Nat.le_of_lt hk)) (hs k hk)) (by
            unfold r32_JoinScenes.p1.step r32_JoinScenes.p1.round
            simp only []
            simp (disch := omega) only [dif_dec, dif_ndec, bif_eq, bif_neq, bif_ne, bif_nne, w64, wu64, Int.toNat_natCast, Option.bind_some, cond_true, cond_false, Bool.not_true, Bool.not_false, Sum.elim_inl, Sum.elim_inr]) l.length 0 (by omega)
          rw [show ((0 : Nat) : Int) = 0 from rfl] at l1
          have hso := joinN_small (bs := bs) hs (by omega) (Nat.le_refl _)
          obtain ⟨s1, s2, s3, s4⟩ := hso
          have e0 : joinN l bs 0 = ([], ([], ([], []))) := rfl
          rw [e0] at l1
          rw [l1, Option.bind_some]
          simp only []
          rw [rsceneCheck_val (by omega) (by omega) (by omega) (by omega) (fun j hj => by have := joinN_names hs _ (Nat.le_refl _) j hj; omega), Option.bind_some]
          show (bif chkO (joinN l bs l.length) != 0 then _ else _) = _
          cases (chkO (joinN l bs l.length) != 0) <;> rfl
        · rw [bif_ne he, bif_ne he]
          rfl
      · rw [bif_ne (by omega), dif_dec (show bs.length ≠ l.length from c)]
/-- What is joined is of bounded length. -/
theorem joinV_small (l : List ScT) (bs : List PT) : (joinV l bs).1.length ≤ 1000 ∧ (joinV l bs).2.1.length ≤ 1000 ∧ (joinV l bs).2.2.1.length ≤ 1000 ∧ (joinV l bs).2.2.2.1.length ≤ 1000 ∧ ((joinV l bs).2.2.2.2 = 0 ∨ (joinV l bs) = ([], ([], ([], ([], (joinV l bs).2.2.2.2))))) ∧ ∀ x ∈ (joinV l bs).2.2.1, x.2.2.length ≤ 8 := by
  unfold joinV
  by_cases a : (l.length : Int) < 1
  · rw [dif_dec a]; simp
  · rw [dif_ndec a]
    by_cases b : (l.length : Int) > 4
    · rw [dif_dec b]; simp
    · rw [dif_ndec b]
      by_cases c : bs.length ≠ l.length
      · rw [dif_dec c]; simp
      · rw [dif_ndec c]
        by_cases d : errsL l = 0
        · rw [bif_nne d]
          have hs := errs_small d
          obtain ⟨s1, s2, s3, s4⟩ := joinN_small (bs := bs) hs (by omega) (Nat.le_refl l.length)
          by_cases e : chkO (joinN l bs l.length) = 0
          · rw [bif_nne e]
            refine ⟨s1, s2, s3, s4, .inl rfl, ?_⟩
            have hz := small_of (s := (((joinN l bs l.length).1, (joinN l bs l.length).2.1), ((joinN l bs l.length).2.2.1, (joinN l bs l.length).2.2.2)))
            have : ∀ k, k ≤ l.length → ∀ x ∈ (joinN l bs k).2.2.1, x.2.2.length ≤ 8 := by
              intro k
              induction k with
              | zero => intro _ x hx; simp [joinN] at hx
              | succ k ih =>
                intro hk x hx
                rw [joinN] at hx
                unfold addV at hx
                simp only [List.mem_append, List.mem_map] at hx
                rcases hx with hx | ⟨q, hq, e⟩
                · exact ih (by omega) x hx
                · have := (hs k (by omega)).sp q hq
                  rw [← e]
                  unfold sJ
                  simp only []
                  cases (q.1 == -1) with
                  | true => rw [cond_true, List.length_map]; omega
                  | false => rw [cond_false]; omega
            exact this _ (Nat.le_refl _)
          · rw [bif_ne e]; simp
        · rw [bif_ne d]; simp

theorem eqS_refl (s : ByteArray) : eqS s s = true := by unfold eqS; exact beq_self_eq_true _
theorem same_Joint {l : List JT} (hl : l.length ≤ 2 ^ 60) : mk_Same_Joint.F l l = some true := by
  rw [mk_Same_Joint.F_eq]
  unfold mk_Same_Joint.F0
  rw [bif_nne rfl]
  have := loop_count (step := mk_Same_Joint.p0.step) (fun j : Nat => (l, l, (j : Int))) l.length (Sum.inr ()) (by
    intro j hj
    unfold mk_Same_Joint.p0.step mk_Same_Joint.p0.round
    simp only [beq_self_eq_true, eqS_refl, Bool.and_true]
    simp (disch := omega) only [dif_dec, dif_ndec, bif_eq, bif_neq, bif_ne, bif_nne, w64, wu64, Int.toNat_natCast, Option.bind_some, cond_true, cond_false, Bool.not_true, Bool.not_false, Sum.elim_inl, Sum.elim_inr]
    rfl) (by
    unfold mk_Same_Joint.p0.step mk_Same_Joint.p0.round
    simp only []
    simp (disch := omega) only [dif_dec, dif_ndec, bif_eq, bif_neq, bif_ne, bif_nne, w64, wu64, Int.toNat_natCast, Option.bind_some, cond_true, cond_false, Bool.not_true, Bool.not_false, Sum.elim_inl, Sum.elim_inr]) l.length 0 (by omega)
  rw [show ((0 : Nat) : Int) = 0 from rfl] at this
  rw [this]
  rfl
theorem same_Mass {l : List MT} (hl : l.length ≤ 2 ^ 60) : mk_Same_Mass.F l l = some true := by
  rw [mk_Same_Mass.F_eq]
  unfold mk_Same_Mass.F0
  rw [bif_nne rfl]
  have := loop_count (step := mk_Same_Mass.p0.step) (fun j : Nat => (l, l, (j : Int))) l.length (Sum.inr ()) (by
    intro j hj
    unfold mk_Same_Mass.p0.step mk_Same_Mass.p0.round
    simp only [beq_self_eq_true, eqS_refl, Bool.and_true]
    simp (disch := omega) only [dif_dec, dif_ndec, bif_eq, bif_neq, bif_ne, bif_nne, w64, wu64, Int.toNat_natCast, Option.bind_some, cond_true, cond_false, Bool.not_true, Bool.not_false, Sum.elim_inl, Sum.elim_inr]
    rfl) (by
    unfold mk_Same_Mass.p0.step mk_Same_Mass.p0.round
    simp only []
    simp (disch := omega) only [dif_dec, dif_ndec, bif_eq, bif_neq, bif_ne, bif_nne, w64, wu64, Int.toNat_natCast, Option.bind_some, cond_true, cond_false, Bool.not_true, Bool.not_false, Sum.elim_inl, Sum.elim_inr]) l.length 0 (by omega)
  rw [show ((0 : Nat) : Int) = 0 from rfl] at this
  rw [this]
  rfl
theorem same_Skip {l : List SkT} (hl : l.length ≤ 2 ^ 60) : mk_Same_Skip.F l l = some true := by
  rw [mk_Same_Skip.F_eq]
  unfold mk_Same_Skip.F0
  rw [bif_nne rfl]
  have := loop_count (step := mk_Same_Skip.p0.step) (fun j : Nat => (l, l, (j : Int))) l.length (Sum.inr ()) (by
    intro j hj
    unfold mk_Same_Skip.p0.step mk_Same_Skip.p0.round
    simp only [beq_self_eq_true, eqS_refl, Bool.and_true]
    simp (disch := omega) only [dif_dec, dif_ndec, bif_eq, bif_neq, bif_ne, bif_nne, w64, wu64, Int.toNat_natCast, Option.bind_some, cond_true, cond_false, Bool.not_true, Bool.not_false, Sum.elim_inl, Sum.elim_inr]
    rfl) (by
    unfold mk_Same_Skip.p0.step mk_Same_Skip.p0.round
    simp only []
    simp (disch := omega) only [dif_dec, dif_ndec, bif_eq, bif_neq, bif_ne, bif_nne, w64, wu64, Int.toNat_natCast, Option.bind_some, cond_true, cond_false, Bool.not_true, Bool.not_false, Sum.elim_inl, Sum.elim_inr]) l.length 0 (by omega)
  rw [show ((0 : Nat) : Int) = 0 from rfl] at this
  rw [this]
  rfl
theorem same_Vec {l : List PT} (hl : l.length ≤ 2 ^ 60) : mk_Same_Vec.F l l = some true := by
  rw [mk_Same_Vec.F_eq]
  unfold mk_Same_Vec.F0
  rw [bif_nne rfl]
  have := loop_count (step := mk_Same_Vec.p0.step) (fun j : Nat => (l, l, (j : Int))) l.length (Sum.inr ()) (by
    intro j hj
    unfold mk_Same_Vec.p0.step mk_Same_Vec.p0.round
    simp only [beq_self_eq_true, eqS_refl, Bool.and_true]
    simp (disch := omega) only [dif_dec, dif_ndec, bif_eq, bif_neq, bif_ne, bif_nne, w64, wu64, Int.toNat_natCast, Option.bind_some, cond_true, cond_false, Bool.not_true, Bool.not_false, Sum.elim_inl, Sum.elim_inr]
    rfl) (by
    unfold mk_Same_Vec.p0.step mk_Same_Vec.p0.round
    simp only []
    simp (disch := omega) only [dif_dec, dif_ndec, bif_eq, bif_neq, bif_ne, bif_nne, w64, wu64, Int.toNat_natCast, Option.bind_some, cond_true, cond_false, Bool.not_true, Bool.not_false, Sum.elim_inl, Sum.elim_inr]) l.length 0 (by omega)
  rw [show ((0 : Nat) : Int) = 0 from rfl] at this
  rw [this]
  rfl
theorem sameScene_refl {js : List JT} {ms : List MT} {sh : List ShT} {sk : List SkT} (hj : js.length ≤ 2 ^ 60) (hm : ms.length ≤ 2 ^ 60) (hs : sh.length ≤ 2 ^ 60) (hk : sk.length ≤ 2 ^ 60) (hp : ∀ x ∈ sh, x.2.2.length ≤ 2 ^ 60) : mk_SameScene.F js ms sh sk js ms sh sk = some true := by
  rw [mk_SameScene.F_eq]
  unfold mk_SameScene.F0
  rw [mk_SameRobot.F_eq]
  unfold mk_SameRobot.F0
  rw [same_Joint hj, Option.bind_some, cond_true, same_Mass hm, Option.bind_some, Option.bind_some, Bool.not_true, cond_false, same_Skip hk, Option.bind_some, Bool.not_true, cond_false, bif_nne rfl]
  have := loop_count (step := mk_SameScene.p0.step) (fun j : Nat => ((j : Int), js, ms, sh, sk, js, ms, sh, sk)) sh.length (Sum.inr ()) (by
    intro j hj
    have hpp := hp _ (getD_mem (d := Sh0) hj)
    unfold mk_SameScene.p0.step mk_SameScene.p0.round
    simp only [Int.toNat_natCast]
    rw [dif_dec (by omega), dif_dec (by omega), dif_dec (by omega), dif_dec (by omega), dif_dec (by omega), bif_nne rfl, bif_nne rfl, same_Vec hpp, Option.bind_some, Bool.not_true, cond_false, w64 (by omega) (by omega)]
    rfl) (by
    unfold mk_SameScene.p0.step mk_SameScene.p0.round
    simp only []
    simp (disch := omega) only [dif_dec, dif_ndec, bif_eq, bif_neq, bif_ne, bif_nne, w64, wu64, Int.toNat_natCast, Option.bind_some, cond_true, cond_false, Bool.not_true, Bool.not_false, Sum.elim_inl, Sum.elim_inr]) sh.length 0 (by omega)
  rw [show ((0 : Nat) : Int) = 0 from rfl] at this
  rw [this]
  rfl
theorem joins_true {l : List ScT} (bs : List PT) (hL : BigL l) : l35_joins.F l bs = some true := by
  rw [l35_joins.F_eq]
  unfold l35_joins.F0
  obtain ⟨s1, s2, s3, s4, _, s5⟩ := joinV_small l bs
  rw [join_val bs hL, rjoin_val bs hL, Option.bind_some, Option.bind_some]
  simp only [beq_self_eq_true, cond_true]
  rw [sameScene_refl (by omega) (by omega) (by omega) (by omega) (fun x hx => by have := s5 x hx; omega)]
  rfl
end Go.Abs
