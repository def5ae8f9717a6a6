/- A part of the proof that the text with the row names: printed readings of functions, or plain lemmas about them. -/
import Derived.Test.YtomabhiochmojaaC35GLTeamMapped
import Derived.Test.YtomabhiochmojaaC35J9
set_option linter.unusedVariables false
set_option linter.unusedSimpArgs false
namespace Go.Abs
open Go
theorem join_err {l : List ScT} {bs : List PT} (h1 : 1 ≤ l.length) (h3 : l.length ≤ 3) (hb : l.length = bs.length) (hv : ∀ s ∈ l, chkSc s = 0) : (joinV l bs).2.2.2.2 = 3502 ∨ (joinV l bs).2.2.2.2 = 0 := by
  unfold joinV
  rw [dif_ndec (by omega), dif_ndec (by omega), dif_ndec (by omega)]
  have : errsL l = 0 := firstErr_iff.2 fun j _ hj => hv _ (getD_mem (by omega))
  rw [bif_nne this]
  by_cases e : chkO (joinN l bs l.length) = 0
  · rw [bif_nne e]; exact .inr rfl
  · rw [bif_ne e]; exact .inl rfl
theorem mapped_law {l m : List Int} (a : Int) (hl : l.length ≤ 17592186043904) (hm : m.length ≤ 2 ^ 60) : armplanlaw35_TeamMapped.F l m a = some true := by
  have eS : ((([] : List JT), ([] : List MT)), (([] : List ShT), ([] : List SkT))) = Sc0 := rfl
  rw [armplanlaw35_TeamMapped.F_eq]
  unfold armplanlaw35_TeamMapped.F0
  obtain ⟨xs, bs, e, h1, h2, h3, h4⟩ := scenes_val hl hm
  have hB := big_of h4
  rw [e, Option.bind_some]
  simp only []
  rw [join_val bs hB, Option.bind_some]
  by_cases hj : (joinV xs bs).2.2.2.2 = 0
  · obtain ⟨_, hv, hO, hjv⟩ := join_ok hj
    have m1 := Int.emod_nonneg a (show (xs.length : Int) ≠ 0 by omega)
    have m2 := Int.emod_lt_of_pos a (show (0 : Int) < xs.length by omega)
    rw [bif_nne hj, round_val (by omega) (by omega), Option.bind_some, show a % (xs.length : Int) = (((a % (xs.length : Int)).toNat : Nat) : Int) by omega]
    have hk : (a % (xs.length : Int)).toNat < xs.length := by omega
    generalize (a % (xs.length : Int)).toNat = k at hk
    obtain ⟨res, g1, g2, g3⟩ := inner_val hB hk hj
    obtain ⟨z1, z2, z3⟩ := sizes hv hO (by omega)
    have z2k := z2 k hk
    have z3k := z3 k (by omega)
    have hown := hv k hk
    unfold chkSc at hown
    rw [g1, Option.bind_some, hjv]
    simp only [Int.toNat_natCast, eS]
    rw [dif_dec (by omega), dif_dec (by omega), rpairs_val hown, Option.bind_some, rpairs_val hO, Option.bind_some, Bool.not_true, cond_false, bif_nne (by rw [g2])]
    have l0 := loop_count (step := armplanlaw35_TeamMapped.p0.step) (fun i : Nat => (xs, (k : Int), ((nS xs bs i : Nat) : Int), (i : Int), res, ownP xs k, allO xs bs)) k (((nS xs bs k : Nat) : Int), res, ownP xs k, allO xs bs) (by
      intro i hi
      have hn := nS_next (l := xs) (bs := bs) (k := i)
      have z := z3 (i + 1) (by omega)
      unfold armplanlaw35_TeamMapped.p0.step armplanlaw35_TeamMapped.p0.round
      simp only [Int.toNat_natCast, eS]
      rw [dif_dec (by omega), dif_dec (by omega), dif_dec (by omega), w64 (n := (i : Int) + 1) (by omega) (by omega), w64 (n := ((nS xs bs i : Nat) : Int) + ((xs.getD i Sc0).2.1.length : Int)) (by omega) (by omega), show ((nS xs bs i : Nat) : Int) + ((xs.getD i Sc0).2.1.length : Int) = ((nS xs bs (i + 1) : Nat) : Int) by omega]
      rfl) (by
      unfold armplanlaw35_TeamMapped.p0.step armplanlaw35_TeamMapped.p0.round
      simp only []
      rw [dif_ndec (by omega)]) k 0 (by omega)
    rw [show ((0 : Nat) : Int) = 0 from rfl, show nS xs bs 0 = 0 from rfl, show ((0 : Nat) : Int) = 0 from rfl] at l0
    rw [l0, Option.bind_some]
    simp only []
    have l1 := loop_count (step := armplanlaw35_TeamMapped.p1.step) (fun i : Nat => (((nS xs bs k : Nat) : Int), (i : Int), res, ownP xs k, allO xs bs)) res.length (.inr ()) (by
      intro i hi
      obtain ⟨j, j1, j2, j3⟩ := g3 i (by omega)
      obtain ⟨_, m5, m6⟩ := own_mem (bs := bs) hv (by omega) hk (show i < (ownP xs k).length by omega)
      have e1 : ((allO xs bs).getD j (0, 0)).1 = ((ownP xs k).getD i (0, 0)).1 + ((nS xs bs k : Nat) : Int) := by rw [j3]
      have e2 : ((allO xs bs).getD j (0, 0)).2 = ((ownP xs k).getD i (0, 0)).2 + ((nS xs bs k : Nat) : Int) := by rw [j3]
      unfold armplanlaw35_TeamMapped.p1.step armplanlaw35_TeamMapped.p1.round
      simp only [Int.toNat_natCast, j2]
      rw [w64 (n := ((ownP xs k).getD i (0, 0)).1 + ((nS xs bs k : Nat) : Int)) (by omega) (by omega), w64 (n := ((ownP xs k).getD i (0, 0)).2 + ((nS xs bs k : Nat) : Int)) (by omega) (by omega), e1, e2]
      simp (disch := omega) only [dif_dec, dif_ndec, bif_eq, bif_neq, bif_ne, bif_nne, w64, wu64, Int.toNat_natCast, Option.bind_some, cond_true, cond_false, Bool.not_true, Bool.not_false, Sum.elim_inl, Sum.elim_inr]
      rfl) (by
      unfold armplanlaw35_TeamMapped.p1.step armplanlaw35_TeamMapped.p1.round
      simp only []
      simp (disch := omega) only [dif_dec, dif_ndec, bif_eq, bif_neq, bif_ne, bif_nne, w64, wu64, Int.toNat_natCast, Option.bind_some, cond_true, cond_false, Bool.not_true, Bool.not_false, Sum.elim_inl, Sum.elim_inr]) res.length 0 (by omega)
    rw [show ((0 : Nat) : Int) = 0 from rfl] at l1
    rw [l1, Option.bind_some, Sum.elim_inr, awake35_true]
    rfl
  · rcases join_err h2 h3 h1 h4 with h | h
    · rw [bif_ne hj, awake35_true, Option.bind_some, cond_true, h]
      rfl
    · exact absurd h hj
abbrev mappedAk : List AK := [.lf (.slc (.int .i64)), .lf (.slc (.int .i64)), .lf (.int .i64)]
theorem mapped_good (x : ArgT mappedAk) (g : GoodAll mappedAk x) : armplanlaw35_TeamMapped.F x.1 x.2.1 x.2.2.1 = some true := by
  obtain ⟨⟨g1, _⟩, ⟨g2, _⟩, _⟩ := g
  simp only [minB, reachBytes] at g1 g2
  exact mapped_law _ (by omega) (by omega)
end Go.Abs
