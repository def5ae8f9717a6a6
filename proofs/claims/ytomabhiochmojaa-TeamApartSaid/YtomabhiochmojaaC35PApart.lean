/- A part of the proof that the text with the row names: printed readings of functions, or plain lemmas about them. -/
import Derived.Test.YtomabhiochmojaaC35GLTeamApart
import Derived.Test.YtomabhiochmojaaC35J5
set_option linter.unusedVariables false
set_option linter.unusedSimpArgs false
namespace Go.Abs
open Go
theorem config_loop {js : List JT} {ms : List MT} {l : List Int} (hl : l.length ≤ 2 ^ 60) (hj : js.length ≤ 10) (hf : ∀ i, i < js.length → FineJ i (js.getD i J0)) : ∀ (k i : Nat) (p : Int) (out : List Int), i + k = js.length → out.length = i → 0 ≤ p → p ≤ 2 ^ 62 →
    ∃ out', loopF armplanmake_Config.p0.step ((i : Int), js, ms, l, p, out) = some out' ∧ out'.length = js.length
  | 0, i, p, out, hk, ho, hp, hp' => by
    refine ⟨out, loop_end ?_, by omega⟩
    unfold armplanmake_Config.p0.step armplanmake_Config.p0.round
    simp only []
    simp (disch := omega) only [dif_dec, dif_ndec, bif_eq, bif_neq, bif_ne, bif_nne, w64, wu64, Int.toNat_natCast, Option.bind_some, cond_true, cond_false, Bool.not_true, Bool.not_false, Sum.elim_inl, Sum.elim_inr]
  | k + 1, i, p, out, hk, ho, hp, hp' => by
    obtain ⟨v, q, e, h1, h2, h3, h4⟩ := next_val (k := 6) (l := l) (by omega) (by omega) hl hp hp'
    obtain ⟨f1, f2, f3⟩ := (hf i (by omega)).li
    have hr := reachV_range (js.getD i J0).2.1
    have key : ∀ (w : Int) (q' : Int), 0 ≤ q' → q' ≤ 2 ^ 62 → ∃ out', loopF armplanmake_Config.p0.step (((i + 1 : Nat) : Int), js, ms, l, q', out ++ [w]) = some out' ∧ out'.length = js.length := fun w q' a b => config_loop hl hj hf k (i + 1) q' (out ++ [w]) (by omega) (by simp; omega) a b
    by_cases v0 : v = 0
    · obtain ⟨out', g1, g2⟩ := key _ q h3 h4
      refine ⟨out', loop_next ?_ g1, g2⟩
      unfold armplanmake_Config.p0.step armplanmake_Config.p0.round
      simp only [List.length_cons, List.length_nil]
      rw [dif_dec (by omega), dif_dec (by omega), dif_dec (by omega), dif_dec (by omega), dif_dec (by omega), e, Option.bind_some]
      simp only []
      rw [bif_eq v0, dif_dec (by omega), w64 (n := (i : Int) + 1) (by omega) (by omega)]
      rfl
    · by_cases v1 : v = 1
      · obtain ⟨out', g1, g2⟩ := key _ q h3 h4
        refine ⟨out', loop_next ?_ g1, g2⟩
        unfold armplanmake_Config.p0.step armplanmake_Config.p0.round
        simp only [List.length_cons, List.length_nil]
        rw [dif_dec (by omega), dif_dec (by omega), dif_dec (by omega), dif_dec (by omega), dif_dec (by omega), e, Option.bind_some]
        simp only []
        rw [bif_neq v0, bif_eq v1, dif_dec (by omega), w64 (n := (i : Int) + 1) (by omega) (by omega)]
        rfl
      · have eW : IntKind.wrap .i64 (IntKind.wrap .i64 ((js.getD i J0).2.2.2.2.2.1 - (js.getD i J0).2.2.2.2.1) + 1) = (js.getD i J0).2.2.2.2.2.1 - (js.getD i J0).2.2.2.2.1 + 1 := by
          rw [w64 (n := (js.getD i J0).2.2.2.2.2.1 - (js.getD i J0).2.2.2.2.1) (by omega) (by omega), w64 (by omega) (by omega)]
        obtain ⟨v', q', e', h1', h2', h3', h4'⟩ := next_val (k := (js.getD i J0).2.2.2.2.2.1 - (js.getD i J0).2.2.2.2.1 + 1) (l := l) (by omega) (by omega) hl h3 h4
        obtain ⟨out', g1, g2⟩ := key _ q' h3' h4'
        refine ⟨out', loop_next ?_ g1, g2⟩
        unfold armplanmake_Config.p0.step armplanmake_Config.p0.round
        simp only [List.length_cons, List.length_nil, Int.toNat_natCast]
        rw [dif_dec (by omega), dif_dec (by omega), dif_dec (by omega), dif_dec (by omega), dif_dec (by omega), e, Option.bind_some]
        simp only []
        rw [bif_neq v0, bif_neq v1, eW, e', Option.bind_some, dif_dec (by omega), w64 (n := (i : Int) + 1) (by omega) (by omega)]
        rfl
theorem config_val {js : List JT} {l : List Int} (ms : List MT) (hl : l.length ≤ 2 ^ 60) (hc : chkRobot js ms = 0) : ∃ c, armplanmake_Config.F js ms l = some c ∧ c.length = js.length := by
  obtain ⟨_, g2, g3, _⟩ := chkRobot_zero hc
  rw [armplanmake_Config.F_eq]
  unfold armplanmake_Config.F0
  rw [from_val, Option.bind_some]
  obtain ⟨out', h1, h2⟩ := config_loop (ms := ms) hl g2 (fun i hi => (g3 i hi).2) js.length 0 0 [] (by omega) rfl (by omega) (by omega)
  rw [show ((0 : Nat) : Int) = 0 from rfl] at h1
  exact ⟨out', by rw [h1]; rfl, h2⟩
theorem lists_loop {o : List Int} {a : Int} {xs : List ScT} (ho : o.length ≤ 17592186043904) (hx : ∀ s ∈ xs, chkSc s = 0) (h3 : xs.length ≤ 3) : ∀ (k i : Nat) (ls : List (List Int)), i + k = xs.length → ls.map List.length = (xs.take i).map (fun s => s.1.1.length) →
    ∃ ls', loopF armplanlaw35_TeamApart.p0.step (o, a, (i : Int), xs, ls) = some (a, xs, ls') ∧ ls'.map List.length = xs.map (fun s => s.1.1.length)
  | 0, i, ls, hk, hm => by
    refine ⟨ls, loop_end ?_, by rw [hm, List.take_of_length_le (by omega)]⟩
    unfold armplanlaw35_TeamApart.p0.step armplanlaw35_TeamApart.p0.round
    simp only []
    simp (disch := omega) only [dif_dec, dif_ndec, bif_eq, bif_neq, bif_ne, bif_nne, w64, wu64, Int.toNat_natCast, Option.bind_some, cond_true, cond_false, Bool.not_true, Bool.not_false, Sum.elim_inl, Sum.elim_inr]
  | k + 1, i, ls, hk, hm => by
    have eS : ((([] : List JT), ([] : List MT)), (([] : List ShT), ([] : List SkT))) = Sc0 := rfl
    have hi : i < xs.length := by omega
    have hc : chkRobot (xs.getD i Sc0).1.1 (xs.getD i Sc0).1.2 = 0 := (chkScene_zero (hx _ (getD_mem (d := Sc0) hi))).1
    obtain ⟨c, e, hcl⟩ := config_val (l := [(i : Int)] ++ o) (xs.getD i Sc0).1.2 (by simp; omega) hc
    have hll : ls.length = i := by
      have := congrArg List.length hm
      rw [List.length_map, List.length_map, List.length_take] at this
      omega
    obtain ⟨ls', g1, g2⟩ := lists_loop (a := a) ho hx h3 k (i + 1) (ls ++ [c]) (by omega) (by
      rw [List.map_append, hm, take_next (d := Sc0) _ hi]
      simp [hcl])
    refine ⟨ls', loop_next ?_ g1, g2⟩
    unfold armplanlaw35_TeamApart.p0.step armplanlaw35_TeamApart.p0.round
    simp only [List.length_cons, List.length_nil, Int.toNat_natCast, eS]
    rw [dif_dec (by omega), dif_dec (by omega), dif_dec (by omega), dif_dec (by omega), e, Option.bind_some, dif_dec (by omega), w64 (n := (i : Int) + 1) (by omega) (by omega)]
    rfl
theorem flat_take {ls : List (List Int)} {i : Nat} (h : i < ls.length) : (ls.take (i + 1)).flatten = (ls.take i).flatten ++ ls.getD i [] := by
  rw [List.take_add_one, List.getElem?_eq_getElem h, List.flatten_append, List.getD_eq_getElem?_getD, List.getElem?_eq_getElem h]
  simp
theorem concat_val {ls : List (List Int)} (hl : ls.length ≤ 100) (hs : ∀ i, i ≤ ls.length → (ls.take i).flatten.length ≤ 10 * i) : team_Concat.F ls = some ls.flatten := by
  rw [team_Concat.F_eq]
  unfold team_Concat.F0
  rw [team_chain_int64.F_eq]
  unfold team_chain_int64.F0
  have := loop_count (step := team_chain_int64.p0.step) (fun i : Nat => (ls, (ls.length : Int), (i : Int), (ls.take i).flatten)) ls.length ls.flatten (by
    intro i hi
    have h1 := hs i (by omega)
    have h2 := hs (i + 1) (by omega)
    rw [flat_take hi, List.length_append] at h2
    rw [flat_take hi]
    unfold team_chain_int64.p0.step team_chain_int64.p0.round
    simp only [Int.toNat_natCast]
    rw [dif_dec (by omega), dif_dec (by omega), dif_dec (by omega), dif_dec (by omega), w64 (n := (i : Int) + 1) (by omega) (by omega)]
    rfl) (by
    unfold team_chain_int64.p0.step team_chain_int64.p0.round
    simp only [List.take_length]
    simp (disch := omega) only [dif_dec, dif_ndec, bif_eq, bif_neq, bif_ne, bif_nne, w64, wu64, Int.toNat_natCast, Option.bind_some, cond_true, cond_false, Bool.not_true, Bool.not_false, Sum.elim_inl, Sum.elim_inr]) ls.length 0 (by omega)
  rw [show ((0 : Nat) : Int) = 0 from rfl, List.take_zero, List.flatten_nil] at this
  rw [this]
  rfl
theorem flat_len {xs : List ScT} {ls : List (List Int)} (h : ls.map List.length = xs.map (fun s => s.1.1.length)) (i : Nat) : (ls.take i).flatten.length = cntJ xs i := by
  unfold cntJ
  rw [List.length_flatten, List.map_take, h, ← List.map_take]
theorem apart_law {l m o : List Int} (a : Int) (hl : l.length ≤ 17592186043904) (hm : m.length ≤ 2 ^ 60) (ho : o.length ≤ 17592186043904) : armplanlaw35_TeamApart.F l m o a = some true := by
  rw [armplanlaw35_TeamApart.F_eq]
  unfold armplanlaw35_TeamApart.F0
  obtain ⟨xs, bs, e, h1, h2, h3, h4⟩ := scenes_val hl hm
  rw [e, Option.bind_some]
  simp only []
  obtain ⟨ls, g1, g2⟩ := lists_loop (a := a) ho h4 h3 xs.length 0 [] (by omega) (by simp)
  rw [show ((0 : Nat) : Int) = 0 from rfl] at g1
  have hjs : ∀ i, i < xs.length → 1 ≤ (xs.getD i Sc0).1.1.length ∧ (xs.getD i Sc0).1.1.length ≤ 10 := by
    intro i hi
    obtain ⟨a1, a2, _⟩ := chkRobot_zero (chkScene_zero (h4 _ (getD_mem (d := Sc0) hi))).1
    exact ⟨a1, a2⟩
  have hll : ls.length = xs.length := by
    have := congrArg List.length g2
    rwa [List.length_map, List.length_map] at this
  have hcnt := cntJ_le (l := xs) fun i hi => (hjs i hi).2
  have m1 := Int.emod_nonneg a (show (xs.length : Int) ≠ 0 by omega)
  have m2 := Int.emod_lt_of_pos a (show (0 : Int) < xs.length by omega)
  rw [g1, Option.bind_some]
  simp only []
  rw [round_val (by omega) (by omega), Option.bind_some, concat_val (by omega) (fun i hi => by rw [flat_len g2]; exact hcnt i (by omega)), Option.bind_some]
  rw [show a % (xs.length : Int) = (((a % (xs.length : Int)).toNat : Nat) : Int) by omega]
  have hk : (a % (xs.length : Int)).toNat < xs.length := by omega
  generalize (a % (xs.length : Int)).toNat = k at hk
  have hfl : ls.flatten.length = cntJ xs xs.length := by
    have := flat_len g2 xs.length
    rwa [List.take_of_length_le (by omega)] at this
  have hcl := hcnt xs.length (Nat.le_refl _)
  rw [teamPart_val (by omega) hjs hk (by omega), Option.bind_some, awake35_true, Option.bind_some, cond_true]
  unfold partV
  rw [decide_eq_true hfl, cond_true]
  simp only [cond_true, Int.toNat_natCast]
  rw [dif_dec (by omega), dif_dec (by omega)]
  have hpart : (ls.flatten.take (cntJ xs (k + 1))).drop (cntJ xs k) = ls.getD k [] := by
    have q1 : ls.flatten = (ls.take (k + 1)).flatten ++ (ls.drop (k + 1)).flatten := by
      rw [← List.flatten_append, List.take_append_drop]
    rw [q1, List.take_left' (flat_len g2 _), flat_take (by omega), List.drop_left' (flat_len g2 _)]
  have hgl : (ls.getD k []).length ≤ 2 ^ 60 := by
    rw [← hpart, List.length_drop, List.length_take]
    omega
  rw [hpart, same64_val hgl, decide_eq_true rfl]
  rfl
abbrev apartAk : List AK := [.lf (.slc (.int .i64)), .lf (.slc (.int .i64)), .lf (.slc (.int .i64)), .lf (.int .i64)]
theorem apart_good (x : ArgT apartAk) (g : GoodAll apartAk x) : armplanlaw35_TeamApart.F x.1 x.2.1 x.2.2.1 x.2.2.2.1 = some true := by
  obtain ⟨⟨g1, _⟩, ⟨g2, _⟩, ⟨g3, _⟩, _⟩ := g
  simp only [minB, reachBytes] at g1 g2 g3
  exact apart_law _ (by omega) (by omega) (by omega)
end Go.Abs
