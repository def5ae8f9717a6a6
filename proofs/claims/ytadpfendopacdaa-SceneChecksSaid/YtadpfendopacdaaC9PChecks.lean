/- A part of the proof that the text with the row names: printed readings of functions, or plain lemmas about them. -/
import Derived.Test.YtadpfendopacdaaC9GLSceneChecks
import Derived.Test.YtadpfendopacdaaC9M6
set_option linter.unusedVariables false
set_option linter.unusedSimpArgs false
namespace Go.Abs
open Go
theorem fill0 {v0 v1 v4 v5 : Int} {v2 : List JT} {v3 : List MT} {v6 : List PT} {v7 : List ShT} : ∀ (m : Nat) (sk : List SkT), (sk.length : Int) + m = 64 + v0 % 2 →
    ∃ sk', loopF armplanlaw9_changed.p0.step (v0, v1, v2, v3, v4, v5, v6, v7, sk) = some (v1, v2, v3, v4, v5, v6, v7, sk') ∧ sk'.length ≤ 100
  | 0, sk, h => by
    refine ⟨sk, loop_end ?_, by omega⟩
    unfold armplanlaw9_changed.p0.step armplanlaw9_changed.p0.round
    simp only []
    rw [round_val (by omega) (by omega)]
    simp (disch := omega) only [dif_dec, dif_ndec, bif_eq, bif_neq, bif_ne, bif_nne, w64, wu64, Int.toNat_natCast, Option.bind_some, cond_true, cond_false, Bool.not_true, Bool.not_false, Sum.elim_inl, Sum.elim_inr]
  | m + 1, sk, h => by
    obtain ⟨sk', h1, h2⟩ := fill0 (v0 := v0) (v1 := v1) (v2 := v2) (v3 := v3) (v4 := v4) (v5 := v5) (v6 := v6) (v7 := v7) m (sk ++ [((0 : Int), (0 : Int))]) (by simp only [List.length_append, List.length_cons, List.length_nil]; omega)
    refine ⟨sk', loop_next ?_ h1, h2⟩
    unfold armplanlaw9_changed.p0.step armplanlaw9_changed.p0.round
    simp only [List.length_cons, List.length_nil]
    rw [round_val (by omega) (by omega)]
    simp (disch := omega) only [dif_dec, dif_ndec, bif_eq, bif_neq, bif_ne, bif_nne, w64, wu64, Int.toNat_natCast, Option.bind_some, cond_true, cond_false, Bool.not_true, Bool.not_false, Sum.elim_inl, Sum.elim_inr]
theorem fill1 {v0 v1 v4 v5 : Int} {v2 : List JT} {v3 : List MT} {v6 : List PT} {v8 : List SkT} : ∀ (m : Nat) (sh : List ShT), (sh.length : Int) + m = 24 + v0 % 2 →
    ∃ sh', loopF armplanlaw9_changed.p1.step (v0, v1, v2, v3, v4, v5, v6, sh, v8) = some (v1, v2, v3, v4, v5, v6, sh', v8) ∧ sh.length ≤ sh'.length ∧ sh'.length ≤ 100
  | 0, sh, h => by
    refine ⟨sh, loop_end ?_, by omega, by omega⟩
    unfold armplanlaw9_changed.p1.step armplanlaw9_changed.p1.round
    simp only []
    rw [round_val (by omega) (by omega)]
    simp (disch := omega) only [dif_dec, dif_ndec, bif_eq, bif_neq, bif_ne, bif_nne, w64, wu64, Int.toNat_natCast, Option.bind_some, cond_true, cond_false, Bool.not_true, Bool.not_false, Sum.elim_inl, Sum.elim_inr]
  | m + 1, sh, h => by
    obtain ⟨sh', h1, h2, h3⟩ := fill1 (v0 := v0) (v1 := v1) (v2 := v2) (v3 := v3) (v4 := v4) (v5 := v5) (v6 := v6) (v8 := v8) m (sh ++ [(v4, (v5, v6))]) (by simp only [List.length_append, List.length_cons, List.length_nil]; omega)
    refine ⟨sh', loop_next ?_ h1, by simp at h2; omega, h3⟩
    unfold armplanlaw9_changed.p1.step armplanlaw9_changed.p1.round
    simp only [List.length_cons, List.length_nil]
    rw [round_val (by omega) (by omega)]
    simp (disch := omega) only [dif_dec, dif_ndec, bif_eq, bif_neq, bif_ne, bif_nne, w64, wu64, Int.toNat_natCast, Option.bind_some, cond_true, cond_false, Bool.not_true, Bool.not_false, Sum.elim_inl, Sum.elim_inr]
theorem changed_val {js : List JT} {ms : List MT} {sh : List ShT} {sk : List SkT} (a b c : Int) (h1 : 1 ≤ sh.length) (h2 : sh.length ≤ 24) (h3 : sk.length ≤ 64) (h4 : ∀ i, (sh.getD i Sh0).2.2.length ≤ 8) :
    ∃ r, armplanlaw9_changed.F js ms sh sk a b c = some r ∧ r.1 = js ∧ r.2.1 = ms ∧ r.2.2.1.length ≤ 100 ∧ r.2.2.2.length ≤ 100 := by
  rw [armplanlaw9_changed.F_eq]
  unfold armplanlaw9_changed.F0
  have hb := round_val (a := b) (k := (sh.length : Int)) (by omega) (by omega)
  rw [dif_dec (by omega), dif_dec (by omega), hb, Option.bind_some]
  have r0 : 0 ≤ b % (sh.length : Int) := Int.emod_nonneg _ (by omega)
  have r1 : b % (sh.length : Int) < sh.length := Int.emod_lt_of_pos _ (by omega)
  generalize b % (sh.length : Int) = r at r0 r1
  rw [dif_dec r0, dif_dec r1, round_val (a := a) (by omega) (by omega), Option.bind_some]
  have hp : (sh.getD r.toNat ((0 : Int), ((0 : Int), ([] : List ((Int × (Int × Int))))))).2.2.length ≤ 8 := h4 r.toNat
  have q0 : 0 ≤ a % 8 := by omega
  have q1 : a % 8 < 8 := by omega
  generalize a % 8 = q at q0 q1
  have e2 := round_val (a := c) (k := 2) (by omega) (by omega)
  have e4 := round_val (a := c) (k := 4) (by omega) (by omega)
  have e5 := round_val (a := c) (k := 5) (by omega) (by omega)
  have e6 := round_val (a := c) (k := 6) (by omega) (by omega)
  have e10 := round_val (a := c) (k := 10) (by omega) (by omega)
  have e5' := round_val (a := IntKind.wrap .i64 (c.tdiv 5)) (k := 5) (by omega) (by omega)
  have ls : ∀ {n : Nat} {x : ShT}, (sh.set n x).length ≤ 100 := by intro n x; rw [List.length_set]; omega
  simp only [List.length_cons, List.length_nil]
  by_cases c0 : q = 0
  · simp (disch := omega) only [dif_dec, dif_ndec, bif_eq, bif_neq, bif_ne, bif_nne, w64, wu64, Int.toNat_natCast, Option.bind_some, cond_true, cond_false, Bool.not_true, Bool.not_false, Sum.elim_inl, Sum.elim_inr, e6]
    exact ⟨_, rfl, rfl, rfl, ls, show sk.length ≤ 100 by omega⟩
  by_cases c1 : q = 1
  · simp (disch := omega) only [dif_dec, dif_ndec, bif_eq, bif_neq, bif_ne, bif_nne, w64, wu64, Int.toNat_natCast, Option.bind_some, cond_true, cond_false, Bool.not_true, Bool.not_false, Sum.elim_inl, Sum.elim_inr, e5]
    exact ⟨_, rfl, rfl, rfl, ls, show sk.length ≤ 100 by omega⟩
  by_cases c2 : q = 2
  · simp (disch := omega) only [dif_dec, dif_ndec, bif_eq, bif_neq, bif_ne, bif_nne, w64, wu64, Int.toNat_natCast, Option.bind_some, cond_true, cond_false, Bool.not_true, Bool.not_false, Sum.elim_inl, Sum.elim_inr, e10]
    exact ⟨_, rfl, rfl, rfl, ls, show sk.length ≤ 100 by omega⟩
  by_cases c3 : q = 3
  · simp (disch := omega) only [dif_dec, dif_ndec, bif_eq, bif_neq, bif_ne, bif_nne, w64, wu64, Int.toNat_natCast, Option.bind_some, cond_true, cond_false, Bool.not_true, Bool.not_false, Sum.elim_inl, Sum.elim_inr, e4]
    exact ⟨_, rfl, rfl, rfl, ls, show sk.length ≤ 100 by omega⟩

  by_cases c4 : q = 4
  · simp (disch := omega) only [dif_dec, dif_ndec, bif_eq, bif_neq, bif_ne, bif_nne, w64, wu64, Int.toNat_natCast, Option.bind_some, cond_true, cond_false, Bool.not_true, Bool.not_false, Sum.elim_inl, Sum.elim_inr, e5, e5']
    exact ⟨_, rfl, rfl, rfl, ls, by simp only [List.length_append, List.length_cons, List.length_nil]; omega⟩
  by_cases c5 : q = 5
  · obtain ⟨sk', l1, l2⟩ := fill0 (v0 := c) (v1 := r) (v2 := js) (v3 := ms) (v4 := (sh.getD r.toNat Sh0).1) (v5 := (sh.getD r.toNat Sh0).2.1) (v6 := (sh.getD r.toNat Sh0).2.2) (v7 := sh) (64 + c % 2 - sk.length).toNat sk (by omega)
    simp (disch := omega) only [dif_dec, dif_ndec, bif_eq, bif_neq, bif_ne, bif_nne, w64, wu64, Int.toNat_natCast, Option.bind_some, cond_true, cond_false, Bool.not_true, Bool.not_false, Sum.elim_inl, Sum.elim_inr, l1]
    exact ⟨_, rfl, rfl, rfl, ls, show sk'.length ≤ 100 by omega⟩
  by_cases c6 : q = 6
  · obtain ⟨sh', l1, l2, l3⟩ := fill1 (v0 := c) (v1 := r) (v2 := js) (v3 := ms) (v4 := (sh.getD r.toNat Sh0).1) (v5 := (sh.getD r.toNat Sh0).2.1) (v6 := (sh.getD r.toNat Sh0).2.2) (v8 := sk) (24 + c % 2 - sh.length).toNat sh (by omega)
    simp (disch := omega) only [dif_dec, dif_ndec, bif_eq, bif_neq, bif_ne, bif_nne, w64, wu64, Int.toNat_natCast, Option.bind_some, cond_true, cond_false, Bool.not_true, Bool.not_false, Sum.elim_inl, Sum.elim_inr, l1]
    have ls' : ∀ {n : Nat} {x : ShT}, (sh'.set n x).length ≤ 100 := by intro n x; rw [List.length_set]; omega
    exact ⟨_, rfl, rfl, rfl, ls', show sk.length ≤ 100 by omega⟩
  simp (disch := omega) only [dif_dec, dif_ndec, bif_eq, bif_neq, bif_ne, bif_nne, w64, wu64, Int.toNat_natCast, Option.bind_some, cond_true, cond_false, Bool.not_true, Bool.not_false, Sum.elim_inl, Sum.elim_inr]
  exact ⟨_, rfl, rfl, rfl, ls, show sk.length ≤ 100 by omega⟩
theorem checks_true {js0 : List JT} {ms0 : List MT} {sh0 : List ShT} {sk0 : List SkT} (a1 : js0.length ≤ 2 ^ 60) (a2 : ms0.length ≤ 2 ^ 60) (a3 : sh0.length ≤ 2 ^ 60) (a4 : sk0.length ≤ 2 ^ 60) (a5 : ∀ j ∈ js0, j.1.size ≤ 2 ^ 60) {l : List Int} (hl : l.length ≤ 2 ^ 60) (a b c : Int) : armplanlaw9_SceneChecks.F js0 ms0 sh0 sk0 l a b c = some true := by
  rw [armplanlaw9_SceneChecks.F_eq]
  unfold armplanlaw9_SceneChecks.F0
  obtain ⟨⟨js, ms, sh, sk⟩, hS, hG⟩ := scene_val hl
  simp only [] at hG
  have hc := chkScene_good hG
  have hz := chkScene_zero hc
  have hzr := chkRobot_zero hz.1
  have hs1 := hG.s1
  have hs2 := hG.s2
  have hk1 := hG.k1
  have hm := hzr.2.2.2.1
  have hpts : ∀ i, (sh.getD i Sh0).2.2.length ≤ 8 := by
    intro i
    by_cases hi : i < sh.length
    · have := (hG.s i hi).2.2.1.2; omega
    · rw [List.getD_eq_getElem?_getD, List.getElem?_eq_none (by omega)]
      simp
  have hnm : ∀ j ∈ js, j.1.size ≤ 2 ^ 60 := by
    intro j hj
    obtain ⟨i, hi, e⟩ := List.getElem_of_mem hj
    have h1 := ((hzr.2.2.1 i hi).2).nm
    have h2 : js.getD i J0 = j := by rw [List.getD_eq_getElem?_getD, List.getElem?_eq_getElem hi, e]; rfl
    rw [h2] at h1
    unfold nameB at h1
    rw [Bool.and_eq_true, Bool.and_eq_true] at h1
    have := of_decide_eq_true h1.2.1
    omega
  obtain ⟨⟨js', ms', sh', sk'⟩, hr, e1, e2, e3, e4⟩ := changed_val (js := js) (ms := ms) a b c hs1 (by omega) hz.2.2.2.1 hpts
  simp only [] at e1 e2 e3 e4
  subst e1 e2
  rw [hS, Option.bind_some]
  simp only []
  rw [hr, Option.bind_some, awake9_true, Option.bind_some, cond_true, sceneCheck_val (js := js') (ms := ms') (sh := sh) (sk := sk) (by omega) (by omega) (by omega) (by omega), Option.bind_some, hc, sceneCheck_val a1 a2 a3 a4, rsceneCheck_val a1 a2 a3 a4 a5]
  simp only []
  rw [sceneCheck_val (js := js') (ms := ms') (sh := sh') (sk := sk') (by omega) (by omega) (by omega) (by omega), rsceneCheck_val (js := js') (ms := ms') (sh := sh') (sk := sk') (by omega) (by omega) (by omega) (by omega) hnm]
  simp only [Option.bind_some, beq_self_eq_true, cond_true]
abbrev checksAk : List AK := [.ag (.pair (.pair (.slc (.pair .str (.pair (.int .i64) (.pair (.int .i64) (.pair (.pair (.int .i64) (.pair (.int .i64) (.int .i64))) (.pair (.int .i64) (.pair (.int .i64) (.pair (.int .i64) (.pair (.int .i64) (.pair (.int .i64) (.int .i64))))))))))) (.slc (.pair (.int .i64) (.pair (.int .i64) (.pair (.int .i64) (.pair (.int .i64) (.int .i64))))))) (.pair (.slc (.pair (.int .i64) (.pair (.int .i64) (.slc (.pair (.int .i64) (.pair (.int .i64) (.int .i64))))))) (.slc (.pair (.int .i64) (.int .i64))))), .lf (.slc (.int .i64)), .lf (.int .i64), .lf (.int .i64), .lf (.int .i64)]
theorem checks_good (x : ArgT checksAk) (g : GoodAll checksAk x) : armplanlaw9_SceneChecks.F x.1.1.1 x.1.1.2 x.1.2.1 x.1.2.2 x.2.1 x.2.2.1 x.2.2.2.1 x.2.2.2.2.1 = some true := by
  obtain ⟨⟨⟨⟨g1, g2⟩, g3, _⟩, ⟨g4, _⟩, g5, _⟩, ⟨g6, _⟩, _⟩ := g
  simp only [minB, reachBytes] at g1 g3 g4 g5 g6
  refine checks_true (by omega) (by omega) (by omega) (by omega) (fun j hj => ?_) (by omega) _ _ _
  have : j.1.size ≤ reachBytes := (g2 j hj).1
  simp only [reachBytes] at this
  omega
end Go.Abs
