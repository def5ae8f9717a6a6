/- A part of the proof that the text with the row names: printed readings of functions, or plain lemmas about them. -/
import Derived.Test.YtomabhiochmojaaC35J3
set_option linter.unusedVariables false
set_option linter.unusedSimpArgs false
namespace Go.Abs
open Go
theorem from_val (l : List Int) : mk_From.F l = some (l, 0) := by
  rw [mk_From.F_eq]
  rfl
def slJ (hi : Int) (i : Nat) : JT := (letterB i, (4 + ((i % 2 : Nat) : Int), ((i : Int) - 1, (((0 : Int), ((0 : Int), (0 : Int))), ((0 : Int), (hi, ((1 : Int), ((65536 : Int), ((65536 : Int), (65536 : Int))))))))))
def sliderL (hi : Int) : Nat → List JT
  | 0 => []
  | i + 1 => sliderL hi i ++ [slJ hi i]
theorem sliderL_length (hi : Int) : ∀ i, (sliderL hi i).length = i
  | 0 => rfl
  | i + 1 => by rw [sliderL, List.length_append, sliderL_length hi i]; rfl
theorem slider_val {n : Nat} (hi : Int) (hn : n ≤ 10) : mk_Slider.F (n : Int) hi = some (sliderL hi n, []) := by
  rw [mk_Slider.F_eq]
  unfold mk_Slider.F0
  have := loop_count (step := mk_Slider.p0.step) (fun i : Nat => ((n : Int), hi, (i : Int), sliderL hi i)) n (sliderL hi n) (by
    intro i hi'
    have hl := sliderL_length hi i
    have e2 : (i : Int).tmod 2 = ((i % 2 : Nat) : Int) := tmod_nat i 2
    have e3 : ((i % 2 : Nat) : Int) ≤ 1 := by omega
    unfold mk_Slider.p0.step mk_Slider.p0.round
    simp only [List.length_cons, List.length_nil, e2]
    rw [dif_dec (by omega), letter_val (by omega), Option.bind_some, dif_dec (by omega), w64 (n := 4 + ((i % 2 : Nat) : Int)) (by omega) (by omega), w64 (n := (i : Int) - 1) (by omega) (by omega), w64 (n := (i : Int) + 1) (by omega) (by omega)]
    rfl) (by
    unfold mk_Slider.p0.step mk_Slider.p0.round
    simp only []
    simp (disch := omega) only [dif_dec, dif_ndec, bif_eq, bif_neq, bif_ne, bif_nne, w64, wu64, Int.toNat_natCast, Option.bind_some, cond_true, cond_false, Bool.not_true, Bool.not_false, Sum.elim_inl, Sum.elim_inr]) n 0 (by omega)
  rw [show ((0 : Nat) : Int) = 0 from rfl] at this
  rw [show ([] : List JT) = sliderL hi 0 from rfl, this]
  rfl
theorem slider_ok : ∀ n : Nat, n < 3 → 1 ≤ n → chkRobot (sliderL 64 n) [] = 0 := by
  have h : ((List.range 3).all fun n => decide (n = 0) || decide (chkRobot (sliderL 64 n) [] = 0)) = true := by decide +kernel
  intro n hn h1
  rw [List.all_eq_true] at h
  have := h n (List.mem_range.2 hn)
  rw [decide_eq_false (show ¬ n = 0 by omega), Bool.false_or] at this
  exact of_decide_eq_true this
theorem goodP_of {x y z : Int} (h1 : -500000 ≤ x ∧ x ≤ 500000) (h2 : -500000 ≤ y ∧ y ≤ 500000) (h3 : -500000 ≤ z ∧ z ≤ 500000) : GoodP (x, (y, z)) := ⟨h1, h2, h3⟩
theorem track_loop {l : List Int} {js : List JT} {ms : List MT} {n : Int} (hn : 1 ≤ n) (hl : l.length ≤ 2 ^ 60) : ∀ (k : Nat) (p : Int) (sh : List ShT), sh.length + k ≤ 5 → (∀ x ∈ sh, GoodS n x) → 0 ≤ p → p ≤ 2 ^ 62 →
    ∃ sh', loopF mk_Track.p0.step ((k : Int), l, p, js, ms, sh) = some (js, ms, sh') ∧ sh'.length ≤ 5 ∧ sh.length ≤ sh'.length ∧ ∀ x ∈ sh', GoodS n x
  | 0, p, sh, hk, hv, hp, hp' => by
    refine ⟨sh, loop_end ?_, by omega, by omega, hv⟩
    unfold mk_Track.p0.step mk_Track.p0.round
    simp only []
    simp (disch := omega) only [dif_dec, dif_ndec, bif_eq, bif_neq, bif_ne, bif_nne, w64, wu64, Int.toNat_natCast, Option.bind_some, cond_true, cond_false, Bool.not_true, Bool.not_false, Sum.elim_inl, Sum.elim_inr]
  | k + 1, p, sh, hk, hv, hp, hp' => by
    obtain ⟨x, q1, e1, x1, x2, x3, x4⟩ := next_val (k := 65) (l := l) (by omega) (by omega) hl hp hp'
    obtain ⟨y, q2, e2, y1, y2, y3, y4⟩ := next_val (k := 65) (l := l) (by omega) (by omega) hl x3 x4
    obtain ⟨z, q3, e3, z1, z2, z3, z4⟩ := next_val (k := 3) (l := l) (by omega) (by omega) hl y3 y4
    obtain ⟨w, q4, e4, w1, w2, w3, w4⟩ := next_val (k := 9) (l := l) (by omega) (by omega) hl z3 z4
    have kk : (((k + 1 : Nat) : Int) - 1) = (k : Int) := by omega
    have key : ∀ pts : List PT, 1 ≤ pts.length → pts.length ≤ 4 → (∀ v ∈ pts, GoodP v) → ∃ sh', loopF mk_Track.p0.step ((k : Int), l, q4, js, ms, sh ++ [(-1, (2 + w, pts))]) = some (js, ms, sh') ∧ sh'.length ≤ 5 ∧ sh.length ≤ sh'.length ∧ ∀ x ∈ sh', GoodS n x := by
      intro pts h1 h2 h3
      obtain ⟨sh', g1, g2, g3, g4⟩ := track_loop (js := js) (ms := ms) hn hl k q4 (sh ++ [(-1, (2 + w, pts))]) (by simp; omega) (by
        intro s hs
        rw [List.mem_append] at hs
        rcases hs with hs | hs
        · exact hv s hs
        · simp at hs; subst hs
          exact ⟨⟨show -1 ≤ (-1 : Int) by omega, show (-1 : Int) < n by omega⟩, ⟨show 1 ≤ 2 + w by omega, show 2 + w ≤ 32768 by omega⟩, ⟨h1, h2⟩, fun i hi => h3 _ (getD_mem hi)⟩) w3 w4
      exact ⟨sh', g1, g2, by rw [List.length_append] at g3; omega, g4⟩
    by_cases h0 : z = 0
    · obtain ⟨sh', g1, g2⟩ := key [(x, (-9, 0)), (x, (80, 0))] (by simp) (by simp) (by
        intro v hv
        simp at hv
        rcases hv with rfl | rfl <;> exact goodP_of (by omega) (by omega) (by omega))
      refine ⟨sh', loop_next ?_ g1, g2⟩
      unfold mk_Track.p0.step mk_Track.p0.round
      simp only [List.length_cons, List.length_nil]
      simp (disch := omega) only [dif_dec, dif_ndec, bif_eq, bif_neq, bif_ne, bif_nne, w64, wu64, Int.toNat_natCast, Option.bind_some, cond_true, cond_false, Bool.not_true, Bool.not_false, Sum.elim_inl, Sum.elim_inr, e1, e2, e3, e4, kk]
    · obtain ⟨sh', g1, g2⟩ := key [(x, (y, 0))] (by simp) (by simp) (by
        intro v hv
        simp at hv
        subst hv
        exact goodP_of (by omega) (by omega) (by omega))
      refine ⟨sh', loop_next ?_ g1, g2⟩
      unfold mk_Track.p0.step mk_Track.p0.round
      simp only [List.length_cons, List.length_nil]
      simp (disch := omega) only [dif_dec, dif_ndec, bif_eq, bif_neq, bif_ne, bif_nne, w64, wu64, Int.toNat_natCast, Option.bind_some, cond_true, cond_false, Bool.not_true, Bool.not_false, Sum.elim_inl, Sum.elim_inr, e1, e2, e3, e4, kk]
theorem track_val {l : List Int} (hl : l.length ≤ 2 ^ 60) : ∃ r, mk_Track.F l = some r ∧ chkScene r.1 r.2.1 r.2.2.1 r.2.2.2 = 0 := by
  rw [mk_Track.F_eq]
  unfold mk_Track.F0
  rw [from_val, Option.bind_some]
  simp only []
  obtain ⟨v, q1, e1, x1, x2, x3, x4⟩ := next_val (k := 2) (i := 0) (l := l) (by omega) (by omega) hl (by omega) (by omega)
  rw [e1, Option.bind_some]
  simp only []
  rw [w64 (n := 1 + v) (by omega) (by omega), show 1 + v = (((1 + v).toNat : Nat) : Int) by omega]
  have h1 : 1 ≤ (1 + v).toNat := by omega
  have h2 : (1 + v).toNat < 3 := by omega
  generalize (1 + v).toNat = n at h1 h2
  rw [slider_val 64 (by omega), Option.bind_some]
  obtain ⟨r, q2, e2, y1, y2, y3, y4⟩ := next_val (k := 4) (l := l) (by omega) (by omega) hl x3 x4
  rw [e2, Option.bind_some]
  obtain ⟨c, q3, e3, z1, z2, z3, z4⟩ := next_val (k := 4) (l := l) (by omega) (by omega) hl y3 y4
  simp only [List.length_cons, List.length_nil]
  rw [dif_dec (by omega), e3, Option.bind_some]
  simp only []
  rw [w64 (n := (n : Int) - 1) (by omega) (by omega), w64 (n := 1 + r) (by omega) (by omega)]
  obtain ⟨sh', g1, g2, g3, g4⟩ := track_loop (js := sliderL 64 n) (ms := []) (n := (n : Int)) (by omega) hl c.toNat q3 [((n : Int) - 1, (1 + r, [((0 : Int), ((0 : Int), (0 : Int)))]))] (by simp; omega) (by
    intro s hs
    simp at hs; subst hs
    exact ⟨⟨show -1 ≤ (n : Int) - 1 by omega, show (n : Int) - 1 < n by omega⟩, ⟨show 1 ≤ 1 + r by omega, show 1 + r ≤ 32768 by omega⟩, ⟨by simp, by simp⟩, fun i hi => by
      have : i = 0 := by simpa using hi
      subst this
      exact goodP_of (by omega) (by omega) (by omega)⟩) z3 z4
  rw [show ((c.toNat : Nat) : Int) = c by omega] at g1
  rw [g1]
  have hsl := sliderL_length 64 n
  refine ⟨_, rfl, chkScene_of (slider_ok n h2 h1) (show sh'.length ≤ 24 by omega) (fun i hi => ?_) (by simp) (fun i hi => by simp at hi)⟩
  show chkS ((sliderL 64 n).length : Int) (sh'.getD i Sh0) = 0
  rw [hsl]
  exact chkS_good (g4 _ (getD_mem hi))
theorem rot_loop {l m : List Int} {n : Nat} {p : Int} {xs : List ScT} {bs : List PT} (hl : l.length ≤ 17592186043904) (hn : n ≤ 3) : ∀ (k i : Nat) (out : List Int), i + k = l.length → out.length = i →
    ∃ out', loopF l35_scenes.p1.step (l, (n : Int), (i : Int), m, p, xs, bs, out) = some (l, (n : Int), m, p, xs, bs, out') ∧ out'.length = l.length
  | 0, i, out, hk, ho => by
    refine ⟨out, loop_end ?_, by omega⟩
    unfold l35_scenes.p1.step l35_scenes.p1.round
    simp only []
    simp (disch := omega) only [dif_dec, dif_ndec, bif_eq, bif_neq, bif_ne, bif_nne, w64, wu64, Int.toNat_natCast, Option.bind_some, cond_true, cond_false, Bool.not_true, Bool.not_false, Sum.elim_inl, Sum.elim_inr]
  | k + 1, i, out, hk, ho => by
    have key : ∀ w : Int, ∃ out', loopF l35_scenes.p1.step (l, (n : Int), ((i + 1 : Nat) : Int), m, p, xs, bs, out ++ [w]) = some (l, (n : Int), m, p, xs, bs, out') ∧ out'.length = l.length := fun w => rot_loop hl hn k (i + 1) (out ++ [w]) (by omega) (by simp; omega)
    obtain ⟨out', g1, g2⟩ := key _
    have et : ((i : Int) + (n : Int)).tmod (l.length : Int) = (((i + n) % l.length : Nat) : Int) := by rw [← Int.natCast_add]; exact tmod_nat _ _
    have hm : (i + n) % l.length < l.length := Nat.mod_lt _ (by omega)
    refine ⟨out', loop_next ?_ g1, g2⟩
    unfold l35_scenes.p1.step l35_scenes.p1.round
    simp only [List.length_cons, List.length_nil]
    rw [dif_dec (by omega), bif_ne (by omega), w64 (n := (i : Int) + (n : Int)) (by omega) (by omega), et, dif_dec (by omega), dif_dec (by omega), dif_dec (by omega), w64 (n := (i : Int) + 1) (by omega) (by omega)]
    rfl
theorem scenes_loop {l m : List Int} (hl : l.length ≤ 17592186043904) (hm : m.length ≤ 2 ^ 60) : ∀ (n : Nat) (p : Int) (xs : List ScT) (bs : List PT), n + xs.length ≤ 3 → xs.length = bs.length → (∀ s ∈ xs, chkSc s = 0) → 0 ≤ p → p ≤ 2 ^ 62 →
    ∃ xs' bs', loopF l35_scenes.p0.step (l, (n : Int), m, p, xs, bs) = some (xs', bs') ∧ xs'.length = n + xs.length ∧ xs'.length = bs'.length ∧ ∀ s ∈ xs', chkSc s = 0
  | 0, p, xs, bs, hk, he, hc, hp, hp' => by
    refine ⟨xs, bs, loop_end ?_, by omega, he, hc⟩
    unfold l35_scenes.p0.step l35_scenes.p0.round
    simp only []
    simp (disch := omega) only [dif_dec, dif_ndec, bif_eq, bif_neq, bif_ne, bif_nne, w64, wu64, Int.toNat_natCast, Option.bind_some, cond_true, cond_false, Bool.not_true, Bool.not_false, Sum.elim_inl, Sum.elim_inr]
  | n + 1, p, xs, bs, hk, he, hc, hp, hp' => by
    obtain ⟨out, r1, r2⟩ := rot_loop (m := m) (n := n + 1) (p := p) (xs := xs) (bs := bs) hl (by omega) l.length 0 [] (by omega) rfl
    rw [show ((0 : Nat) : Int) = 0 from rfl] at r1
    obtain ⟨sc, s1, s2⟩ := scene_val (l := out) (by omega)
    obtain ⟨tr, t1, t2⟩ := track_val (l := out) (by omega)
    obtain ⟨x, q1, e1, x1, x2, x3, x4⟩ := next_val (k := 2) (l := m) (by omega) (by omega) hm hp hp'
    obtain ⟨a, q2, e2, _, _, y3, y4⟩ := signed_val (k := 9) (l := m) (by omega) (by omega) hm x3 x4
    obtain ⟨b, q3, e3, _, _, z3, z4⟩ := signed_val (k := 9) (l := m) (by omega) (by omega) hm y3 y4
    obtain ⟨c, q4, e4, _, _, w3, w4⟩ := signed_val (k := 3) (l := m) (by omega) (by omega) hm z3 z4
    have kk : (((n + 1 : Nat) : Int) - 1) = (n : Int) := by omega
    have key : ∀ (s : ScT) (v : PT), chkSc s = 0 → ∃ xs' bs', loopF l35_scenes.p0.step (l, (n : Int), m, q4, xs ++ [s], bs ++ [v]) = some (xs', bs') ∧ xs'.length = n + 1 + xs.length ∧ xs'.length = bs'.length ∧ ∀ s ∈ xs', chkSc s = 0 := by
      intro s v hs
      obtain ⟨xs', bs', g1, g2, g3⟩ := scenes_loop hl hm n q4 (xs ++ [s]) (bs ++ [v]) (by simp; omega) (by simp; omega) (by
        intro t ht
        rw [List.mem_append] at ht
        rcases ht with ht | ht
        · exact hc t ht
        · simp at ht; subst ht; exact hs) w3 w4
      refine ⟨xs', bs', g1, ?_, g3⟩
      rw [g2, List.length_append]
      simp only [List.length_cons, List.length_nil]
      omega
    by_cases h1 : x = 1
    · obtain ⟨xs', bs', g1, g2⟩ := key ((tr.1, tr.2.1), tr.2.2) _ t2
      refine ⟨xs', bs', loop_next ?_ g1, g2⟩
      unfold l35_scenes.p0.step l35_scenes.p0.round
      simp only [List.length_cons, List.length_nil]
      rw [dif_dec (by omega), r1, Option.bind_some]
      simp only []
      rw [s1, Option.bind_some, e1, Option.bind_some]
      simp only []
      rw [bif_eq h1, t1, Option.bind_some, dif_dec (by omega), e2, Option.bind_some]
      simp only []
      rw [e3, Option.bind_some]
      simp only []
      rw [e4, Option.bind_some]
      simp only []
      rw [dif_dec (by omega), w64 (n := ((n + 1 : Nat) : Int) - 1) (by omega) (by omega), kk]
    · obtain ⟨xs', bs', g1, g2⟩ := key ((sc.1, sc.2.1), sc.2.2) _ (chkScene_good s2)
      refine ⟨xs', bs', loop_next ?_ g1, g2⟩
      unfold l35_scenes.p0.step l35_scenes.p0.round
      simp only [List.length_cons, List.length_nil]
      rw [dif_dec (by omega), r1, Option.bind_some]
      simp only []
      rw [s1, Option.bind_some, e1, Option.bind_some]
      simp only []
      rw [bif_neq h1, dif_dec (by omega), e2, Option.bind_some]
      simp only []
      rw [e3, Option.bind_some]
      simp only []
      rw [e4, Option.bind_some]
      simp only []
      rw [dif_dec (by omega), w64 (n := ((n + 1 : Nat) : Int) - 1) (by omega) (by omega), kk]
theorem scenes_val {l m : List Int} (hl : l.length ≤ 17592186043904) (hm : m.length ≤ 2 ^ 60) : ∃ xs bs, l35_scenes.F l m = some (xs, bs) ∧ xs.length = bs.length ∧ 1 ≤ xs.length ∧ xs.length ≤ 3 ∧ ∀ s ∈ xs, chkSc s = 0 := by
  rw [l35_scenes.F_eq]
  unfold l35_scenes.F0
  rw [from_val, Option.bind_some]
  simp only []
  obtain ⟨v, q1, e1, x1, x2, x3, x4⟩ := next_val (k := 3) (i := 0) (l := m) (by omega) (by omega) hm (by omega) (by omega)
  rw [e1, Option.bind_some]
  simp only []
  rw [w64 (n := 1 + v) (by omega) (by omega), show 1 + v = (((1 + v).toNat : Nat) : Int) by omega]
  obtain ⟨xs, bs, g1, g2, g3, g4⟩ := scenes_loop hl hm (1 + v).toNat q1 [] [] (by simp; omega) rfl (by intro s hs; cases hs) x3 x4
  rw [g1]
  refine ⟨xs, bs, rfl, g3, ?_, ?_, g4⟩
  · rw [g2]; simp only [List.length_nil]; omega
  · rw [g2]; simp only [List.length_nil]; omega
theorem big_of {xs : List ScT} (h : ∀ s ∈ xs, chkSc s = 0) : BigL xs := by
  intro i hi
  obtain ⟨a1, a2, a3, a4, _, a5, _, _⟩ := small_of (h _ (getD_mem (d := Sc0) hi))
  exact ⟨by omega, fun j hj => by have := a2 j hj; omega, by omega, by omega, by omega⟩
theorem few35_val (l : List ScT) (bs : List PT) (hl : l.length ≤ 2 ^ 60) : ∃ q, l35_few.F l bs = some q ∧ (q = true → l.length ≤ 6 ∧ bs.length ≤ 8) := by
  have eS : ((([] : List JT), ([] : List MT)), (([] : List ShT), ([] : List SkT))) = Sc0 := rfl
  rw [l35_few.F_eq]
  unfold l35_few.F0
  by_cases a : (l.length : Int) > 6
  · rw [dif_dec a]; exact ⟨false, rfl, fun h => by cases h⟩
  · rw [dif_ndec a]
    by_cases b : (bs.length : Int) > 8
    · rw [dif_dec b]; exact ⟨false, rfl, fun h => by cases h⟩
    · rw [dif_ndec b]
      have hsm : ∀ s : ScT, ∃ q, mk_SmallScene.F s.1.1 s.1.2 s.2.1 s.2.2 = some q := by
        intro s
        rw [mk_SmallScene.F_eq]
        unfold mk_SmallScene.F0
        cases decide ((s.1.1.length : Int) ≤ 4) <;> cases decide ((s.1.2.length : Int) ≤ 6) <;> cases decide ((s.2.1.length : Int) ≤ 6) <;> exact ⟨_, rfl⟩
      have hq : ∀ k i, i + k = l.length → ∃ q : Bool ⊕ Unit, loopF l35_few.p0.step (l, (i : Int)) = some q := by
        intro k
        induction k with
        | zero =>
          intro i hi
          refine ⟨.inr (), loop_end ?_⟩
          unfold l35_few.p0.step l35_few.p0.round
          simp only []
          simp (disch := omega) only [dif_dec, dif_ndec, bif_eq, bif_neq, bif_ne, bif_nne, w64, wu64, Int.toNat_natCast, Option.bind_some, cond_true, cond_false, Bool.not_true, Bool.not_false, Sum.elim_inl, Sum.elim_inr]
        | succ k ih =>
          intro i hi
          obtain ⟨q, e⟩ := hsm (l.getD i Sc0)
          cases q with
          | false =>
            refine ⟨.inl false, loop_end ?_⟩
            unfold l35_few.p0.step l35_few.p0.round
            simp only [Int.toNat_natCast, eS]
            rw [e, dif_dec (by omega), dif_dec (by omega), dif_dec (by omega)]
            rfl
          | true =>
            obtain ⟨q', e'⟩ := ih (i + 1) (by omega)
            refine ⟨q', loop_next ?_ e'⟩
            unfold l35_few.p0.step l35_few.p0.round
            simp only [Int.toNat_natCast, eS]
            rw [e, dif_dec (by omega), dif_dec (by omega), dif_dec (by omega), w64 (by omega) (by omega)]
            rfl
      obtain ⟨q, e⟩ := hq l.length 0 (by omega)
      rw [show ((0 : Nat) : Int) = 0 from rfl] at e
      rw [e, Option.bind_some]
      cases q with
      | inl v => exact ⟨v, rfl, fun _ => by omega⟩
      | inr v => exact ⟨true, rfl, fun _ => by omega⟩
end Go.Abs
