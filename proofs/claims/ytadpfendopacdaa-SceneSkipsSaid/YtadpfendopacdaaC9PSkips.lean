/- A part of the proof that the text with the row names: printed readings of functions, or plain lemmas about them. -/
import Derived.Test.YtadpfendopacdaaC9GLSceneSkips
import Derived.Test.YtadpfendopacdaaC9M6
set_option linter.unusedVariables false
set_option linter.unusedSimpArgs false
namespace Go.Abs
open Go
theorem getD_mem {α : Type} {l : List α} {d : α} {i : Nat} (h : i < l.length) : l.getD i d ∈ l := by
  rw [List.getD_eq_getElem?_getD, List.getElem?_eq_getElem h]
  exact List.getElem_mem _
theorem mem_getD {α : Type} {l : List α} {d x : α} (h : x ∈ l) : ∃ i, i < l.length ∧ l.getD i d = x := by
  obtain ⟨i, hi, e⟩ := List.getElem_of_mem h
  exact ⟨i, hi, by rw [List.getD_eq_getElem?_getD, List.getElem?_eq_getElem hi, e]; rfl⟩
theorem skipB_any (sk : List SkT) (a b : Int) : skipB sk a b = sk.any fun x => skipOne x a b := by
  rw [Bool.eq_iff_iff, List.any_eq_true]
  unfold skipB
  rw [anyB_iff]
  constructor
  · rintro ⟨j, _, h2, h3⟩
    exact ⟨_, getD_mem (by omega), h3⟩
  · rintro ⟨x, hx, h⟩
    obtain ⟨i, hi, e⟩ := mem_getD (d := ((0 : Int), (0 : Int))) hx
    exact ⟨i, Nat.zero_le _, by omega, by rw [e]; exact h⟩
def twoL (l : List SkT) : List SkT := l.flatMap fun x => [(x.2, x.1), x]
theorem twoL_length : ∀ l : List SkT, (twoL l).length = 2 * l.length
  | [] => rfl
  | x :: l => by
    have := twoL_length l
    unfold twoL at *
    rw [List.flatMap_cons, List.length_append, this]
    simp only [List.length_cons, List.length_nil]
    omega
theorem skipOne_swap (x : SkT) (a b : Int) : skipOne (x.2, x.1) a b = skipOne x a b := by
  unfold skipOne
  simp only []
  cases (x.2 == a) <;> cases (x.1 == b) <;> cases (x.2 == b) <;> cases (x.1 == a) <;> rfl
theorem twoL_skip (a b : Int) : ∀ l : List SkT, (twoL l).any (fun x => skipOne x a b) = l.any fun x => skipOne x a b
  | [] => rfl
  | x :: l => by
    have := twoL_skip a b l
    unfold twoL at *
    rw [List.flatMap_cons, List.any_append, this, List.any_cons, List.any_cons, List.any_cons, List.any_nil, skipOne_swap]
    cases skipOne x a b <;> rfl
theorem keep_two (js : List JT) (sh : List ShT) (sk : List SkT) : keepB js sh (twoL sk) = keepB js sh sk := by
  funext i k
  unfold keepB
  rw [skipB_any, twoL_skip, ← skipB_any]
theorem rowP_filter {P P' : Nat → Nat → Bool} {Q : SkT → Bool} (h : ∀ i k, P' i k = (P i k && Q ((i : Int), (k : Int)))) (i : Nat) : ∀ m k, rowP P' i k m = (rowP P i k m).filter Q
  | 0, k => rfl
  | m + 1, k => by
    rw [rowP, rowP, rowP_filter h i m, List.filter_append, h]
    congr 1
    cases hp : P i k with
    | false => rfl
    | true => cases hq : Q ((i : Int), (k : Int)) <;> simp [List.filter, hq]
theorem allP_filter {P P' : Nat → Nat → Bool} {Q : SkT → Bool} (h : ∀ i k, P' i k = (P i k && Q ((i : Int), (k : Int)))) (n : Nat) : ∀ m i, allP P' n i m = (allP P n i m).filter Q
  | 0, i => rfl
  | m + 1, i => by rw [allP, allP, List.filter_append, allP_filter h n m, rowP_filter h]
theorem rowP_mem {P : Nat → Nat → Bool} {i : Nat} {x : SkT} : ∀ {m k : Nat}, x ∈ rowP P i k m → x.1 = i ∧ (0 : Int) ≤ x.2 ∧ x.2 < ((k + m : Nat) : Int)
  | 0, k, h => by simp [rowP] at h
  | m + 1, k, h => by
    rw [rowP, List.mem_append] at h
    rcases h with h | h
    · split at h
      · simp at h; subst h; exact ⟨rfl, show (0 : Int) ≤ (k : Int) by omega, show (k : Int) < ((k + (m + 1) : Nat) : Int) by omega⟩
      · cases h
    · have := rowP_mem h; omega
theorem allP_mem {P : Nat → Nat → Bool} {n : Nat} {x : SkT} : ∀ {m i : Nat}, i + m = n → x ∈ allP P n i m → ((0 : Int) ≤ x.1 ∧ x.1 < n) ∧ ((0 : Int) ≤ x.2 ∧ x.2 < n)
  | 0, i, hm, h => by simp [allP] at h
  | m + 1, i, hm, h => by
    rw [allP, List.mem_append] at h
    rcases h with h | h
    · have := rowP_mem h; omega
    · exact allP_mem (by omega) h
theorem chkK_links {n : Int} {x : SkT} (h : chkK n x = 0) : linkB n x.1 = true ∧ linkB n x.2 = true := by
  unfold chkK at h
  cases h1 : linkB n x.1 with
  | false => rw [h1] at h; cases h
  | true =>
    cases h2 : linkB n x.2 with
    | false => rw [h1, h2] at h; cases h
    | true => exact ⟨rfl, rfl⟩
theorem chkK_of {n : Int} {x : SkT} (h1 : linkB n x.1 = true) (h2 : linkB n x.2 = true) : chkK n x = 0 := by
  unfold chkK
  rw [h1, h2]
  rfl
theorem two_loop {a1 a2 : Int} {js : List JT} {ms : List MT} {sh : List ShT} {sk : List SkT} (hk : sk.length ≤ 64) : loopF armplanlaw9_SceneSkips.p0.step (a1, a2, 0, js, ms, sh, sk, js, ms, sh, ([] : List SkT)) = some (a1, a2, js, ms, sh, sk, js, ms, sh, twoL sk) := by
  have := loop_count (step := armplanlaw9_SceneSkips.p0.step) (fun i : Nat => (a1, a2, (i : Int), js, ms, sh, sk, js, ms, sh, twoL (sk.take i))) sk.length (a1, a2, js, ms, sh, sk, js, ms, sh, twoL sk) (by
    intro i hi
    have hl := twoL_length (sk.take i)
    have hl' : (sk.take i).length ≤ 64 := by rw [List.length_take]; omega
    unfold armplanlaw9_SceneSkips.p0.step armplanlaw9_SceneSkips.p0.round
    simp only [List.length_cons, List.length_nil]
    simp (disch := omega) only [dif_dec, dif_ndec, bif_eq, bif_neq, bif_ne, bif_nne, w64, wu64, Int.toNat_natCast, Option.bind_some, cond_true, cond_false, Bool.not_true, Bool.not_false, Sum.elim_inl, Sum.elim_inr]
    have e : sk.take (i + 1) = sk.take i ++ [sk.getD i (0, 0)] := by
      rw [List.take_add_one, List.getElem?_eq_getElem hi, List.getD_eq_getElem?_getD, List.getElem?_eq_getElem hi]
      rfl
    rw [e]
    unfold twoL
    rw [List.flatMap_append]
    rfl) (by
    unfold armplanlaw9_SceneSkips.p0.step armplanlaw9_SceneSkips.p0.round
    simp only []
    rw [List.take_length]
    simp (disch := omega) only [dif_dec, dif_ndec, bif_eq, bif_neq, bif_ne, bif_nne, w64, wu64, Int.toNat_natCast, Option.bind_some, cond_true, cond_false, Bool.not_true, Bool.not_false, Sum.elim_inl, Sum.elim_inr]) sk.length 0 (by omega)
  rw [show ((0 : Nat) : Int) = 0 from rfl] at this
  exact this
theorem kept_loop {js : List JT} {ms : List MT} {sh : List ShT} {sk skx r5 r6 sk2 : List SkT} (hx : skx.length ≤ 100) (hl : r5.length ≤ 100000) (hin : ∀ x ∈ r5, ((0 : Int) ≤ x.1 ∧ x.1 < sh.length) ∧ ((0 : Int) ≤ x.2 ∧ x.2 < sh.length)) : ∀ (m n : Nat) (out : List SkT), n + m = r5.length → out.length ≤ n →
    loopF armplanlaw9_SceneSkips.p1.step ((n : Int), js, ms, sh, sk, js, ms, sh, js, ms, sh, skx, r5, r6, out, sk2) = some (.inr (js, ms, sh, r5, r6, out ++ (r5.drop n).filter (fun p => !skipB skx (lk sh p.1.toNat) (lk sh p.2.toNat)), sk2))
  | 0, n, out, hm, ho => by
    refine loop_end ?_
    rw [List.drop_of_length_le (by omega), List.filter_nil, List.append_nil]
    unfold armplanlaw9_SceneSkips.p1.step armplanlaw9_SceneSkips.p1.round
    simp only []
    simp (disch := omega) only [dif_dec, dif_ndec, bif_eq, bif_neq, bif_ne, bif_nne, w64, wu64, Int.toNat_natCast, Option.bind_some, cond_true, cond_false, Bool.not_true, Bool.not_false, Sum.elim_inl, Sum.elim_inr]
  | m + 1, n, out, hm, ho => by
    have hn : n < r5.length := by omega
    have b : ((0 : Int) ≤ (r5.getD n ((0 : Int), (0 : Int))).1 ∧ (r5.getD n ((0 : Int), (0 : Int))).1 < sh.length) ∧ ((0 : Int) ≤ (r5.getD n ((0 : Int), (0 : Int))).2 ∧ (r5.getD n ((0 : Int), (0 : Int))).2 < sh.length) := hin _ (getD_mem hn)
    obtain ⟨⟨b1, b2⟩, b3, b4⟩ := b
    have hd : r5.drop n = r5.getD n ((0 : Int), (0 : Int)) :: r5.drop (n + 1) := by
      rw [List.getD_eq_getElem?_getD, List.getElem?_eq_getElem hn]
      exact List.drop_eq_getElem_cons hn
    rw [hd, List.filter_cons]
    cases hq : skipB skx (lk sh (r5.getD n ((0 : Int), (0 : Int))).1.toNat) (lk sh (r5.getD n ((0 : Int), (0 : Int))).2.toNat) with
    | true =>
      rw [if_neg (by simp)]
      refine loop_next ?_ (kept_loop (sk := sk) hx hl hin m (n + 1) out (by omega) (by omega))
      unfold armplanlaw9_SceneSkips.p1.step armplanlaw9_SceneSkips.p1.round
      simp only [List.length_cons, List.length_nil]
      unfold lk at hq
      simp (disch := omega) only [dif_dec, dif_ndec, bif_eq, bif_neq, bif_ne, bif_nne, w64, wu64, Int.toNat_natCast, Option.bind_some, cond_true, cond_false, Bool.not_true, Bool.not_false, Sum.elim_inl, Sum.elim_inr, skipped_val js ms sh _ _ (show skx.length ≤ 2 ^ 60 by omega), hq]
      rfl
    | false =>
      rw [if_pos (by rfl), ← List.singleton_append, ← List.append_assoc]
      refine loop_next ?_ (kept_loop (sk := sk) hx hl hin m (n + 1) (out ++ [r5.getD n ((0 : Int), (0 : Int))]) (by omega) (by simp only [List.length_append, List.length_cons, List.length_nil]; omega))
      unfold armplanlaw9_SceneSkips.p1.step armplanlaw9_SceneSkips.p1.round
      simp only [List.length_cons, List.length_nil]
      unfold lk at hq
      simp (disch := omega) only [dif_dec, dif_ndec, bif_eq, bif_neq, bif_ne, bif_nne, w64, wu64, Int.toNat_natCast, Option.bind_some, cond_true, cond_false, Bool.not_true, Bool.not_false, Sum.elim_inl, Sum.elim_inr, skipped_val js ms sh _ _ (show skx.length ≤ 2 ^ 60 by omega), hq]
      rfl
theorem skips_true {l : List Int} (hl : l.length ≤ 2 ^ 60) (a1 a2 : Int) : armplanlaw9_SceneSkips.F l a1 a2 = some true := by
  rw [armplanlaw9_SceneSkips.F_eq]
  unfold armplanlaw9_SceneSkips.F0
  obtain ⟨⟨js, ms, sh, sk⟩, hS, hG⟩ := scene_val hl
  simp only [] at hG
  have hc := chkScene_good hG
  have hz := chkScene_zero hc
  have hzr := chkRobot_zero hz.1
  have hk1 := hG.k1
  have hj := hzr.2.1
  have hall : ∀ x ∈ sk, chkK js.length x = 0 := by
    intro x hx
    obtain ⟨i, hi, e⟩ := mem_getD (d := ((0 : Int), (0 : Int))) hx
    rw [← e]
    exact hz.2.2.2.2 i hi
  have mk : ∀ s : List SkT, s.length ≤ 64 → (∀ x ∈ s, chkK js.length x = 0) → chkScene js ms sh s = 0 := fun s h1 h2 => chkScene_of hz.1 hz.2.1 hz.2.2.1 h1 fun i hi => h2 _ (getD_mem hi)
  have h2l := twoL_length sk
  have hc2 : chkScene js ms sh (twoL sk) = 0 := mk _ (by omega) (by
    intro x hx
    unfold twoL at hx
    rw [List.mem_flatMap] at hx
    obtain ⟨y, hy, h⟩ := hx
    obtain ⟨l1, l2⟩ := chkK_links (hall y hy)
    simp only [List.mem_cons, List.not_mem_nil, or_false] at h
    rcases h with rfl | rfl
    · exact chkK_of l2 l1
    · exact chkK_of l1 l2)
  have e1 := round_val (a := a1) (k := (js.length : Int) + 1) (by omega) (by omega)
  have e2 := round_val (a := a2) (k := (js.length : Int) + 1) (by omega) (by omega)
  have m1 := Int.emod_nonneg a1 (show (js.length : Int) + 1 ≠ 0 by omega)
  have m2 := Int.emod_nonneg a2 (show (js.length : Int) + 1 ≠ 0 by omega)
  have m3 := Int.emod_lt_of_pos a1 (show (0 : Int) < (js.length : Int) + 1 by omega)
  have m4 := Int.emod_lt_of_pos a2 (show (0 : Int) < (js.length : Int) + 1 by omega)
  generalize a1 % ((js.length : Int) + 1) = q1 at *
  generalize a2 % ((js.length : Int) + 1) = q2 at *
  have hcx : chkScene js ms sh (sk ++ [(q1 - 1, q2 - 1)]) = 0 := mk _ (by simp only [List.length_append, List.length_cons, List.length_nil]; omega) (by
    intro x hx
    rw [List.mem_append] at hx
    rcases hx with hx | hx
    · exact hall x hx
    · simp only [List.mem_cons, List.not_mem_nil, or_false] at hx
      subst hx
      exact chkK_of (linkB_of (by simp only []; omega) (by simp only []; omega)) (linkB_of (by simp only []; omega) (by simp only []; omega)))
  have hlx : (sk ++ [(q1 - 1, q2 - 1)]).length = sk.length + 1 := by simp
  rw [hS, Option.bind_some]
  simp only []
  rw [two_loop (by omega), Option.bind_some]
  simp only [List.length_cons, List.length_nil]
  simp (disch := omega) only [dif_dec, dif_ndec, bif_eq, bif_neq, bif_ne, bif_nne, w64, wu64, Int.toNat_natCast, Option.bind_some, cond_true, cond_false, Bool.not_true, Bool.not_false, Sum.elim_inl, Sum.elim_inr, e1, e2]
  have hal := allP_length (P := keepB js sh sk) (n := sh.length) sh.length 0
  have hmul : sh.length * sh.length ≤ 24 * 24 := Nat.mul_le_mul hz.2.1 hz.2.1
  have hf : allP (keepB js sh (sk ++ [(q1 - 1, q2 - 1)])) sh.length 0 sh.length = (allP (keepB js sh sk) sh.length 0 sh.length).filter (fun p => !skipB (sk ++ [(q1 - 1, q2 - 1)]) (lk sh p.1.toNat) (lk sh p.2.toNat)) := by
    refine allP_filter (fun i k => ?_) _ _ _
    simp only [Int.toNat_natCast]
    unfold keepB
    rw [skipB_any, skipB_any, List.any_append]
    cases (lk sh i != lk sh k) <;> cases (sk.any fun x => skipOne x (lk sh i) (lk sh k)) <;> cases (rigidB js (lk sh i) (lk sh k)) <;> cases ([(q1 - 1, q2 - 1)].any fun x => skipOne x (lk sh i) (lk sh k)) <;> rfl
  have hkl := kept_loop (js := js) (ms := ms) (sh := sh) (sk := sk) (skx := sk ++ [(q1 - 1, q2 - 1)]) (r5 := allP (keepB js sh sk) sh.length 0 sh.length) (r6 := allP (keepB js sh (sk ++ [(q1 - 1, q2 - 1)])) sh.length 0 sh.length) (sk2 := twoL sk) (by omega) (by omega) (fun x hx => allP_mem (by omega) hx) _ 0 [] (Nat.zero_add _) (by simp)
  rw [show ((0 : Nat) : Int) = 0 from rfl, List.nil_append, List.drop_zero, ← hf] at hkl
  have hfl : (allP (keepB js sh (sk ++ [(q1 - 1, q2 - 1)])) sh.length 0 sh.length).length ≤ 2 ^ 60 := by
    have := allP_length (P := keepB js sh (sk ++ [(q1 - 1, q2 - 1)])) (n := sh.length) sh.length 0
    omega
  rw [pairs_val hc, Option.bind_some, pairs_val hcx, Option.bind_some, hkl, Option.bind_some, Sum.elim_inr, awake9_true, Option.bind_some, cond_true]
  simp only []
  rw [pairs_val hc2, keep_two, Option.bind_some, samePair_refl (by omega), Option.bind_some, cond_true, samePair_refl hfl]
  rfl
theorem skips_good (x : List Int × Int × Int × Unit) (g : GoodAll [.lf (.slc (.int .i64)), .lf (.int .i64), .lf (.int .i64)] x) : armplanlaw9_SceneSkips.F x.1 x.2.1 x.2.2.1 = some true := by
  obtain ⟨⟨h2, _⟩, _⟩ := g
  simp only [minB, reachBytes] at h2
  exact skips_true (by omega) _ _
end Go.Abs
