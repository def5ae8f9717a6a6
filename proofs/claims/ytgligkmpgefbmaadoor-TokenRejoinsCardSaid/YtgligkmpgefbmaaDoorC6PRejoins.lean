/- A part of the proof that the text with the row names: printed readings of functions, or plain lemmas about them. -/
import Derived.Test.YtgligkmpgefbmaaDoorC6GLTokenRejoins
import Derived.Test.YtgligkmpgefbmaaDoorC6M5
import Derived.Test.YtgligkmpgefbmaaDoorAbsD
set_option linter.unusedVariables false
set_option linter.unusedSimpArgs false
namespace Go.Abs
open Go Go.Proofs
/-! ### The split over a list of bytes: texts and lines alone -/
abbrev TL := ByteArray × Int
def wtTL (w : WT) : TL := (w.1, w.2.1)
structure SL where
  line : Int
  com : Bool
  cur : List UInt8
  out : List TL
def flushL (σ : SL) : List TL := match σ.cur with
  | [] => σ.out
  | c :: r => σ.out ++ [(⟨(c :: r).toArray⟩, σ.line)]
def stepL (σ : SL) (c : UInt8) : Option SL :=
  if c.toNat = 10 then some ⟨σ.line + 1, false, [], flushL σ⟩
  else if σ.com = true then some ⟨σ.line, true, [], σ.out⟩
  else if c.toNat = 35 then some ⟨σ.line, true, [], flushL σ⟩
  else if c.toNat = 32 ∨ c.toNat = 9 then some ⟨σ.line, false, [], flushL σ⟩
  else if 33 ≤ c.toNat ∧ c.toNat ≤ 126 then some ⟨σ.line, false, σ.cur ++ [c], σ.out⟩
  else none
def runL : List UInt8 → SL → Option SL
  | [], σ => some σ
  | c :: r, σ => match stepL σ c with
    | some τ => runL r τ
    | none => none
theorem runL_append : ∀ (a b : List UInt8) (σ : SL), runL (a ++ b) σ = (runL a σ).bind (runL b)
  | [], b, σ => rfl
  | c :: a, b, σ => by
    simp only [List.cons_append, runL]
    cases stepL σ c with
    | none => rfl
    | some τ => exact runL_append a b τ

theorem ext_list (s : ByteArray) (p q : Nat) : (s.extract p q).data.toList = (s.data.toList.drop p).take (q - p) := by
  rw [ByteArray.data_extract, Array.toList_extract, List.extract_eq_take_drop]
theorem bt_cons {s : ByteArray} {i : Nat} (h : i < s.size) : ∃ c : UInt8, s.data.toList.drop i = c :: s.data.toList.drop (i + 1) ∧ btI s (i : Int) = (c.toNat : Int) := by
  have hl : i < s.data.toList.length := by rw [Array.length_toList]; exact h
  refine ⟨s.data.toList[i], List.drop_eq_getElem_cons hl, ?_⟩
  unfold btI
  rw [Int.toNat_natCast, Array.getD_eq_getD_getElem?, Array.getElem?_eq_getElem (by simpa using h)]
  rfl
theorem flush_eq {s : ByteArray} {i p0 : Nat} {line begin start : Int} {out : List WT} {σ : SL} (hl : σ.line = line) (ho : out.map wtTL = σ.out) (hi : i ≤ s.size)
    (h0 : 0 ≤ start → start = (p0 : Int) ∧ p0 < i ∧ σ.cur = (s.data.toList.drop p0).take (i - p0)) (h1 : start < 0 → σ.cur = []) :
    (endW s i line begin start out).map wtTL = flushL σ := by
  unfold endW flushL
  by_cases hs : 0 ≤ start
  · obtain ⟨e, hlt, hc⟩ := h0 hs
    rw [if_pos hs]
    have hne : σ.cur ≠ [] := by
      rw [hc]
      intro h
      have := congrArg List.length h
      simp only [List.length_take, List.length_drop, Array.length_toList, List.length_nil] at this
      have : s.size = s.data.size := rfl
      omega
    cases hcur : σ.cur with
    | nil => exact absurd hcur hne
    | cons c r =>
      simp only [List.map_append, List.map_cons, List.map_nil, wtTL, ho, hl]
      rw [← hcur, hc, e, Int.toNat_natCast, ← ext_list]
  · rw [if_neg hs, h1 (by omega)]
    exact ho

theorem scan_run {s : ByteArray} : ∀ (d i : Nat) (line begin start : Int) (com : Bool) (out : List WT) (σ : SL), i + d = s.size → σ.line = line → σ.com = com → out.map wtTL = σ.out → (com = true → start < 0) →
    ∀ p0 : Nat, (0 ≤ start → start = (p0 : Int) ∧ p0 < i ∧ σ.cur = (s.data.toList.drop p0).take (i - p0)) → (start < 0 → σ.cur = []) →
    ∀ τ, runL (s.data.toList.drop i) σ = some τ → ∃ r, scan s d i line begin com start out = .inr r ∧ r.map wtTL = flushL τ := by
  intro d
  induction d with
  | zero =>
    intro i line begin start com out σ hid hl hcm ho hc p0 h0 h1 τ h
    rw [List.drop_eq_nil_of_le (by rw [Array.length_toList]; show s.size ≤ i; omega)] at h
    obtain rfl := Option.some.inj h
    exact ⟨_, rfl, flush_eq hl ho (by omega) h0 h1⟩
  | succ d ih =>
    intro i line begin start com out σ hid hl hcm ho hc p0 h0 h1 τ h
    obtain ⟨c, hcons, hbt⟩ := bt_cons (s := s) (i := i) (by omega)
    rw [hcons] at h
    have hf := flush_eq (begin := begin) hl ho (i := i) (by omega) h0 h1
    simp only [runL, stepL, hcm, hl] at h
    simp only [scan, hbt]
    by_cases h10 : c.toNat = 10
    · rw [if_pos h10] at h
      rw [if_pos (by omega)]
      exact ih (i + 1) _ _ _ _ _ _ (by omega) rfl rfl hf (fun h => by cases h) 0 (fun h => by omega) (fun _ => rfl) τ h
    · rw [if_neg h10] at h
      rw [if_neg (by omega)]
      by_cases hcom : com = true
      · rw [if_pos hcom] at h
        rw [if_pos hcom]
        exact ih (i + 1) _ _ _ _ _ ⟨line, true, [], σ.out⟩ (by omega) rfl rfl ho (fun _ => hc hcom) 0 (fun h => by have := hc hcom; omega) (fun _ => rfl) τ h
      · rw [if_neg hcom] at h
        rw [if_neg hcom]
        by_cases h35 : c.toNat = 35
        · rw [if_pos h35] at h
          rw [if_pos (by omega)]
          exact ih (i + 1) _ _ _ _ _ _ (by omega) rfl rfl hf (fun h => by omega) 0 (fun h => by omega) (fun _ => rfl) τ h
        · rw [if_neg h35] at h
          rw [if_neg (by omega)]
          by_cases h32 : c.toNat = 32 ∨ c.toNat = 9
          · rw [if_pos h32] at h
            rw [if_pos (by omega)]
            exact ih (i + 1) _ _ _ _ _ _ (by omega) rfl rfl hf (fun h => by cases h) 0 (fun h => by omega) (fun _ => rfl) τ h
          · rw [if_neg h32] at h
            rw [if_neg (by omega)]
            by_cases hw : 33 ≤ c.toNat ∧ c.toNat ≤ 126
            · rw [if_pos hw] at h
              rw [if_pos (by omega)]
              by_cases hneg : start < 0
              · rw [if_pos hneg]
                refine ih (i + 1) _ _ _ _ _ ⟨line, false, σ.cur ++ [c], σ.out⟩ (by omega) rfl rfl ho (fun h => by cases h) i (fun _ => ⟨rfl, by omega, ?_⟩) (fun h => by omega) τ h
                rw [show i + 1 - i = 1 by omega, hcons, h1 hneg]
                rfl
              · rw [if_neg hneg]
                obtain ⟨e, hlt, hcur⟩ := h0 (by omega)
                refine ih (i + 1) _ _ _ _ _ ⟨line, false, σ.cur ++ [c], σ.out⟩ (by omega) rfl rfl ho (fun h => by cases h) p0 (fun _ => ⟨e, by omega, ?_⟩) (fun h => by omega) τ h
                simp only []
                rw [hcur, show i + 1 - p0 = (i - p0) + 1 by omega, List.take_add_one, List.getElem?_drop, show p0 + (i - p0) = i by omega, ← List.head?_drop, hcons]
                rfl
            · rw [if_neg hw] at h
              cases h
theorem split_run {s : ByteArray} {τ : SL} (hs : s.size ≤ 16384) (h : runL s.data.toList ⟨1, false, [], []⟩ = some τ) : ∃ r, splitF s = (0, 0, r) ∧ r.map wtTL = flushL τ := by
  obtain ⟨r, h1, h2⟩ := scan_run (s := s) s.size 0 1 0 (-1) false [] ⟨1, false, [], []⟩ (by omega) rfl rfl rfl (fun h => by cases h) 0 (fun h => by omega) (fun _ => rfl) τ h
  refine ⟨r, ?_, h2⟩
  unfold splitF
  rw [if_neg (by omega), h1]

def W4 : List ByteArray := [(⟨#[106, 111, 105, 110, 116]⟩ : ByteArray), (⟨#[48, 46, 53]⟩ : ByteArray), (⟨#[126, 33]⟩ : ByteArray), (⟨#[119]⟩ : ByteArray)]
def S5 : List ByteArray := [(⟨#[32]⟩ : ByteArray), (⟨#[9, 32]⟩ : ByteArray), (⟨#[10]⟩ : ByteArray), (⟨#[35, 120, 32, 121, 10]⟩ : ByteArray), (⟨#[32, 35, 32, 35, 255, 10, 10]⟩ : ByteArray)]
def incL : Nat → Int → Int
  | 0, l => l
  | 1, l => l
  | 2, l => l + 1
  | 3, l => l + 1
  | _, l => l + 1 + 1
theorem incL_le (b : Nat) (l : Int) : l ≤ incL b l := by
  unfold incL
  split <;> omega
theorem piece_run {a b : Nat} (ha : a < 4) (hb : b < 5) (line : Int) (out : List TL) :
    runL (W4.getD a ⟨#[]⟩ ++ S5.getD b ⟨#[]⟩).data.toList ⟨line, false, [], out⟩ = some ⟨incL b line, false, [], out ++ [(W4.getD a ⟨#[]⟩, line)]⟩ := by
  obtain rfl | rfl | rfl | rfl : a = 0 ∨ a = 1 ∨ a = 2 ∨ a = 3 := by omega
  all_goals
    obtain rfl | rfl | rfl | rfl | rfl : b = 0 ∨ b = 1 ∨ b = 2 ∨ b = 3 ∨ b = 4 := by omega
    all_goals kernel_rfl
theorem piece_size {a b : Nat} (ha : a < 4) (hb : b < 5) : (W4.getD a ⟨#[]⟩).size ≤ 5 ∧ (S5.getD b ⟨#[]⟩).size ≤ 7 := by
  obtain rfl | rfl | rfl | rfl : a = 0 ∨ a = 1 ∨ a = 2 ∨ a = 3 := by omega
  all_goals
    obtain rfl | rfl | rfl | rfl | rfl : b = 0 ∨ b = 1 ∨ b = 2 ∨ b = 3 ∨ b = 4 := by omega
    all_goals decide
def tl0 : TL := (⟨#[]⟩, 0)
structure RJ (l : List Int) (i : Nat) (line : Int) (out : List TL) : Prop where
  n : out.length = i
  il : i ≤ l.length
  t : ∀ k, k < i → (out.getD k tl0).1 = W4.getD ((l.getD k 0).tmod 4).toNat ⟨#[]⟩
  le : ∀ k, k < i → (out.getD k tl0).2 ≤ line
  up : ∀ k, k + 1 < i → (out.getD k tl0).2 ≤ (out.getD (k + 1) tl0).2
theorem getD_snoc {α : Type} {l : List α} {x d : α} {k : Nat} : (l ++ [x]).getD k d = if k < l.length then l.getD k d else if k = l.length then x else d := by
  simp only [List.getD_eq_getElem?_getD]
  split
  · rename_i h
    rw [List.getElem?_append_left h]
  · split
    · rename_i h1 h2
      subst h2
      simp
    · rename_i h1 h2
      rw [List.getElem?_eq_none (by rw [List.length_append, List.length_cons, List.length_nil]; omega)]
      rfl
theorem RJ.snoc {l : List Int} {i : Nat} {line line' : Int} {out : List TL} (h : RJ l i line out) (hi : i < l.length) (hl : line ≤ line') : RJ l (i + 1) line' (out ++ [(W4.getD ((l.getD i 0).tmod 4).toNat ⟨#[]⟩, line)]) := by
  obtain ⟨n, il, t, le, up⟩ := h
  subst n
  refine ⟨by simp, hi, fun k hk => ?_, fun k hk => ?_, fun k hk => ?_⟩
  · rw [getD_snoc]
    split
    · exact t k (by omega)
    · rw [if_pos (by omega)]
      rw [show k = out.length by omega]
  · rw [getD_snoc]
    split
    · have := le k (by omega); omega
    · rw [if_pos (by omega)]; exact hl
  · rw [getD_snoc, getD_snoc, if_pos (by omega)]
    split
    · exact up k (by omega)
    · rw [if_pos (by omega)]; exact le k (by omega)
theorem rj_loop {l : List Int} (hl : ∀ x ∈ l, 0 ≤ x ∧ x ≤ 255) : ∀ (d i : Nat) (S : ByteArray) (line : Int) (out : List TL), i + d = 60 → S.size ≤ 12 * i → runL S.data.toList ⟨1, false, [], []⟩ = some ⟨line, false, [], out⟩ → RJ l i line out →
    ∃ (S' : ByteArray) (line' : Int) (out' : List TL) (n : Nat), S'.size ≤ 720 ∧ n ≤ 60 ∧ runL S'.data.toList ⟨1, false, [], []⟩ = some ⟨line', false, [], out'⟩ ∧ RJ l n line' out' ∧ loopF armplanlaw6_TokenRejoins.p0.step (l, S, (i : Int), (i : Int)) = some (l, S', (n : Int))
  | 0, i, S, line, out, hid, hS, hr, hj => by
    refine ⟨S, line, out, i, by omega, by omega, hr, hj, loop_end ?_⟩
    unfold armplanlaw6_TokenRejoins.p0.step armplanlaw6_TokenRejoins.p0.round
    simp only []
    by_cases hi : (i : Int) < l.length
    · simp (disch := omega) only [dif_dec, dif_ndec, bif_eq, bif_neq, bif_ne, bif_nne, w64, wu64, Int.toNat_natCast, Option.bind_some, cond_true, cond_false, Bool.not_true, Bool.not_false, Sum.elim_inl, Sum.elim_inr]
    · simp (disch := omega) only [dif_dec, dif_ndec, bif_eq, bif_neq, bif_ne, bif_nne, w64, wu64, Int.toNat_natCast, Option.bind_some, cond_true, cond_false, Bool.not_true, Bool.not_false, Sum.elim_inl, Sum.elim_inr]
  | d + 1, i, S, line, out, hid, hS, hr, hj => by
    by_cases hi : (i : Int) < l.length
    · have h0 : 0 ≤ l.getD i 0 ∧ l.getD i 0 ≤ 255 := by
        rw [List.getD_eq_getElem?_getD, List.getElem?_eq_getElem (by omega)]
        exact hl _ (List.getElem_mem _)
      have hm : 0 ≤ (l.getD i 0).tmod 4 ∧ (l.getD i 0).tmod 4 < 4 := ⟨Int.tmod_nonneg _ h0.1, Int.tmod_lt_of_pos _ (by decide)⟩
      have hu : 0 ≤ (l.getD i 0).tdiv 4 ∧ (l.getD i 0).tdiv 4 ≤ 255 := by
        rw [Int.tdiv_eq_ediv_of_nonneg h0.1]
        omega
      have hw : IntKind.wrap .u8 ((l.getD i 0).tdiv 4) = (l.getD i 0).tdiv 4 := wu8 hu.1 hu.2
      have hq : 0 ≤ ((l.getD i 0).tdiv 4).tmod 5 ∧ ((l.getD i 0).tdiv 4).tmod 5 < 5 := ⟨Int.tmod_nonneg _ hu.1, Int.tmod_lt_of_pos _ (by decide)⟩
      have hj' := fun line' h => RJ.snoc (line' := line') hj (by omega) h
      have hstep : armplanlaw6_TokenRejoins.p0.step (l, S, (i : Int), (i : Int)) = some (.inl (l, S ++ (W4.getD ((l.getD i 0).tmod 4).toNat ⟨#[]⟩ ++ S5.getD (((l.getD i 0).tdiv 4).tmod 5).toNat ⟨#[]⟩), ((i + 1 : Nat) : Int), ((i + 1 : Nat) : Int))) := by
        have hsz := piece_size (a := ((l.getD i 0).tmod 4).toNat) (b := (((l.getD i 0).tdiv 4).tmod 5).toNat) (by omega) (by omega)
        unfold armplanlaw6_TokenRejoins.p0.step armplanlaw6_TokenRejoins.p0.round
        have e1 : ((i : Int) + 1) = ((i + 1 : Nat) : Int) := by omega
        rw [show ([(⟨#[106, 111, 105, 110, 116]⟩ : ByteArray), (⟨#[48, 46, 53]⟩ : ByteArray), (⟨#[126, 33]⟩ : ByteArray), (⟨#[119]⟩ : ByteArray)] : List ByteArray) = W4 from rfl, show ([(⟨#[32]⟩ : ByteArray), (⟨#[9, 32]⟩ : ByteArray), (⟨#[10]⟩ : ByteArray), (⟨#[35, 120, 32, 121, 10]⟩ : ByteArray), (⟨#[32, 35, 32, 35, 255, 10, 10]⟩ : ByteArray)] : List ByteArray) = S5 from rfl]
        simp only []
        generalize W4 = W at *
        generalize S5 = T at *
        simp (disch := omega) only [dif_dec, dif_ndec, bif_eq, bif_neq, bif_ne, bif_nne, w64, wu64, Int.toNat_natCast, Option.bind_some, cond_true, cond_false, Bool.not_true, Bool.not_false, Sum.elim_inl, Sum.elim_inr, hw]
        generalize ((l.getD i 0).tdiv 4).tmod 5 = q at *
        generalize (l.getD i 0).tmod 4 = m at *
        generalize W.getD m.toNat ⟨#[]⟩ = x at *
        generalize T.getD q.toNat ⟨#[]⟩ = y at *
        have hxy : (x ++ y).size = x.size + y.size := bsize_append x y
        simp (disch := omega) only [dif_dec, dif_ndec, bif_eq, bif_neq, bif_ne, bif_nne, w64, wu64, Int.toNat_natCast, Option.bind_some, cond_true, cond_false, Bool.not_true, Bool.not_false, Sum.elim_inl, Sum.elim_inr, cat_ok, e1]
      have hrun := piece_run (a := ((l.getD i 0).tmod 4).toNat) (b := (((l.getD i 0).tdiv 4).tmod 5).toNat) (by omega) (by omega) line out
      have hsz := piece_size (a := ((l.getD i 0).tmod 4).toNat) (b := (((l.getD i 0).tdiv 4).tmod 5).toNat) (by omega) (by omega)
      have hr2 : runL (S ++ (W4.getD ((l.getD i 0).tmod 4).toNat ⟨#[]⟩ ++ S5.getD (((l.getD i 0).tdiv 4).tmod 5).toNat ⟨#[]⟩)).data.toList ⟨1, false, [], []⟩ = some ⟨incL (((l.getD i 0).tdiv 4).tmod 5).toNat line, false, [], out ++ [(W4.getD ((l.getD i 0).tmod 4).toNat ⟨#[]⟩, line)]⟩ := by
        rw [ByteArray.toList_data_append, runL_append, hr, Option.bind_some, hrun]
      obtain ⟨S', line', out', n, h1, hn, h2, h3, h4⟩ := rj_loop hl d (i + 1) _ _ _ (by omega) (by rw [bsize_append, bsize_append]; omega) hr2 (hj' _ (incL_le _ _))
      exact ⟨S', line', out', n, h1, hn, h2, h3, by rw [loopF_eq, hstep]; exact h4⟩
    · have hj2 := hj.il
      refine ⟨S, line, out, i, by omega, by omega, hr, hj, loop_end ?_⟩
      unfold armplanlaw6_TokenRejoins.p0.step armplanlaw6_TokenRejoins.p0.round
      simp only []
      simp (disch := omega) only [dif_dec, dif_ndec, bif_eq, bif_neq, bif_ne, bif_nne, w64, wu64, Int.toNat_natCast, Option.bind_some, cond_true, cond_false, Bool.not_true, Bool.not_false, Sum.elim_inl, Sum.elim_inr]
theorem rj_check {l : List Int} {n : Nat} {line : Int} {r : List WT} (hl : ∀ x ∈ l, 0 ≤ x ∧ x ≤ 255) (hn : n ≤ 60) (hr : RJ l n line (r.map wtTL)) : loopF armplanlaw6_TokenRejoins.p1.step (l, 0, r) = some (.inr ()) := by
  obtain ⟨h1, h2, h3, h4, h5⟩ := hr
  rw [List.length_map] at h1
  have hg : ∀ k, k < n → (r.map wtTL).getD k tl0 = wtTL (r.getD k (⟨#[]⟩, (0, 0))) := by
    intro k hk
    rw [List.getD_eq_getElem?_getD, List.getD_eq_getElem?_getD, List.getElem?_map, List.getElem?_eq_getElem (by omega)]
    rfl
  have h := loop_count (step := armplanlaw6_TokenRejoins.p1.step) (fun i : Nat => (l, (i : Int), r)) n (.inr ()) (by
    intro i hi
    have h0 : 0 ≤ l.getD i 0 ∧ l.getD i 0 ≤ 255 := by
      rw [List.getD_eq_getElem?_getD, List.getElem?_eq_getElem (by omega)]
      exact hl _ (List.getElem_mem _)
    have hm : 0 ≤ (l.getD i 0).tmod 4 ∧ (l.getD i 0).tmod 4 < 4 := ⟨Int.tmod_nonneg _ h0.1, Int.tmod_lt_of_pos _ (by decide)⟩
    have ht := h3 i hi
    rw [hg i hi] at ht
    unfold armplanlaw6_TokenRejoins.p1.step armplanlaw6_TokenRejoins.p1.round
    rw [show ([(⟨#[106, 111, 105, 110, 116]⟩ : ByteArray), (⟨#[48, 46, 53]⟩ : ByteArray), (⟨#[126, 33]⟩ : ByteArray), (⟨#[119]⟩ : ByteArray)] : List ByteArray) = W4 from rfl]
    simp only []
    generalize W4 = W at *
    have e1 : ((i : Int) + 1) = ((i + 1 : Nat) : Int) := by omega
    have ht2 : (r.getD i (⟨#[]⟩, (0, 0))).1 = W.getD ((l.getD i 0).tmod 4).toNat ⟨#[]⟩ := ht
    simp (disch := omega) only [dif_dec, dif_ndec, bif_eq, bif_neq, bif_ne, bif_nne, w64, wu64, Int.toNat_natCast, Option.bind_some, cond_true, cond_false, Bool.not_true, Bool.not_false, Sum.elim_inl, Sum.elim_inr, ht2, eqS_refl, e1]
    cases i with
    | zero => simp (disch := omega) only [dif_dec, dif_ndec, bif_eq, bif_neq, bif_ne, bif_nne, w64, wu64, Int.toNat_natCast, Option.bind_some, cond_true, cond_false, Bool.not_true, Bool.not_false, Sum.elim_inl, Sum.elim_inr]
    | succ k =>
      have hu := h5 k hi
      rw [hg k (by omega), hg (k + 1) hi] at hu
      have hu2 : (r.getD k (⟨#[]⟩, (0, 0))).2.1 ≤ (r.getD (k + 1) (⟨#[]⟩, (0, 0))).2.1 := hu
      have e2 : (((k + 1 : Nat) : Int) - 1) = (k : Int) := by omega
      simp (disch := omega) only [dif_dec, dif_ndec, bif_eq, bif_neq, bif_ne, bif_nne, w64, wu64, Int.toNat_natCast, Option.bind_some, cond_true, cond_false, Bool.not_true, Bool.not_false, Sum.elim_inl, Sum.elim_inr, e2]) (by
    unfold armplanlaw6_TokenRejoins.p1.step armplanlaw6_TokenRejoins.p1.round
    simp only []
    simp (disch := omega) only [dif_dec, dif_ndec, bif_eq, bif_neq, bif_ne, bif_nne, w64, wu64, Int.toNat_natCast, Option.bind_some, cond_true, cond_false, Bool.not_true, Bool.not_false, Sum.elim_inl, Sum.elim_inr]) n 0 (by omega)
  exact h
theorem rejoins_law {l : List Int} (hl : ∀ x ∈ l, 0 ≤ x ∧ x ≤ 255) : armplanlaw6_TokenRejoins.F l = some true := by
  rw [armplanlaw6_TokenRejoins.F_eq]
  unfold armplanlaw6_TokenRejoins.F0
  obtain ⟨S, line, out, n, h1, hn, h2, h3, h4⟩ := rj_loop hl 60 0 ⟨#[]⟩ 1 [] (by omega) (by decide) rfl ⟨rfl, by omega, fun k h => by omega, fun k h => by omega, fun k h => by omega⟩
  rw [show ((0 : Nat) : Int) = 0 from rfl] at h4
  obtain ⟨r, hr1, hr2⟩ := split_run (by omega) h2
  have hr3 : r.map wtTL = out := hr2
  subst hr3
  have hlen := h3.n
  rw [List.length_map] at hlen
  rw [h4]
  simp only [Option.bind_some]
  rw [tok_split, hr1]
  simp only [Option.bind_some]
  rw [rj_check hl hn h3, awake_val]
  simp (disch := omega) only [dif_dec, dif_ndec, bif_eq, bif_neq, bif_ne, bif_nne, w64, wu64, Int.toNat_natCast, Option.bind_some, cond_true, cond_false, Bool.not_true, Bool.not_false, Sum.elim_inl, Sum.elim_inr]
theorem rejoins_good (x : ArgT [.lf (.slc (.int .u8))]) (g : GoodAll [.lf (.slc (.int .u8))] x) : armplanlaw6_TokenRejoins.F x.1 = some true := by
  obtain ⟨⟨_, g2⟩, _⟩ := g
  refine rejoins_law fun y hy => ?_
  have := g2 y hy
  simp only [Good, IntKind.min, IntKind.max] at this
  exact this
end Go.Abs
