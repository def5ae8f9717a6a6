/- A part of the proof that the text with the row names: printed readings of functions, or plain lemmas about them. -/
import Derived.Test.YtomabhiochmojaaC35M5
set_option linter.unusedVariables false
set_option linter.unusedSimpArgs false
namespace Go.Abs
open Go

/-- The elements before i are new. -/
def upto {α : Type} (g : Nat → α → α) (d : α) (l : List α) (i : Nat) : List α := (List.range i).map (fun k => g k (l.getD k d)) ++ l.drop i
theorem upto_length {α : Type} {g : Nat → α → α} {d : α} {l : List α} {i : Nat} (h : i ≤ l.length) : (upto g d l i).length = l.length := by
  unfold upto
  simp only [List.length_append, List.length_map, List.length_range, List.length_drop]; omega
theorem upto_at {α : Type} {g : Nat → α → α} {d : α} {l : List α} {i : Nat} (h : i < l.length) : (upto g d l i).getD i d = l.getD i d := by
  unfold upto
  rw [List.getD_eq_getElem?_getD, List.getElem?_append_right (by simp)]
  simp
theorem upto_set {α : Type} {g : Nat → α → α} {d : α} {l : List α} {i : Nat} (h : i < l.length) : (upto g d l i).set i (g i (l.getD i d)) = upto g d l (i + 1) := by
  unfold upto
  rw [List.set_append_right _ _ (by simp), List.range_succ, List.map_append, List.append_assoc]
  congr 1
  have hd : l.drop i = l[i] :: l.drop (i + 1) := List.drop_eq_getElem_cons h
  rw [List.length_map, List.length_range, Nat.sub_self, hd, List.set_cons_zero]
  rfl
theorem upto_zero {α : Type} {g : Nat → α → α} {d : α} {l : List α} : upto g d l 0 = l := by simp [upto]
theorem upto_get {α : Type} {g : Nat → α → α} {d : α} {l : List α} {i : Nat} (h : i < l.length) : (upto g d l l.length).getD i d = g i (l.getD i d) := by
  unfold upto
  rw [List.getD_eq_getElem?_getD, List.getElem?_append_left (by simpa using h), List.getElem?_map, List.getElem?_range h]
  rfl
theorem upto_out {α : Type} {g : Nat → α → α} {d : α} {l : List α} {i : Nat} (h : l.length ≤ i) : (upto g d l l.length).getD i d = l.getD i d := by
  rw [List.getD_eq_getElem?_getD, List.getD_eq_getElem?_getD, List.getElem?_eq_none (by rw [upto_length (Nat.le_refl _)]; exact h), List.getElem?_eq_none h]

theorem chkRobot_of {js : List JT} {ms : List MT} (h1 : 1 ≤ js.length) (h2 : js.length ≤ 10) (h3 : ∀ i, i < js.length → nameIn js (js.getD i J0).1 i = false ∧ FineJ i (js.getD i J0)) (h4 : ms.length ≤ 32) (h5 : ∀ i, i < ms.length → chkM js.length (ms.getD i M0) = 0) : chkRobot js ms = 0 := by
  unfold chkRobot
  rw [firstErr_zero (f := jErr js) fun j _ hj => by
    obtain ⟨a, b⟩ := h3 j (by omega)
    unfold jErr
    rw [a]
    exact chkJ_fine b, firstErr_zero (f := mErr js.length ms) fun j _ hj => h5 j (by omega)]
  simp (disch := omega) only [dif_dec, dif_ndec, bif_eq, bif_neq, bif_ne, bif_nne, w64, wu64, Int.toNat_natCast, Option.bind_some, cond_true, cond_false, Bool.not_true, Bool.not_false, Sum.elim_inl, Sum.elim_inr]
theorem chkScene_of {js : List JT} {ms : List MT} {sh : List ShT} {sk : List SkT} (h1 : chkRobot js ms = 0) (h2 : sh.length ≤ 24) (h3 : ∀ i, i < sh.length → chkS js.length (sh.getD i Sh0) = 0) (h4 : sk.length ≤ 64) (h5 : ∀ i, i < sk.length → chkK js.length (sk.getD i (0, 0)) = 0) : chkScene js ms sh sk = 0 := by
  unfold chkScene
  rw [h1, firstErr_zero (f := sErr js.length sh) fun j _ hj => h3 j (by omega), firstErr_zero (f := kErr js.length sk) fun j _ hj => h5 j (by omega)]
  simp (disch := omega) only [dif_dec, dif_ndec, bif_eq, bif_neq, bif_ne, bif_nne, w64, wu64, Int.toNat_natCast, Option.bind_some, cond_true, cond_false, Bool.not_true, Bool.not_false, Sum.elim_inl, Sum.elim_inr]
theorem allP_nil {P : Nat → Nat → Bool} (h : ∀ i k, P i k = false) : ∀ (n m i : Nat), allP P n i m = [] := by
  have hr : ∀ i m k, rowP P i k m = [] := by
    intro i m
    induction m with
    | zero => intro k; rfl
    | succ m ih => intro k; rw [rowP, h i k, ih]; rfl
  intro n m
  induction m with
  | zero => intro i; rfl
  | succ m ih => intro i; rw [allP, hr, ih]; rfl
theorem allP_length {P : Nat → Nat → Bool} {n : Nat} : ∀ (m i : Nat), (allP P n i m).length ≤ m * n
  | 0, i => by simp [allP]
  | m + 1, i => by
    have h1 := rowP_length (P := P) (i := i) (m := n - (i + 1)) (k := i + 1)
    have h2 := allP_length (P := P) (n := n) m (i + 1)
    rw [allP, List.length_append, Nat.succ_mul]
    omega
theorem kindsS {js : List JT} {sh : List ShT} (h : ∀ i, i < sh.length → chkS js.length (sh.getD i Sh0) = 0) {i : Nat} (hi : i < sh.length) : linkB js.length (lk sh i) = true := by
  have := h i hi
  unfold chkS at this
  cases hb : linkB js.length (sh.getD i Sh0).1 with
  | true => exact hb
  | false =>
    rw [hb] at this
    cases this
end Go.Abs
