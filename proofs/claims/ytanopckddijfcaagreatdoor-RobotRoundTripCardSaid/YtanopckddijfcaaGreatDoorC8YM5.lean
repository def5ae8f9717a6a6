/- A part of the proof that the text with the row names: printed readings of functions, or plain lemmas about them. -/
import Derived.Test.YtanopckddijfcaaGreatDoorC8YM4
set_option linter.unusedVariables false
set_option linter.unusedSimpArgs false
namespace Go.Abs
open Go Go.Proofs
theorem ex_round {α : Type} {P : α → Prop} {a k : Int} {f : Int → Option α} (hk : 0 < k) (hk' : k ≤ 4611686018427387904) (h : ∀ m, 0 ≤ m → m < k → ∃ r, f m = some r ∧ P r) : ∃ r, (armplanmake_Round.F a k).bind f = some r ∧ P r := by
  rw [round_val hk hk']
  exact h _ (Int.emod_nonneg _ (by omega)) (Int.emod_lt_of_pos _ hk)
theorem ex_eq {α : Type} {P : α → Prop} {a b : Int} {x y : Option α} (h1 : a = b → ∃ r, x = some r ∧ P r) (h2 : ¬ a = b → ∃ r, y = some r ∧ P r) : ∃ r, (bif a == b then x else y) = some r ∧ P r := by
  by_cases h : a = b
  · rw [beq_iff_eq.2 h]; exact h1 h
  · rw [beq_false_of_ne h]; exact h2 h
theorem ex_dec {α : Type} {P : α → Prop} {p : Prop} [Decidable p] {x y : Option α} (h1 : p → ∃ r, x = some r ∧ P r) (h2 : ¬ p → ∃ r, y = some r ∧ P r) : ∃ r, (bif decide p then x else y) = some r ∧ P r := by
  by_cases h : p
  · rw [decide_eq_true h]; exact h1 h
  · rw [decide_eq_false h]; exact h2 h
theorem ex_bind {α β : Type} {P : α → Prop} {x : Option β} {b : β} {f : β → Option α} (hx : x = some b) (h : ∃ r, f b = some r ∧ P r) : ∃ r, x.bind f = some r ∧ P r := by
  rw [hx]; exact h
def SmJ (js : List JT) : Prop := js.length ≤ 20 ∧ ∀ j ∈ js, j.1.size ≤ 100
def SmR (r : List JT × List MT) : Prop := SmJ r.1 ∧ r.2.length ≤ 50
theorem SmJ.set {js : List JT} {i : Nat} {x : JT} (h : SmJ js) (hx : x.1.size ≤ 100) : SmJ (js.set i x) := by
  refine ⟨by rw [List.length_set]; exact h.1, fun j hj => ?_⟩
  rcases List.mem_or_eq_of_mem_set hj with h1 | h1
  · exact h.2 j h1
  · rw [h1]; exact hx
theorem SmJ.at {js : List JT} (h : SmJ js) (i : Nat) : (js.getD i J0).1.size ≤ 100 := by
  by_cases hi : i < js.length
  · rw [List.getD_eq_getElem?_getD, List.getElem?_eq_getElem hi]
    exact h.2 _ (List.getElem_mem _)
  · rw [List.getD_eq_getElem?_getD, List.getElem?_eq_none (by omega)]
    decide
theorem SmJ.app {js : List JT} {x : JT} (h : SmJ js) (hl : js.length ≤ 19) (hx : x.1.size ≤ 100) : SmJ (js ++ [x]) := by
  refine ⟨by rw [List.length_append, List.length_cons, List.length_nil]; omega, fun j hj => ?_⟩
  rcases List.mem_append.1 hj with h1 | h1
  · exact h.2 j h1
  · rw [List.mem_singleton.1 h1]; exact hx
def nm6L : List ByteArray := [(⟨#[]⟩ : ByteArray), (⟨#[97]⟩ : ByteArray), (⟨#[119, 111, 114, 108, 100]⟩ : ByteArray), (⟨#[65]⟩ : ByteArray), (⟨#[97, 98, 99, 100, 101, 102, 103, 104, 105, 106, 97, 98, 99, 100, 101, 102, 103]⟩ : ByteArray), (⟨#[122, 95, 57]⟩ : ByteArray)]
theorem nm6 (k : Nat) : (nm6L.getD k ⟨#[]⟩).size ≤ 100 := by
  by_cases h : k < 6
  · have : ∀ k, k < 6 → (nm6L.getD k ⟨#[]⟩).size ≤ 100 := by decide
    exact this k h
  · rw [List.getD_eq_getElem?_getD, List.getElem?_eq_none (by show nm6L.length ≤ k; exact Nat.le_of_not_lt h)]
    decide
theorem chd_dec {n k : Nat} : True := trivial
end Go.Abs
