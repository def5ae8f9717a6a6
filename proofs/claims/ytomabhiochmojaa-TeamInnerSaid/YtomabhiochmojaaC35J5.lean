/- A part of the proof that the text with the row names: printed readings of functions, or plain lemmas about them. -/
import Derived.Test.YtomabhiochmojaaC35J4
set_option linter.unusedVariables false
set_option linter.unusedSimpArgs false
namespace Go.Abs
open Go
theorem list_all {α : Type} [DecidableEq α] {d : α} {x y : List α} {P : Nat → Bool} (h : x.length = y.length) (hP : ∀ i, i < x.length → P i = decide (x.getD i d = y.getD i d)) : allB P 0 x.length = decide (x = y) := by
  rw [Bool.eq_iff_iff, allB_iff, decide_eq_true_eq]
  constructor
  · intro hh
    refine List.ext_getElem h fun i h1 h2 => ?_
    have := hh i (Nat.zero_le _) (by omega)
    rw [hP i h1, decide_eq_true_eq, List.getD_eq_getElem?_getD, List.getD_eq_getElem?_getD, List.getElem?_eq_getElem h1, List.getElem?_eq_getElem h2] at this
    exact this
  · intro e j _ hj
    rw [hP j (by omega), e]
    exact decide_eq_true rfl
theorem same64_val {x y : List Int} (hx : x.length ≤ 2 ^ 60) : mk_Same_int64.F x y = some (decide (x = y)) := by
  rw [mk_Same_int64.F_eq]
  unfold mk_Same_int64.F0
  by_cases a : x.length = y.length
  · rw [bif_nne (by omega)]
    have l0 := loop_find (step := mk_Same_int64.p0.step) (fun i : Nat => (x, y, (i : Int))) x.length (fun i => bif (fun i => x.getD i 0 == y.getD i 0) i then none else some (.inl false)) (.inr ()) (by
      intro i hi
      unfold mk_Same_int64.p0.step mk_Same_int64.p0.round
      simp only []
      simp (disch := omega) only [dif_dec, dif_ndec, bif_eq, bif_neq, bif_ne, bif_nne, w64, wu64, Int.toNat_natCast, Option.bind_some, cond_true, cond_false, Bool.not_true, Bool.not_false, Sum.elim_inl, Sum.elim_inr]
      rw [bne]
      cases (x.getD i 0 == y.getD i 0) <;> rfl) (by
      unfold mk_Same_int64.p0.step mk_Same_int64.p0.round
      simp only []
      simp (disch := omega) only [dif_dec, dif_ndec, bif_eq, bif_neq, bif_ne, bif_nne, w64, wu64, Int.toNat_natCast, Option.bind_some, cond_true, cond_false, Bool.not_true, Bool.not_false, Sum.elim_inl, Sum.elim_inr]) x.length 0 (by omega)
    rw [show ((0 : Nat) : Int) = 0 from rfl] at l0
    rw [l0, Option.bind_some, findE_all (P := fun i => x.getD i 0 == y.getD i 0) fun j _ _ => rfl, list_all (d := 0) a fun i _ => (Bool.eq_iff_iff.2 (by simp))]
    cases decide (x = y) <;> rfl
  · rw [bif_ne (by omega), decide_eq_false fun h => a (by rw [h])]
def cntJ (l : List ScT) (i : Nat) : Nat := ((l.take i).map fun s => s.1.1.length).sum
theorem cntJ_next {l : List ScT} {i : Nat} (h : i < l.length) : cntJ l (i + 1) = cntJ l i + (l.getD i Sc0).1.1.length := by
  unfold cntJ
  rw [take_next (d := Sc0) _ h, List.sum_append]
  simp
theorem cntJ_le {l : List ScT} (h : ∀ i, i < l.length → (l.getD i Sc0).1.1.length ≤ 10) : ∀ i, i ≤ l.length → cntJ l i ≤ 10 * i
  | 0, _ => by simp [cntJ]
  | i + 1, hi => by
    have := cntJ_le h i (by omega)
    have := h i (by omega)
    rw [cntJ_next (by omega)]
    omega
theorem cntJ_mono {l : List ScT} : ∀ (d i : Nat), i + d ≤ l.length → cntJ l i ≤ cntJ l (i + d)
  | 0, i, h => Nat.le_refl _
  | d + 1, i, h => by
    have := cntJ_mono (l := l) d i (by omega)
    rw [show i + (d + 1) = i + d + 1 from rfl, cntJ_next (l := l) (i := i + d) (by omega)]
    omega
def partV (l : List ScT) (q : List Int) (k : Nat) : Bool × List Int := bif decide (q.length = cntJ l l.length) then (true, (q.take (cntJ l (k + 1))).drop (cntJ l k)) else (false, [])
theorem clone64_val {l : List Int} (h : 1 ≤ l.length) (hl : l.length ≤ 2 ^ 40) : slices_Clone_int64.F l = some l := by
  rw [slices_Clone_int64.F_eq]
  unfold slices_Clone_int64.F0
  rw [dif_dec (by omega), dif_dec (by simp; omega), List.nil_append]
theorem teamPart_val {l : List ScT} {q : List Int} {k : Nat} (hl : l.length ≤ 10) (hj : ∀ i, i < l.length → 1 ≤ (l.getD i Sc0).1.1.length ∧ (l.getD i Sc0).1.1.length ≤ 10) (hk : k < l.length) (hq : q.length ≤ 2 ^ 60) : team_Part.F l q (k : Int) = some (partV l q k) := by
  have eS : ((([] : List JT), ([] : List MT)), (([] : List ShT), ([] : List SkT))) = Sc0 := rfl
  have hle := cntJ_le (l := l) fun i hi => (hj i hi).2
  rw [team_Part.F_eq]
  unfold team_Part.F0
  rw [team_part_int64.F_eq]
  unfold team_part_int64.F0
  have := loop_count (step := team_part_int64.p0.step) (fun i : Nat => (l, q, (k : Int), ((bif decide (k < i) then cntJ l k else 0 : Nat) : Int), ((bif decide (k < i) then cntJ l (k + 1) else 0 : Nat) : Int), ((cntJ l i : Nat) : Int), l, (l.length : Int), (i : Int))) l.length (l, q, (k : Int), ((cntJ l k : Nat) : Int), ((cntJ l (k + 1) : Nat) : Int), ((cntJ l l.length : Nat) : Int)) (by
    intro i hi
    have hn := cntJ_next hi
    have h1 := hle i (by omega)
    have h2 := hj i hi
    unfold team_part_int64.p0.step team_part_int64.p0.round
    simp only [Int.toNat_natCast, eS]
    rw [dif_dec (by omega), dif_dec (by omega), dif_dec (by omega), w64 (n := (i : Int) + 1) (by omega) (by omega), w64 (n := ((cntJ l i : Nat) : Int) + ((l.getD i Sc0).1.1.length : Int)) (by omega) (by omega)]
    have en : ((cntJ l i : Nat) : Int) + ((l.getD i Sc0).1.1.length : Int) = ((cntJ l (i + 1) : Nat) : Int) := by rw [hn]; push_cast; rfl
    rw [en]
    by_cases e : i = k
    · subst e
      rw [bif_eq rfl, dif_dec (show i < i + 1 by omega), dif_dec (show i < i + 1 by omega)]
      rfl
    · rw [bif_neq (by omega)]
      have : decide (k < i) = decide (k < i + 1) := by
        by_cases c : k < i
        · rw [decide_eq_true c, decide_eq_true (by omega)]
        · rw [decide_eq_false c, decide_eq_false (by omega)]
      rw [this]
      rfl) (by
    unfold team_part_int64.p0.step team_part_int64.p0.round
    simp only []
    rw [dif_ndec (by omega), dif_dec hk, dif_dec hk]) l.length 0 (by omega)
  have z0 : (bif decide (k < 0) then cntJ l k else 0) = 0 := dif_ndec (by omega)
  have z1 : (bif decide (k < 0) then cntJ l (k + 1) else 0) = 0 := dif_ndec (by omega)
  rw [z0, z1, show cntJ l 0 = 0 from rfl, show ((0 : Nat) : Int) = 0 from rfl] at this
  rw [this, Option.bind_some]
  simp only []
  rw [dif_ndec (by omega), dif_ndec (by omega)]
  unfold partV
  by_cases c : q.length = cntJ l l.length
  · have m1 := cntJ_mono (l := l) (l.length - (k + 1)) (k + 1) (by omega)
    rw [show k + 1 + (l.length - (k + 1)) = l.length by omega] at m1
    have hn := cntJ_next hk
    have hjk := hj k hk
    have hcl := hle l.length (Nat.le_refl _)
    have hlen : ((q.take (cntJ l (k + 1))).drop (cntJ l k)).length = (l.getD k Sc0).1.1.length := by
      rw [List.length_drop, List.length_take]; omega
    rw [bif_nne (by omega), dif_dec (by omega), dif_dec (by omega), dif_dec (by omega), Int.toNat_natCast, Int.toNat_natCast, clone64_val (by omega) (by omega), decide_eq_true c]
    rfl
  · rw [bif_ne (by omega), decide_eq_false c]
    rfl

def awS : ScT := ((sliderL 9 1, []), ([((0 : Int), ((1 : Int), ([((0 : Int), ((0 : Int), (0 : Int)))] : List PT)))], []))
def awL : List ScT := [awS, awS]
def awB : List PT := [((0 : Int), ((0 : Int), (0 : Int))), ((0 : Int), ((7 : Int), (0 : Int)))]
theorem aw_big : BigL awL := by
  intro i hi
  have h2 : i < 2 := hi
  have : awL.getD i Sc0 = awS := by
    match i, h2 with
    | 0, _ => rfl
    | 1, _ => rfl
  rw [this]
  refine ⟨by decide, fun j hj => ?_, by decide, by decide, by decide⟩
  have : j = slJ 9 0 := by
    have hj' : j ∈ [slJ 9 0] := hj
    simpa using hj'
  rw [this]
  decide +kernel
theorem aw_j : ∀ i, i < awL.length → 1 ≤ (awL.getD i Sc0).1.1.length ∧ (awL.getD i Sc0).1.1.length ≤ 10 := by
  intro i hi
  have h2 : i < 2 := hi
  match i, h2 with
  | 0, _ => decide
  | 1, _ => decide
theorem aw_part : partV awL [3, 4] 1 = (true, [4]) := by decide +kernel
theorem aw_all : (bif (joinV awL awB).2.2.2.2 != 0 then some false else bif ((joinV awL awB).1.length : Int) != 2 then some false else bif ((joinV awL awB).2.2.1.length : Int) != 2 then some false else bif decide (1 < ((joinV awL awB).1.length : Int)) then bif eqS ((joinV awL awB).1.getD 1 J0).1 (⟨#[98, 97]⟩ : ByteArray) then bif decide (1 < ((joinV awL awB).1.length : Int)) then bif ((((joinV awL awB).1.getD 1 J0).2.2.2.1.1 == 0) && ((((joinV awL awB).1.getD 1 J0).2.2.2.1.2.1 == 7) && ((((joinV awL awB).1.getD 1 J0).2.2.2.1.2.2 == 0) && true))) then bif decide (1 < ((joinV awL awB).2.2.1.length : Int)) then some (((joinV awL awB).2.2.1.getD 1 Sh0).1 == 1) else none else some false else none else some false else none) = some true := by decide +kernel
theorem awake35_true : l35_awake.F () = some true := by
  have hs := slider_val (n := 1) 9 (by omega)
  rw [show ((1 : Nat) : Int) = 1 from rfl] at hs
  have hp := teamPart_val (l := awL) (q := [3, 4]) (k := 1) (by decide) aw_j (by decide) (by decide)
  rw [show ((1 : Nat) : Int) = 1 from rfl, aw_part] at hp
  have hj := join_val (l := awL) awB aw_big
  unfold awL awS awB at hj
  unfold awL awS at hp
  rw [l35_awake.F_eq]
  unfold l35_awake.F0
  rw [hs, Option.bind_some, hj, Option.bind_some, hp]
  simp only [Option.bind_some, cond_true]
  rw [same64_val (by decide)]
  simp only [Option.bind_some, decide_true, cond_true]
  exact aw_all
end Go.Abs
