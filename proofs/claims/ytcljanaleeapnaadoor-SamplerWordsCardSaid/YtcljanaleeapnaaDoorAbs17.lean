/- '==' of structs and arrays; every operation but a call. -/
import Derived.Test.YtcljanaleeapnaaDoorAbs16
set_option linter.unusedVariables false
set_option linter.unusedSimpArgs false
namespace Go.Abs
open Go

section
variable {C : Ctx} {I : Interp} {objs : Nat → Option Obj} {w : World}

/-- A value of type t out of its cells. -/
def valOf (P : Program) (t : TypeId) (cs : List Value) : Value := if isAggT P t = true then .agg cs.toArray else cs.getD 0 undef

theorem part_val {dom : Nat → Prop} {bad : Bad} {P : Program} {t : TypeId} {ls c : List Leaf} {cs : List Value} {off : Nat} (hu : (P.underlying t).isSome = true) (hcut : cutN ls off (P.cellsOf t) = some c) (h1 : isAggT P t = false → c.length = 1) (hf : F2 (LRep I dom w bad) ls cs) :
    ∃ c2, (part t cs.toArray off).run P w = .ok (valOf P t c2) w ∧ F2 (LRep I dom w bad) c c2 := by
  obtain ⟨i, hi⟩ := info_of_underlying hu
  obtain ⟨rfl, hcl, hle⟩ := cutN_of hcut
  have hlen := hf.length
  have hf' := (hf.drop off).take (P.cellsOf t)
  refine ⟨_, ?_, hf'⟩
  unfold part valOf
  rw [Sem.run_bind, isAgg_run P w t hu]
  simp only [Result.andThen_ok]
  cases hg : isAggT P t with
  | true =>
    simp only [if_true, Sem.run_bind, sizeOf_run hi, Result.andThen_ok, Sem.run_pure]
    congr 2
    rw [cellsOf_info hi]
    simp
  | false =>
    have h1' := h1 hg
    have hlt : off < cs.length := by omega
    simp only [Bool.false_eq_true, if_false]
    rw [List.getElem?_toArray, List.getElem?_eq_getElem hlt]
    simp only [Sem.run_pure]
    congr 1
    rw [← hcl, h1']
    simp [List.getD, List.getElem?_take, hlt]

theorem eqT_some {P : Program} {d : Nat} {t : TypeId} {xs ys : List Leaf} {q : Bool} (h : eqT P d t xs ys = some q) : (P.underlying t).isSome = true ∧ (isAggT P t = false → xs.length = 1 ∧ ys.length = 1) := by
  cases d with
  | zero => cases h
  | succ d =>
    simp only [eqT] at h
    split at h
    · rename_i hu
      refine ⟨by rw [hu]; rfl, fun _ => ?_⟩
      split at h
      · exact ⟨rfl, rfl⟩
      · cases h
    · rename_i k hu
      refine ⟨by rw [hu]; rfl, fun _ => ?_⟩
      split at h
      · exact ⟨rfl, rfl⟩
      · cases h
    · rename_i hu
      refine ⟨by rw [hu]; rfl, fun _ => ?_⟩
      split at h
      · exact ⟨rfl, rfl⟩
      · cases h
    · rename_i fs hu
      exact ⟨by rw [hu]; rfl, fun hh => by simp [isAggT, hu] at hh⟩
    · rename_i n e hu
      exact ⟨by rw [hu]; rfl, fun hh => by simp [isAggT, hu] at hh⟩
    · cases h

theorem eqArr_run (P : Program) (w : World) (d : Nat) (e : TypeId) (n : Nat) (xs ys : Array Value) : ∀ (m i : Nat) (q : Bool), (∃ qs : List Bool, qs.length = m ∧ q = qs.all id ∧ ∀ (k : Nat) (b : Bool), qs[k]? = some b → ∃ x y, (part e xs ((i + k) * n)).run P w = .ok x w ∧ (part e ys ((i + k) * n)).run P w = .ok y w ∧ (Op.equalIn d e x y).run P w = .ok b w) →
    (forIn (List.range' i m) ((none, ()) : Option Bool × PUnit) (fun j r => do
      let a ← part e xs (j * n)
      let b ← part e ys (j * n)
      let c ← Op.equalIn d e a b
      if (!c) = true then pure (ForInStep.done (some false, ())) else pure (ForInStep.yield (none, ()))) : Sem (Option Bool × PUnit)).run P w = .ok (if q = true then (none, ()) else (some false, ())) w
  | 0, i, q, ⟨qs, hl, hq, _⟩ => by
    have : qs = [] := List.eq_nil_of_length_eq_zero hl
    subst this
    subst hq
    simp
  | m + 1, i, q, ⟨qs, hl, hq, hk⟩ => by
    match qs, hl with
    | b :: qs, hl =>
      obtain ⟨x, y, h1, h2, h3⟩ := hk 0 b (by simp)
      rw [Nat.add_zero] at h1 h2
      rw [List.range'_succ, List.forIn_cons]
      simp only [Sem.run_bind, h1, h2, h3, Result.andThen_ok, Sem.run_ite, Sem.run_pure]
      cases b with
      | false =>
        simp only [Bool.not_false, if_true, Result.andThen_ok, Sem.run_pure]
        rw [hq]
        simp
      | true =>
        simp only [Bool.not_true, Bool.false_eq_true, if_false, Result.andThen_ok]
        refine eqArr_run P w d e n xs ys m (i + 1) q ⟨qs, by simpa using hl, by rw [hq]; simp, fun k b hb => ?_⟩
        obtain ⟨x, y, h⟩ := hk (k + 1) b (by simpa using hb)
        rw [show i + 1 + k = i + (k + 1) by omega]
        exact ⟨x, y, h⟩

theorem run_equalIn_array (P : Program) (w : World) (d : Nat) (t e : TypeId) (n : Nat) (xs ys : Array Value) (ht : P.underlying t = some (.array n e)) {i : TypeInfo} (hi : P.info? e = some i) (q : Bool)
    (h : ∃ qs : List Bool, qs.length = n ∧ q = qs.all id ∧ ∀ (k : Nat) (b : Bool), qs[k]? = some b → ∃ x y, (part e xs (k * i.size)).run P w = .ok x w ∧ (part e ys (k * i.size)).run P w = .ok y w ∧ (Op.equalIn d e x y).run P w = .ok b w) :
    (Op.equalIn (d + 1) t (.agg xs) (.agg ys)).run P w = .ok q w := by
  simp only [Op.equalIn, Sem.run_bind, run_underlying ht, Result.andThen_ok, sizeOf_run hi]
  have hr := eqArr_run P w d e i.size xs ys n 0 q (by simpa using h)
  have hrg : ([:n] : Std.Legacy.Range).size = n := by simp [Std.Legacy.Range.size]
  rw [Std.Legacy.Range.forIn_eq_forIn_range', hrg]
  rw [show ([:n] : Std.Legacy.Range).start = 0 from rfl, show ([:n] : Std.Legacy.Range).step = 1 from rfl, hr]
  cases q <;> simp

theorem valOf_agg {P : Program} {t : TypeId} {cs : List Value} (h : isAggT P t = true) : valOf P t cs = .agg cs.toArray := by simp [valOf, h]
theorem valOf_one {P : Program} {t : TypeId} {v : Value} (h : isAggT P t = false) : valOf P t [v] = v := by simp [valOf, h]

theorem eqFs_run {dom : Nat → Prop} {bad : Bad} {P : Program} {d D : Nat}
    (ih : ∀ (t : TypeId) (xs ys : List Leaf) (q : Bool) (cx cy : List Value), eqT P d t xs ys = some q → F2 (LRep I dom w bad) xs cx → F2 (LRep I dom w bad) ys cy → (Op.equalIn D t (valOf P t cx) (valOf P t cy)).run P w = .ok q w)
    {xs ys : List Leaf} {cx cy : List Value} (hx : F2 (LRep I dom w bad) xs cx) (hy : F2 (LRep I dom w bad) ys cy) : ∀ (fl : List Field) (q : Bool), eqFs P (eqT P d) xs ys fl = some q → (Op.eqFields D cx.toArray cy.toArray fl).run P w = .ok q w
  | [], q, h => by
    simp [eqFs] at h
    subst h
    rfl
  | g :: r, q, h => by
    simp only [eqFs] at h
    cases hn : (g.name == "_") with
    | true => rw [hn] at h; cases h
    | false =>
      rw [hn] at h
      simp only [cond_false] at h
      split at h
      · rename_i a b ha hb
        split at h
        · rename_i p q' hp hq'
          obtain rfl := Option.some.inj h
          obtain ⟨hu, h1⟩ := eqT_some hp
          obtain ⟨c2, r1, hf1⟩ := part_val hu ha (fun hh => (h1 hh).1) hx
          obtain ⟨c3, r2, hf2⟩ := part_val hu hb (fun hh => (h1 hh).2) hy
          have r3 := ih g.type a b p c2 c3 hp hf1 hf2
          have r4 := eqFs_run ih hx hy r q' hq'
          unfold Op.eqFields
          have hne : g.name ≠ "_" := by simpa using hn
          rw [if_pos hne]
          simp only [Sem.run_bind, r1, r2, r3, Result.andThen_ok, Sem.run_ite]
          cases p with
          | false => simp
          | true => simp [r4]
        · cases h
      · cases h

theorem eqEs_qs {dom : Nat → Prop} {bad : Bad} {P : Program} {d D : Nat} {e : TypeId}
    (ih : ∀ (t : TypeId) (xs ys : List Leaf) (q : Bool) (cx cy : List Value), eqT P d t xs ys = some q → F2 (LRep I dom w bad) xs cx → F2 (LRep I dom w bad) ys cy → (Op.equalIn D t (valOf P t cx) (valOf P t cy)).run P w = .ok q w)
    {xs ys : List Leaf} {cx cy : List Value} (hx : F2 (LRep I dom w bad) xs cx) (hy : F2 (LRep I dom w bad) ys cy) : ∀ (n i : Nat) (q : Bool), eqEs (eqT P d e) (P.cellsOf e) xs ys i n = some q →
      ∃ qs : List Bool, qs.length = n ∧ q = qs.all id ∧ ∀ (k : Nat) (b : Bool), qs[k]? = some b → ∃ x y, (part e cx.toArray ((i + k) * P.cellsOf e)).run P w = .ok x w ∧ (part e cy.toArray ((i + k) * P.cellsOf e)).run P w = .ok y w ∧ (Op.equalIn D e x y).run P w = .ok b w
  | 0, i, q, h => by
    simp [eqEs] at h
    exact ⟨[], rfl, by simp [h], fun k b hb => by simp at hb⟩
  | n + 1, i, q, h => by
    simp only [eqEs] at h
    split at h
    · rename_i a b ha hb
      split at h
      · rename_i p q' hp hq'
        obtain rfl := Option.some.inj h
        obtain ⟨qs, h1, h2, h3⟩ := eqEs_qs ih hx hy n (i + 1) q' hq'
        refine ⟨p :: qs, by simp [h1], by simp [h2], fun k b' hb' => ?_⟩
        match k with
        | 0 =>
          simp at hb'
          subst hb'
          obtain ⟨hu, h4⟩ := eqT_some hp
          obtain ⟨c2, r1, hf1⟩ := part_val hu ha (fun hh => (h4 hh).1) hx
          obtain ⟨c3, r2, hf2⟩ := part_val hu hb (fun hh => (h4 hh).2) hy
          exact ⟨_, _, r1, r2, ih e a b p c2 c3 hp hf1 hf2⟩
        | k + 1 =>
          obtain ⟨x, y, h5⟩ := h3 k b' (by simpa using hb')
          rw [show i + (k + 1) = i + 1 + k by omega]
          exact ⟨x, y, h5⟩
      · cases h
    · cases h

theorem eqT_run {dom : Nat → Prop} {bad : Bad} {P : Program} : ∀ (d : Nat) (D : Nat), d ≤ D → ∀ (t : TypeId) (xs ys : List Leaf) (q : Bool) (cx cy : List Value), eqT P d t xs ys = some q → F2 (LRep I dom w bad) xs cx → F2 (LRep I dom w bad) ys cy →
    (Op.equalIn D t (valOf P t cx) (valOf P t cy)).run P w = .ok q w
  | 0, D, _, t, xs, ys, q, cx, cy, h, _, _ => by cases h
  | d + 1, 0, hD, _, _, _, _, _, _, _, _, _ => by omega
  | d + 1, D + 1, hD, t, xs, ys, q, cx, cy, h, hx, hy => by
    have ih := eqT_run (dom := dom) (bad := bad) (P := P) d D (by omega)
    simp only [eqT] at h
    split at h
    · rename_i hu
      have hg : isAggT P t = false := by simp [isAggT, hu]
      split at h
      · rename_i a b
        obtain rfl := Option.some.inj h
        match cx, cy, hx, hy with
        | [u], [v], hx, hy =>
          rw [valOf_one hg, valOf_one hg, show u = _ from hx.1.1, show v = _ from hy.1.1]
          exact run_equalIn_bool' w D t a b hu
        | _ :: _ :: _, _, hx, _ => exact hx.2.elim
        | _, _ :: _ :: _, _, hy => exact hy.2.elim
      · cases h
    · rename_i k0 hu
      have hg : isAggT P t = false := by simp [isAggT, hu]
      split at h
      · rename_i k a k' b
        split at h
        · rename_i hk
          subst hk
          obtain rfl := Option.some.inj h
          match cx, cy, hx, hy with
          | [u], [v], hx, hy =>
            rw [valOf_one hg, valOf_one hg, show u = _ from hx.1.1, show v = _ from hy.1.1]
            exact run_equalIn_int w D t k k0 a b hu
          | _ :: _ :: _, _, hx, _ => exact hx.2.elim
          | _, _ :: _ :: _, _, hy => exact hy.2.elim
        · cases h
      · cases h
    · rename_i hu
      have hg : isAggT P t = false := by simp [isAggT, hu]
      split at h
      · rename_i a b
        obtain rfl := Option.some.inj h
        match cx, cy, hx, hy with
        | [u], [v], hx, hy =>
          rw [valOf_one hg, valOf_one hg, show u = _ from hx.1.1, show v = _ from hy.1.1]
          exact run_equalIn_string w D t a b hu
        | _ :: _ :: _, _, hx, _ => exact hx.2.elim
        | _, _ :: _ :: _, _, hy => exact hy.2.elim
      · cases h
    · rename_i fs hu
      have hg : isAggT P t = true := by simp [isAggT, hu]
      cases hst : P.stoodInHeld t with
      | true => rw [hst] at h; cases h
      | false =>
        rw [hst] at h
        simp only [cond_false] at h
        rw [valOf_agg hg, valOf_agg hg]
        have hfo : P.fieldsOf t = fs := by simp [Program.fieldsOf, hu]
        rw [run_equalIn_struct w D t cx.toArray cy.toArray (by rw [hfo]; exact hu) hst, hfo]
        exact eqFs_run ih hx hy fs.toList q h
    · rename_i n e hu
      have hg : isAggT P t = true := by simp [isAggT, hu]
      rw [valOf_agg hg, valOf_agg hg]
      cases hie : P.info? e with
      | none => rw [hie] at h; cases h
      | some i =>
        rw [hie] at h
        obtain ⟨qs, h1, h2, h3⟩ := eqEs_qs ih hx hy n 0 q h
        have hsz := cellsOf_info hie
        exact run_equalIn_array P w D t e n cx.toArray cy.toArray hu hie q ⟨qs, h1, h2, fun k b hb => by
          obtain ⟨x, y, h⟩ := h3 k b hb
          rw [Nat.zero_add, hsz] at h
          exact ⟨x, y, h⟩⟩
    · cases h

end
end Go.Abs
