/- A region: in whatever order its operations come up, they leave the same. -/
import Derived.Test.YtcljanaleeapnaaDoorAbs28
set_option linter.unusedVariables false
set_option linter.unusedSimpArgs false
namespace Go.Abs
open Go

section
variable {E : Env} {ops : Array Oper} {fr0 : Nat}

def LineOk (ops : Array Oper) (k l : Line) : Prop := tiedTo ops k.op l.op = true ∨ apartL k l = true

theorem stepI_line {i : Nat} {st st' : St} {ls : List Line} (h : stepI E ops fr0 i st = some (st', ls)) : ∀ l ∈ ls, l.op = i := by
  unfold stepI at h
  split at h
  · cases h
  · split at h
    · cases h
    · rename_i v wr ls' hact
      split at h
      · cases h
      · simp only [Option.some.injEq, Prod.mk.injEq] at h
        obtain ⟨_, rfl⟩ := h
        unfold actI at hact
        split at hact
        · cases hact
        · simp only [Option.some.injEq, Prod.mk.injEq] at hact
          intro l hl
          rw [← hact.2.2] at hl
          simp at hl
        · simp only [Option.map_eq_some_iff, Prod.mk.injEq] at hact
          obtain ⟨out, _, _, _, h3⟩ := hact
          intro l hl
          rw [← h3] at hl
          simp only [List.mem_singleton] at hl
          rw [hl]

theorem run_first : ∀ {pre post : List Nat} {i : Nat} {st stF : St} {lines : List Line}, runI E ops fr0 (pre ++ i :: post) st = some (stF, lines) → (∀ j ∈ pre, tiedTo ops j i = false ∧ tmpsApart ops j i = true) → lines.Pairwise (LineOk ops) →
    ∃ st1 li ls, stepI E ops fr0 i st = some (st1, li) ∧ runI E ops fr0 (pre ++ post) st1 = some (stF, ls) ∧ (∀ l ∈ li, l ∈ lines) ∧ ls.Sublist lines
  | [], post, i, st, stF, lines, h, _, _ => by
    simp only [List.nil_append, runI] at h
    split at h
    · cases h
    · rename_i st1 li h1
      split at h
      · cases h
      · rename_i st2 ls h2
        simp only [Option.some.injEq, Prod.mk.injEq] at h
        obtain ⟨rfl, rfl⟩ := h
        exact ⟨st1, li, ls, h1, h2, fun l hl => List.mem_append.2 (.inl hl), List.sublist_append_right _ _⟩
  | j :: pre, post, i, st, stF, lines, h, hp, ho => by
    simp only [List.cons_append, runI] at h
    split at h
    · cases h
    · rename_i sj lj h1
      split at h
      · cases h
      · rename_i st2 ls h2
        simp only [Option.some.injEq, Prod.mk.injEq] at h
        obtain ⟨rfl, rfl⟩ := h
        obtain ⟨_, ho2, hcross⟩ := List.pairwise_append.1 ho
        obtain ⟨si, li, ls', h3, h4, h5, h6⟩ := run_first h2 (fun k hk => hp k (List.mem_cons_of_mem _ hk)) ho2
        obtain ⟨ht, hta⟩ := hp j (by simp)
        have hap : ∀ k ∈ lj, ∀ l ∈ li, apartL k l = true := by
          intro k hk l hl
          rcases hcross k hk l (h5 l hl) with hh | hh
          · rw [stepI_line h1 k hk, stepI_line h3 l hl, ht] at hh
            cases hh
          · exact hh
        obtain ⟨s', h7, h8⟩ := step_swap h1 h3 hta hap
        refine ⟨s', li, lj ++ ls', h7, ?_, fun l hl => List.mem_append.2 (.inr (h5 l hl)), List.Sublist.append (List.Sublist.refl _) h6⟩
        simp only [List.cons_append, runI, h8, h4]

/-! ### What stands in front -/
theorem maskOf_inv {L : Nat → Prop} {acc : List Nat} (hacc : ∀ k m, getL acc k = some m → ∀ j, m.testBit j = true → L k → L j) : ∀ {l : List Edge}, (∀ e ∈ l, Region.binds .any e = true → L e.on) → ∀ j, (maskOf acc l).testBit j = true → L j
  | [], _, j, h => by simp [maskOf] at h
  | e :: r, he, j, h => by
    have hr : ∀ e ∈ r, Region.binds .any e = true → L e.on := fun e' h' => he e' (List.mem_cons_of_mem _ h')
    simp only [maskOf] at h
    cases hb : Region.binds .any e with
    | false =>
      rw [hb] at h
      exact maskOf_inv hacc hr j h
    | true =>
      rw [hb] at h
      have hon := he e (by simp) hb
      simp only [cond_true] at h
      have h' : ((2 ^ e.on ||| (match getL acc e.on with | some m => m | none => 0)) ||| maskOf acc r).testBit j = true := h
      rw [Nat.testBit_or, Nat.testBit_or, Bool.or_eq_true, Bool.or_eq_true] at h'
      rcases h' with (h1 | h1) | h1
      · rw [Nat.testBit_two_pow] at h1
        have := of_decide_eq_true h1
        rw [← this]
        exact hon
      · split at h1
        · rename_i m hm
          exact hacc _ _ hm j h1 hon
        · simp at h1
      · exact maskOf_inv hacc hr j h1

theorem befs_inv {L : Nat → Prop} : ∀ (l : List Oper) (acc : List Nat), (∀ k m, getL acc k = some m → ∀ j, m.testBit j = true → L k → L j) → (∀ k o, l[k]? = some o → L (acc.length + k) → ∀ e ∈ o.after.toList, Region.binds .any e = true → L e.on) →
    ∀ k m, getL (befs acc l) k = some m → ∀ j, m.testBit j = true → L k → L j
  | [], acc, hacc, _ => hacc
  | o :: l, acc, hacc, hl => by
    refine befs_inv l _ ?_ ?_
    · intro k m hk j hj hLk
      rw [getL_eq] at hk
      have hk' : (acc ++ [maskOf acc o.after.toList])[k]? = some m := hk
      rw [List.getElem?_append] at hk'
      split at hk'
      · exact hacc k m (by rw [getL_eq]; exact hk') j hj hLk
      · rename_i hlt
        have he : k = acc.length := by
          have := (List.getElem?_eq_some_iff.1 hk').1
          simp only [List.length_singleton] at this
          omega
        subst he
        simp only [Nat.sub_self, List.getElem?_cons_zero, Option.some.injEq] at hk'
        subst hk'
        exact maskOf_inv hacc (hl 0 o (by simp) (by simpa using hLk)) j hj
    · intro k o' hk hLk e he hb
      refine hl (k + 1) o' (by simpa using hk) ?_ e he hb
      have hlen : (List.append acc [maskOf acc o.after.toList]).length = acc.length + 1 := by
        show (acc ++ [_]).length = _
        simp
      rw [hlen] at hLk
      rwa [show acc.length + (k + 1) = acc.length + 1 + k by omega]

theorem tied_inv {L : Nat → Prop} (hL : ∀ k o, ops[k]? = some o → L k → ∀ e ∈ o.after, Region.binds .any e = true → L e.on) {i j : Nat} (h : tiedTo ops j i = true) (hi : L i) : L j := by
  unfold tiedTo at h
  split at h
  · rename_i m hm
    refine befs_inv ops.toList [] (fun k m hk => by simp [getL] at hk) (fun k o hk hLk e he hb => ?_) i m hm j h hi
    simp only [List.length_nil, Nat.zero_add] at hLk
    exact hL k o (by simpa using hk) hLk e (by simpa using he) hb
  · cases h

theorem binds_any (md : Region.Mode) (e : Edge) (h : Region.binds .any e = true) : Region.binds md e = true := by
  unfold Region.binds at *
  cases hg : e.ground <;> simp_all

def Listed (listed : Array Bool) (x : Nat) : Prop := listed.getD x true = true
def unl (n : Nat) (listed : Array Bool) : List Nat := (List.range n).filter fun x => !listed.getD x true

theorem afterOk_of : ∀ {l : List Oper} {k : Nat}, afterOk k l = true → ∀ n o, l[n]? = some o → ∀ e ∈ o.after.toList, Region.binds .any e = true → e.on < k + n
  | [], k, _, n, o, h => by simp at h
  | p :: l, k, h, 0, o, ho => by
    simp only [List.getElem?_cons_zero, Option.some.injEq] at ho
    subst ho
    simp only [afterOk, Bool.and_eq_true] at h
    intro e he hb
    have := List.all_eq_true.1 h.1 e he
    rw [hb, Bool.not_true, Bool.false_or] at this
    exact Nat.le_of_ble_eq_true this
  | p :: l, k, h, n + 1, o, ho => by
    simp only [afterOk, Bool.and_eq_true] at h
    intro e he hb
    have := afterOk_of h.2 n o (by simpa using ho) e he hb
    omega

theorem range_filter_sorted (n : Nat) (p : Nat → Bool) : ((List.range n).filter p).Pairwise (· < ·) := List.Pairwise.filter _ List.pairwise_lt_range

theorem split_at {l : List Nat} {i : Nat} (hs : l.Pairwise (· < ·)) (hi : i ∈ l) : ∃ pre post, l = pre ++ i :: post ∧ (∀ j ∈ pre, j < i) ∧ l.filter (fun x => decide (x ≠ i)) = pre ++ post := by
  obtain ⟨pre, post, rfl⟩ := List.append_of_mem hi
  obtain ⟨h1, h2, h3⟩ := List.pairwise_append.1 hs
  have hlt : ∀ j ∈ pre, j < i := fun j hj => h3 j hj i (by simp)
  have hgt : ∀ j ∈ post, i < j := fun j hj => List.rel_of_pairwise_cons h2 hj
  refine ⟨pre, post, rfl, hlt, ?_⟩
  rw [List.filter_append, List.filter_cons]
  have e1 : pre.filter (fun x => decide (x ≠ i)) = pre := List.filter_eq_self.2 fun j hj => decide_eq_true (by have := hlt j hj; omega)
  have e2 : post.filter (fun x => decide (x ≠ i)) = post := List.filter_eq_self.2 fun j hj => decide_eq_true (by have := hgt j hj; omega)
  rw [e1, e2]
  simp

theorem unl_set {n : Nat} {listed : Array Bool} {i : Nat} (hi : listed.getD i true = false) : unl n (listed.setIfInBounds i true) = (unl n listed).filter (fun x => decide (x ≠ i)) := by
  unfold unl
  rw [List.filter_filter]
  apply List.filter_congr
  intro x _
  by_cases e : x = i
  · subst e
    have hlt : x < listed.size := by
      rcases Nat.lt_or_ge x listed.size with h | h
      · exact h
      · simp [Array.getElem?_eq_none h] at hi
    simp [hlt]
  · rw [getD_set_ne true (Ne.symm e)]
    simp [e]

theorem go_run (hord : orderOk ops = true) : ∀ (fuel t : Nat) (listed : Array Bool) (st stF : St) (lines : List Line),
    (unl ops.size listed).length ≤ fuel → (∀ k o, ops[k]? = some o → Listed listed k → ∀ e ∈ o.after, Region.binds .any e = true → Listed listed e.on) → (∀ (e : Edge) (k : Nat) (o : Oper), ops[k]? = some o → e ∈ o.after → Region.binds .any e = true → e.on < listed.size) →
    runI E ops fr0 (unl ops.size listed) st = some (stF, lines) → lines.Pairwise (LineOk ops) →
    ∃ ls, runI E ops fr0 (Region.linearise.go .any ops fuel t listed []) st = some (stF, ls)
  | 0, t, listed, st, stF, lines, hlen, _, _, h, _ => by
    have : unl ops.size listed = [] := List.eq_nil_of_length_eq_zero (by omega)
    rw [this] at h
    simp only [runI, Option.some.injEq, Prod.mk.injEq] at h
    exact ⟨[], by simp [Region.linearise.go, runI, h.1]⟩
  | fuel + 1, t, listed, st, stF, lines, hlen, hcl, hsz, h, ho => by
    have hord' := hord
    unfold orderOk at hord'
    simp only [Bool.and_eq_true] at hord'
    obtain ⟨haf, hpairs⟩ := hord'
    simp only [Region.linearise.go]
    change ∃ ls, runI E ops fr0 (match (Region.ready .any ops listed)[t % (Region.ready .any ops listed).length]? with
      | some i => Region.linearise.go .any ops fuel (t / (Region.ready .any ops listed).length) (listed.setIfInBounds i true) [i]
      | none => [].reverse) st = some (stF, ls)
    cases hi : (Region.ready .any ops listed)[t % (Region.ready .any ops listed).length]? with
    | none =>
      have hnil : Region.ready .any ops listed = [] := by
        cases hr : Region.ready .any ops listed with
        | nil => rfl
        | cons x xs =>
          rw [hr] at hi
          have hlt : t % (x :: xs).length < (x :: xs).length := Nat.mod_lt _ (by simp)
          simp at hi
          simp at hlt
          omega
      have hu : unl ops.size listed = [] := by
        cases hU : unl ops.size listed with
        | nil => rfl
        | cons i0 rest =>
          exfalso
          have hmem : i0 ∈ unl ops.size listed := by rw [hU]; simp
          obtain ⟨hr, hun⟩ := List.mem_filter.1 hmem
          have hi0 : i0 < ops.size := List.mem_range.1 hr
          have hun' : listed.getD i0 true = false := by simpa using hun
          have hmin : ∀ j, j < i0 → listed.getD j true = true := by
            intro j hj
            cases hh : listed.getD j true with
            | true => rfl
            | false =>
              have hjm : j ∈ unl ops.size listed := List.mem_filter.2 ⟨List.mem_range.2 (by omega), by simp only [hh]; rfl⟩
              rw [hU] at hjm
              have hs := range_filter_sorted ops.size (fun x => !listed.getD x true)
              have hs' : (i0 :: rest).Pairwise (· < ·) := by rw [← hU]; exact hs
              rcases List.mem_cons.1 hjm with e | e
              · omega
              · have := List.rel_of_pairwise_cons hs' e
                omega
          have hready : i0 ∈ Region.ready .any ops listed := by
            refine mem_ready.2 ⟨hun', ops[i0], Array.getElem?_eq_getElem hi0, fun e he hb => ?_⟩
            have hlt : e.on < i0 := by
              have := afterOk_of haf i0 ops[i0] (by simp [hi0]) e (by simpa using he) hb
              omega
            have h1 := hmin e.on hlt
            have h2 := hsz e i0 ops[i0] (Array.getElem?_eq_getElem hi0) he hb
            simp only [Array.getD_eq_getD_getElem?, Array.getElem?_eq_getElem h2, Option.getD_some] at h1 ⊢
            exact h1
          rw [hnil] at hready
          cases hready
      rw [hu] at h
      simp only [runI, Option.some.injEq, Prod.mk.injEq] at h
      exact ⟨[], by simp [runI, h.1]⟩
    | some i =>
      have hir := List.mem_of_getElem? hi
      obtain ⟨hun, o, hoi, hall⟩ := mem_ready.1 hir
      have hilt : i < ops.size := (Array.getElem?_eq_some_iff.1 hoi).1
      have himem : i ∈ unl ops.size listed := List.mem_filter.2 ⟨List.mem_range.2 hilt, by simp only [hun]; rfl⟩
      obtain ⟨pre, post, hsplit, hlt, hfil⟩ := split_at (range_filter_sorted ops.size (fun x => !listed.getD x true)) himem
      have hsplit' : unl ops.size listed = pre ++ i :: post := hsplit
      have hgf : ∀ x, listed.getD x false = true → Listed listed x := by
        intro x hx
        unfold Listed
        rcases Nat.lt_or_ge x listed.size with h' | h'
        · simp [h'] at hx ⊢; exact hx
        · simp [Array.getElem?_eq_none h']
      have hpre : ∀ j ∈ pre, tiedTo ops j i = false ∧ tmpsApart ops j i = true := by
        intro j hj
        have hjm : j ∈ unl ops.size listed := by rw [hsplit']; exact List.mem_append.2 (.inl hj)
        have hjun : listed.getD j true = false := by simpa using (List.mem_filter.1 hjm).2
        have hnt : tiedTo ops j i = false := by
          cases ht : tiedTo ops j i with
          | false => rfl
          | true =>
            exfalso
            have := tied_inv (ops := ops) (L := fun x => Listed listed x ∨ x = i) (by
              intro k o' hk hLk e he hb
              rcases hLk with hLk | rfl
              · exact .inl (hcl k o' hk hLk e he hb)
              · rw [hoi] at hk
                obtain rfl := Option.some.inj hk
                exact .inl (hgf _ (hall e he hb))) ht (.inr rfl)
            rcases this with h1 | h1
            · unfold Listed at h1
              rw [hjun] at h1
              cases h1
            · have := hlt j hj
              omega
        refine ⟨hnt, ?_⟩
        have h1 := List.all_eq_true.1 hpairs i (List.mem_range.2 hilt)
        have h2 := List.all_eq_true.1 h1 j (List.mem_range.2 (hlt j hj))
        rw [hnt, Bool.false_or] at h2
        exact h2
      rw [hsplit'] at h
      obtain ⟨st1, li, ls, h1, h2, _, h3⟩ := run_first h hpre ho
      have hnew : unl ops.size (listed.setIfInBounds i true) = pre ++ post := by
        rw [unl_set hun]
        exact hfil
      have hcl' : ∀ k o, ops[k]? = some o → Listed (listed.setIfInBounds i true) k → ∀ e ∈ o.after, Region.binds .any e = true → Listed (listed.setIfInBounds i true) e.on := by
        intro k o' hk hLk e he hb
        have key : Listed listed e.on := by
          by_cases e2 : k = i
          · subst e2
            rw [hoi] at hk
            obtain rfl := Option.some.inj hk
            exact hgf _ (hall e he hb)
          · unfold Listed at hLk
            rw [getD_set_ne true (Ne.symm e2)] at hLk
            exact hcl k o' hk hLk e he hb
        unfold Listed at key ⊢
        by_cases e3 : e.on = i
        · rw [e3]
          rw [e3, hun] at key
          cases key
        · rw [getD_set_ne true (Ne.symm e3)]
          exact key
      obtain ⟨ls', h4⟩ := go_run hord fuel (t / (Region.ready .any ops listed).length) (listed.setIfInBounds i true) st1 stF ls
        (by
          rw [hnew]
          rw [hsplit'] at hlen
          simp only [List.length_append, List.length_cons] at hlen ⊢
          omega) hcl' (fun e k o' hk he hb => by rw [Array.size_setIfInBounds]; exact hsz e k o' hk he hb) (by rw [hnew]; exact h2) (ho.sublist h3)
      refine ⟨li ++ ls', ?_⟩
      simp only []
      rw [linearise_go_acc, List.reverse_singleton, List.singleton_append]
      simp only [runI, h1, h4]

theorem logOk_of : ∀ {log : List Line}, logOk ops log = true → log.reverse.Pairwise (LineOk ops)
  | [], _ => by simp
  | l :: r, h => by
    simp only [logOk, Bool.and_eq_true] at h
    rw [List.reverse_cons]
    refine List.pairwise_append.2 ⟨logOk_of h.2, by simp, ?_⟩
    intro k hk l' hl'
    simp only [List.mem_singleton] at hl'
    subst hl'
    have := List.all_eq_true.1 h.1 k (by simpa using hk)
    rw [Bool.or_eq_true] at this
    exact this

theorem schedule_run (hord : orderOk ops = true) {st stF : St} {lines : List Line} (h : runI E ops fr0 (List.range ops.size) st = some (stF, lines)) (ho : lines.Pairwise (LineOk ops)) (t : Nat) :
    ∃ ls, runI E ops fr0 (Region.schedule true ops t) st = some (stF, ls) := by
  have hun : unl ops.size (Array.replicate ops.size false) = List.range ops.size := by
    unfold unl
    refine List.filter_eq_self.2 fun x hx => ?_
    have := List.mem_range.1 hx
    simp [this]
  have hord' := hord
  unfold orderOk at hord'
  simp only [Bool.and_eq_true] at hord'
  simp only [Region.schedule, Bool.true_or, if_true]
  refine go_run hord ops.size t (Array.replicate ops.size false) st stF lines (by rw [hun]; simp) ?_ ?_ (by rw [hun]; exact h) ho
  · intro k o hk hLk e he hb
    exfalso
    have hlt : k < ops.size := (Array.getElem?_eq_some_iff.1 hk).1
    unfold Listed at hLk
    simp [hlt] at hLk
  · intro e k o hk he hb
    have hlt : k < ops.size := (Array.getElem?_eq_some_iff.1 hk).1
    have := afterOk_of hord'.1 k o (by simpa using hk) e (by simpa using he) hb
    simp only [Array.size_replicate]
    omega

end
end Go.Abs
