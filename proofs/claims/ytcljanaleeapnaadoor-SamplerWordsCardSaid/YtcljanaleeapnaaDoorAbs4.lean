/- What typed data and objects say of a world's memory; how a world that has changed keeps it. -/
import Derived.Test.YtcljanaleeapnaaDoorAbs3
import Derived.Calls
import Derived.Laws.AppendOwn
import Derived.Laws.Cells
import Derived.Below
set_option linter.unusedVariables false
set_option linter.unusedSimpArgs false
namespace Go.Abs
open Go

/-! ### Lists side by side -/
def F2 {α β : Type} (R : α → β → Prop) : List α → List β → Prop
  | [], [] => True
  | a :: as, b :: bs => R a b ∧ F2 R as bs
  | _, _ => False

theorem F2.length {α β : Type} {R : α → β → Prop} : ∀ {l : List α} {m : List β}, F2 R l m → l.length = m.length
  | [], [], _ => rfl
  | _ :: _, _ :: _, h => by simp [h.2.length]
  | [], _ :: _, h => h.elim
  | _ :: _, [], h => h.elim
theorem F2.imp {α β : Type} {R S : α → β → Prop} (hRS : ∀ a b, R a b → S a b) : ∀ {l : List α} {m : List β}, F2 R l m → F2 S l m
  | [], [], _ => trivial
  | _ :: _, _ :: _, h => ⟨hRS _ _ h.1, h.2.imp hRS⟩
  | [], _ :: _, h => h.elim
  | _ :: _, [], h => h.elim
theorem F2.append {α β : Type} {R : α → β → Prop} : ∀ {l : List α} {m : List β} {l' : List α} {m' : List β}, F2 R l m → F2 R l' m' → F2 R (l ++ l') (m ++ m')
  | [], [], _, _, _, h' => h'
  | _ :: _, _ :: _, _, _, h, h' => ⟨h.1, h.2.append h'⟩
  | [], _ :: _, _, _, h, _ => h.elim
  | _ :: _, [], _, _, h, _ => h.elim
theorem F2.take {α β : Type} {R : α → β → Prop} : ∀ (n : Nat) {l : List α} {m : List β}, F2 R l m → F2 R (l.take n) (m.take n)
  | 0, l, m, _ => by simp [F2]
  | n + 1, [], [], _ => by simp [F2]
  | n + 1, _ :: _, _ :: _, h => ⟨h.1, h.2.take n⟩
  | n + 1, [], _ :: _, h => h.elim
  | n + 1, _ :: _, [], h => h.elim
theorem F2.drop {α β : Type} {R : α → β → Prop} : ∀ (n : Nat) {l : List α} {m : List β}, F2 R l m → F2 R (l.drop n) (m.drop n)
  | 0, l, m, h => by simpa using h
  | n + 1, [], [], _ => by simp [F2]
  | n + 1, _ :: _, _ :: _, h => h.2.drop n
  | n + 1, [], _ :: _, h => h.elim
  | n + 1, _ :: _, [], h => h.elim
theorem F2.get {α β : Type} {R : α → β → Prop} : ∀ {l : List α} {m : List β} (i : Nat) (a : α), F2 R l m → l[i]? = some a → ∃ b, m[i]? = some b ∧ R a b
  | [], [], i, a, _, h => by simp at h
  | x :: _, y :: _, 0, a, h, e => by simp at e; subst e; exact ⟨y, by simp, h.1⟩
  | _ :: _, _ :: _, i + 1, a, h, e => by
    obtain ⟨b, hb, hr⟩ := h.2.get i a (by simpa using e)
    exact ⟨b, by simpa using hb, hr⟩
  | [], _ :: _, _, _, h, _ => h.elim
  | _ :: _, [], _, _, h, _ => h.elim
theorem F2.get' {α β : Type} {R : α → β → Prop} : ∀ {l : List α} {m : List β} (i : Nat) (b : β), F2 R l m → m[i]? = some b → ∃ a, l[i]? = some a ∧ R a b
  | [], [], i, a, _, h => by simp at h
  | x :: _, y :: _, 0, a, h, e => by simp at e; subst e; exact ⟨x, by simp, h.1⟩
  | _ :: _, _ :: _, i + 1, a, h, e => by
    obtain ⟨b, hb, hr⟩ := h.2.get' i a (by simpa using e)
    exact ⟨b, by simpa using hb, hr⟩
  | [], _ :: _, _, _, h, _ => h.elim
  | _ :: _, [], _, _, h, _ => h.elim
theorem F2.map {α β γ : Type} {R : α → β → Prop} {S : γ → β → Prop} (f : α → γ) (h : ∀ a b, R a b → S (f a) b) : ∀ {l : List α} {m : List β}, F2 R l m → F2 S (l.map f) m
  | [], [], _ => trivial
  | _ :: _, _ :: _, hh => ⟨h _ _ hh.1, hh.2.map f h⟩
  | [], _ :: _, h => h.elim
  | _ :: _, [], h => h.elim
theorem F2.split {α β : Type} {R : α → β → Prop} : ∀ {l l' : List α} {m : List β}, F2 R (l ++ l') m → ∃ m1 m2, m = m1 ++ m2 ∧ F2 R l m1 ∧ F2 R l' m2
  | [], l', m, h => ⟨[], m, rfl, trivial, h⟩
  | a :: l, l', [], h => h.elim
  | a :: l, l', b :: m, h => by
    obtain ⟨m1, m2, rfl, h1, h2⟩ := F2.split (l := l) (l' := l') h.2
    exact ⟨b :: m1, m2, rfl, ⟨h.1, h1⟩, h2⟩

/-- Rows of elements, one behind the other. -/
def Rows {α : Type} (R : α → List Value → Prop) : List α → List Value → Prop
  | [], cs => cs = []
  | x :: r, cs => ∃ c1 c2, cs = c1 ++ c2 ∧ R x c1 ∧ Rows R r c2

theorem Rows.imp {α : Type} {R S : α → List Value → Prop} (h : ∀ x c, R x c → S x c) : ∀ {xs : List α} {cs : List Value}, Rows R xs cs → Rows S xs cs
  | [], _, hh => hh
  | _ :: _, _, ⟨c1, c2, e, a, b⟩ => ⟨c1, c2, e, h _ _ a, b.imp h⟩
theorem Rows.append {α : Type} {R : α → List Value → Prop} : ∀ {xs ys : List α} {c d : List Value}, Rows R xs c → Rows R ys d → Rows R (xs ++ ys) (c ++ d)
  | [], ys, c, d, h, h' => by simp [Rows] at h; subst h; simpa using h'
  | x :: xs, ys, _, d, ⟨c1, c2, e, a, b⟩, h' => ⟨c1, c2 ++ d, by simp [e], a, b.append h'⟩
theorem Rows.length {α : Type} {R : α → List Value → Prop} {n : Nat} (hn : ∀ x c, R x c → c.length = n) : ∀ {xs : List α} {cs : List Value}, Rows R xs cs → cs.length = xs.length * n
  | [], _, h => by simp [Rows] at h; subst h; simp
  | x :: xs, _, ⟨c1, c2, e, a, b⟩ => by
    subst e
    rw [List.length_append, hn _ _ a, b.length hn, List.length_cons, Nat.succ_mul, Nat.add_comm]
theorem Rows.drop {α : Type} {R : α → List Value → Prop} {n : Nat} (hn : ∀ x c, R x c → c.length = n) : ∀ (k : Nat) {xs : List α} {cs : List Value}, Rows R xs cs → Rows R (xs.drop k) (cs.drop (k * n))
  | 0, xs, cs, h => by simpa using h
  | k + 1, [], cs, h => by simp [Rows] at h ⊢; subst h; simp
  | k + 1, x :: xs, _, ⟨c1, c2, e, a, b⟩ => by
    subst e
    have hl := hn _ _ a
    rw [List.drop_succ_cons, Nat.succ_mul, Nat.add_comm, ← hl, ← List.drop_drop, List.drop_left]
    rw [hl]
    exact b.drop hn k
theorem Rows.take {α : Type} {R : α → List Value → Prop} {n : Nat} (hn : ∀ x c, R x c → c.length = n) : ∀ (k : Nat) {xs : List α} {cs : List Value}, Rows R xs cs → Rows R (xs.take k) (cs.take (k * n))
  | 0, xs, cs, h => by simp [Rows]
  | k + 1, [], cs, h => by simp [Rows] at h ⊢; subst h; simp
  | k + 1, x :: xs, _, ⟨c1, c2, e, a, b⟩ => by
    subst e
    have hl := hn _ _ a
    refine ⟨c1, c2.take (k * n), ?_, a, b.take hn k⟩
    rw [Nat.succ_mul, Nat.add_comm, ← hl, List.take_length_add_append]
theorem Rows.get {α : Type} {R : α → List Value → Prop} {n : Nat} (hn : ∀ x c, R x c → c.length = n) : ∀ (i : Nat) {xs : List α} {cs : List Value} (x : α), Rows R xs cs → xs[i]? = some x → R x ((cs.drop (i * n)).take n)
  | i, [], _, x, h, e => by simp at e
  | 0, y :: xs, _, x, ⟨c1, c2, e, a, b⟩, h => by
    subst e
    simp at h
    subst h
    have hl := hn _ _ a
    rw [Nat.zero_mul, List.drop_zero, ← hl, List.take_left]
    exact a
  | i + 1, y :: xs, _, x, ⟨c1, c2, e, a, b⟩, h => by
    subst e
    have hl := hn _ _ a
    rw [Nat.succ_mul, Nat.add_comm, ← hl, ← List.drop_drop, List.drop_left, hl]
    exact b.get hn i x (by simpa using h)
theorem Rows.set {α : Type} {R : α → List Value → Prop} {n : Nat} (hn : ∀ x c, R x c → c.length = n) : ∀ (i : Nat) {xs : List α} {cs : List Value} (x : α) (es : List Value), Rows R xs cs → i < xs.length → R x es →
    Rows R (xs.set i x) (cs.take (i * n) ++ es ++ cs.drop (i * n + n))
  | i, [], _, x, es, h, e, _ => by simp at e
  | 0, y :: xs, _, x, es, ⟨c1, c2, e, a, b⟩, h, hx => by
    subst e
    have hl := hn _ _ a
    refine ⟨es, c2, ?_, hx, b⟩
    rw [Nat.zero_mul, List.take_zero, List.nil_append, Nat.zero_add, ← hl, List.drop_left]
  | i + 1, y :: xs, _, x, es, ⟨c1, c2, e, a, b⟩, h, hx => by
    subst e
    have hl := hn _ _ a
    refine ⟨c1, _, ?_, a, b.set hn i x es (by simpa using h) hx⟩
    rw [show (i + 1) * n = c1.length + i * n by rw [Nat.succ_mul, hl, Nat.add_comm], List.take_length_add_append, show c1.length + i * n + n = c1.length + (i * n + n) by omega, ← List.drop_drop, List.drop_left]
    simp
theorem Rows.replicate {α : Type} {R : α → List Value → Prop} (x : α) (es : List Value) (h : R x es) : ∀ n, Rows R (List.replicate n x) (List.flatten (List.replicate n es))
  | 0 => by simp [Rows]
  | n + 1 => ⟨es, _, by simp [List.replicate_succ], h, Rows.replicate x es h n⟩

/-! ### Data in memory -/
abbrev Bad := Nat → Nat → Prop

/-- A cell that holds v, and that nobody may write. -/
def At (w : World) (bad : Bad) (a : Addr) (v : Value) : Prop := w.cell? a = some v ∧ ¬ bad a.block a.off
def RowAt (w : World) (bad : Bad) (a : Addr) (cs : List Value) : Prop := ∀ i v, cs[i]? = some v → At w bad (a.add i) v

def CellsOk (w : World) (bad : Bad) : (t : Ty) → El t → List Value → Prop
  | .int k, x, cs => cs = [.int k x]
  | .bool, x, cs => cs = [.bool x]
  | .str, x, cs => cs = [.string x]
  | .slc t, xs, cs => ∃ A c es, cs = [.slice A xs.length c] ∧ xs.length ≤ c ∧ Rows (CellsOk w bad t) xs es ∧ (es = [] ∨ ∃ ad, A = some ad ∧ RowAt w bad ad es)
  | .pair a b, x, cs => ∃ c1 c2, cs = c1 ++ c2 ∧ CellsOk w bad a x.1 c1 ∧ CellsOk w bad b x.2 c2

theorem CellsOk.mono {w w' : World} {bad bad' : Bad} (h : ∀ a v, At w bad a v → At w' bad' a v) : ∀ (t : Ty) (x : El t) (cs : List Value), CellsOk w bad t x cs → CellsOk w' bad' t x cs
  | .int _, _, _, e => e
  | .bool, _, _, e => e
  | .str, _, _, e => e
  | .slc t, xs, cs, ⟨A, c, es, e, hc, hr, hp⟩ => ⟨A, c, es, e, hc, hr.imp (fun x c => CellsOk.mono h t x c), hp.imp id (fun ⟨ad, ha, hrow⟩ => ⟨ad, ha, fun i v hv => h _ _ (hrow i v hv)⟩)⟩
  | .pair a b, x, cs, ⟨c1, c2, e, h1, h2⟩ => ⟨c1, c2, e, CellsOk.mono h a _ _ h1, CellsOk.mono h b _ _ h2⟩

theorem CellsOk.length {w : World} {bad : Bad} : ∀ (t : Ty) (x : El t) (cs : List Value), CellsOk w bad t x cs → cs.length = nleaf t
  | .int _, _, _, e => by rw [show _ = _ from e]; rfl
  | .bool, _, _, e => by rw [show _ = _ from e]; rfl
  | .str, _, _, e => by rw [show _ = _ from e]; rfl
  | .slc t, xs, cs, ⟨A, c, es, e, _⟩ => by rw [e]; rfl
  | .pair a b, x, cs, ⟨c1, c2, e, h1, h2⟩ => by rw [e, List.length_append, CellsOk.length a _ _ h1, CellsOk.length b _ _ h2]; rfl

theorem CellsOk.one {w : World} {bad : Bad} : ∀ (t : Ty) (x : El t) (cs : List Value), CellsOk w bad t x cs → ∀ u ∈ cs, u.oneCell' = true
  | .int _, _, _, e => by rw [show _ = _ from e]; simp [Value.oneCell']
  | .bool, _, _, e => by rw [show _ = _ from e]; simp [Value.oneCell']
  | .str, _, _, e => by rw [show _ = _ from e]; simp [Value.oneCell']
  | .slc t, xs, cs, ⟨A, c, es, e, _⟩ => by rw [e]; simp [Value.oneCell']
  | .pair a b, x, cs, ⟨c1, c2, e, h1, h2⟩ => by
    intro u hu
    rw [e, List.mem_append] at hu
    exact hu.elim (CellsOk.one a _ _ h1 u) (CellsOk.one b _ _ h2 u)

theorem Rows.one {w : World} {bad : Bad} {t : Ty} : ∀ {xs : List (El t)} {cs : List Value}, Rows (CellsOk w bad t) xs cs → ∀ u ∈ cs, u.oneCell' = true
  | [], _, h => by simp [Rows] at h; subst h; simp
  | x :: xs, _, ⟨c1, c2, e, a, b⟩ => by
    intro u hu
    rw [e, List.mem_append] at hu
    exact hu.elim (CellsOk.one t _ _ a u) (b.one u)

theorem nleaf_pos : ∀ t : Ty, 1 ≤ nleaf t
  | .int _ => Nat.le_refl _
  | .bool => Nat.le_refl _
  | .str => Nat.le_refl _
  | .slc _ => Nat.le_refl _
  | .pair a b => Nat.le_trans (nleaf_pos a) (Nat.le_add_right _ _)

def DRep (w : World) (bad : Bad) : DLeaf → Value → Prop
  | .v x, v => v = x ∧ x.oneCell' = true
  | .dat t xs, v => CellsOk w bad (.slc t) xs [v]

theorem DRep.mono {w w' : World} {bad bad' : Bad} (h : ∀ a v, At w bad a v → At w' bad' a v) : ∀ (l : DLeaf) (v : Value), DRep w bad l v → DRep w' bad' l v
  | .v _, _, e => e
  | .dat t xs, v, e => CellsOk.mono h (.slc t) xs [v] e
theorem DRep.one {w : World} {bad : Bad} : ∀ (l : DLeaf) (v : Value), DRep w bad l v → v.oneCell' = true
  | .v x, v, ⟨e, h⟩ => by rw [e]; exact h
  | .dat t xs, v, e => CellsOk.one (.slc t) xs [v] e v (by simp)

theorem leaves_length : ∀ (t : Ty) (x : El t), (leaves t x).length = nleaf t
  | .int _, _ => rfl
  | .bool, _ => rfl
  | .str, _ => rfl
  | .slc _, _ => rfl
  | .pair a b, x => by simp only [leaves, List.length_append, leaves_length a, leaves_length b, nleaf]

theorem leaves_of {w : World} {bad : Bad} : ∀ (t : Ty) (x : El t) (cs : List Value), CellsOk w bad t x cs → F2 (DRep w bad) (leaves t x) cs
  | .int k, x, _, e => by rw [show _ = _ from e]; exact ⟨⟨rfl, rfl⟩, trivial⟩
  | .bool, x, _, e => by rw [show _ = _ from e]; exact ⟨⟨rfl, rfl⟩, trivial⟩
  | .str, x, _, e => by rw [show _ = _ from e]; exact ⟨⟨rfl, rfl⟩, trivial⟩
  | .slc t, xs, cs, h => by
    obtain ⟨A, c, es, e, h'⟩ := h
    subst e
    exact ⟨⟨A, c, es, rfl, h'⟩, trivial⟩
  | .pair a b, x, cs, ⟨c1, c2, e, h1, h2⟩ => by subst e; exact (leaves_of a _ _ h1).append (leaves_of b _ _ h2)

theorem castL_eq {t t' : Ty} {xs : List (El t)} {ys : List (El t')} (h : castL t t' xs = some ys) : ∃ e : t = t', ys = e ▸ xs := by
  unfold castL at h
  split at h
  · rename_i e
    subst e
    exact ⟨rfl, (Option.some.inj h).symm⟩
  · cases h

theorem ofLeaves_of {w : World} {bad : Bad} : ∀ (t : Ty) (l : List DLeaf) (x : El t) (r : List DLeaf) (cs : List Value), ofLeaves t l = some (x, r) → F2 (DRep w bad) l cs →
    ∃ c1 c2, cs = c1 ++ c2 ∧ CellsOk w bad t x c1 ∧ F2 (DRep w bad) r c2
  | .int k, l, x, r, cs, h, hf => by
    match l, cs, hf with
    | [], [], _ => simp [ofLeaves] at h
    | .dat _ _ :: _, _ :: _, _ => simp [ofLeaves] at h
    | .v v :: l, c :: cs, hf =>
      cases v <;> simp [ofLeaves] at h
      rename_i k' n
      obtain ⟨rfl, rfl, rfl⟩ := h
      exact ⟨[c], cs, rfl, by rw [hf.1.1]; rfl, hf.2⟩
  | .bool, l, x, r, cs, h, hf => by
    match l, cs, hf with
    | [], [], _ => simp [ofLeaves] at h
    | .dat _ _ :: _, _ :: _, _ => simp [ofLeaves] at h
    | .v v :: l, c :: cs, hf =>
      cases v <;> simp [ofLeaves] at h
      obtain ⟨rfl, rfl⟩ := h
      exact ⟨[c], cs, rfl, by rw [hf.1.1]; rfl, hf.2⟩
  | .str, l, x, r, cs, h, hf => by
    match l, cs, hf with
    | [], [], _ => simp [ofLeaves] at h
    | .dat _ _ :: _, _ :: _, _ => simp [ofLeaves] at h
    | .v v :: l, c :: cs, hf =>
      cases v <;> simp [ofLeaves] at h
      obtain ⟨rfl, rfl⟩ := h
      exact ⟨[c], cs, rfl, by rw [hf.1.1]; rfl, hf.2⟩
  | .slc t, l, x, r, cs, h, hf => by
    match l, cs, hf with
    | [], [], _ => simp [ofLeaves] at h
    | .dat t' xs :: l, c :: cs, hf =>
      simp only [ofLeaves] at h
      split at h
      · rename_i ys hy
        obtain ⟨e, hy'⟩ := castL_eq hy
        subst e
        simp at h
        obtain ⟨rfl, rfl⟩ := h
        exact ⟨[c], cs, rfl, by rw [hy']; exact hf.1, hf.2⟩
      · cases h
    | .v v :: l, c :: cs, hf =>
      have hv : v = .slice none 0 0 ∧ x = ([] : List (El t)) ∧ r = l := by
        cases v <;> try (simp [ofLeaves] at h; done)
        rename_i a n k
        cases a with
        | some _ => simp [ofLeaves] at h
        | none =>
          cases n with
          | succ _ => simp [ofLeaves] at h
          | zero =>
            cases k with
            | succ _ => simp [ofLeaves] at h
            | zero => simp [ofLeaves] at h; exact ⟨rfl, h.1, h.2.symm⟩
      obtain ⟨rfl, rfl, rfl⟩ := hv
      exact ⟨[c], cs, rfl, ⟨none, 0, [], by rw [hf.1.1]; rfl, by simp, rfl, .inl rfl⟩, hf.2⟩
  | .pair a b, l, x, r, cs, h, hf => by
    simp only [ofLeaves] at h
    split at h
    · rename_i y r1 h1
      split at h
      · rename_i z r2 h2
        simp at h
        obtain ⟨rfl, rfl⟩ := h
        obtain ⟨c1, c2, rfl, ha, hf2⟩ := ofLeaves_of a _ _ _ _ h1 hf
        obtain ⟨c3, c4, rfl, hb, hf3⟩ := ofLeaves_of b _ _ _ _ h2 hf2
        exact ⟨c1 ++ c3, c4, by simp, ⟨c1, c3, rfl, ha, hb⟩, hf3⟩
      · cases h
    · cases h

theorem elemsOf_of {w : World} {bad : Bad} (t : Ty) : ∀ (n : Nat) (l : List DLeaf) (xs : List (El t)) (cs : List Value), elemsOf t n l = some xs → F2 (DRep w bad) l cs → Rows (CellsOk w bad t) xs cs ∧ xs.length = n
  | 0, [], xs, cs, h, hf => by
    simp [elemsOf] at h
    subst h
    match cs, hf with
    | [], _ => exact ⟨rfl, rfl⟩
  | 0, _ :: _, xs, cs, h, hf => by simp [elemsOf] at h
  | n + 1, l, xs, cs, h, hf => by
    simp only [elemsOf] at h
    split at h
    · rename_i x r h1
      split at h
      · rename_i ys h2
        simp at h
        subst h
        obtain ⟨c1, c2, rfl, ha, hf2⟩ := ofLeaves_of t _ _ _ _ h1 hf
        obtain ⟨hr, hl⟩ := elemsOf_of t n r ys c2 h2 hf2
        exact ⟨⟨c1, c2, rfl, ha, hr⟩, by simp [hl]⟩
      · cases h
    · cases h

/-! ### Places and values -/
structure Interp where
  v : Nat → Value
  sz : Nat → Nat

def LRep (I : Interp) (dom : Nat → Prop) (w : World) (bad : Bad) : Leaf → Value → Prop
  | .d x, v => DRep w bad x v
  | .own r, v => dom r ∧ v = I.v r ∧ v.oneCell' = true
  | .bp b off, v => dom b ∧ ∃ g o, I.v b = .pointer (some ⟨g, o, none⟩) ∧ v = .pointer (some ⟨g, o + off, none⟩)
  | .ep r i off, v => dom r ∧ ∃ g n c, I.v r = .slice (some ⟨g, 0, none⟩) n c ∧ i < n ∧ v = .pointer (some ⟨g, i * I.sz r + off, none⟩)
  | .dp cs, v => ∃ a vs, v = .pointer (some a) ∧ F2 (DRep w bad) cs vs ∧ RowAt w bad a vs
  | .fn f caps, v => ∃ as : List Value, v = .func (.func f) #[] as.toArray ∧ F2 (fun b x => dom b ∧ ∃ g o, I.v b = .pointer (some ⟨g, o, none⟩) ∧ x = .pointer (some ⟨g, o, none⟩)) caps as

def AVRep (I : Interp) (dom : Nat → Prop) (w : World) (bad : Bad) : AV → Value → Prop
  | .lf l, v => LRep I dom w bad l v
  | .ag ls, v => ∃ cs : List Value, v = .agg cs.toArray ∧ F2 (LRep I dom w bad) ls cs
def VRep (I : Interp) (dom : Nat → Prop) (w : World) (bad : Bad) : Val → Value → Prop
  | .undef, _ => True
  | .one a, v => AVRep I dom w bad a v
  | .tup l, v => ∃ vs : List Value, v = .tuple vs.toArray ∧ F2 (AVRep I dom w bad) l vs

/-- What is kept from one interpretation and world to another. -/
structure Keep (I : Interp) (dom : Nat → Prop) (w : World) (bad : Bad) (I' : Interp) (dom' : Nat → Prop) (w' : World) (bad' : Bad) : Prop where
  hd : ∀ i, dom i → dom' i
  hv : ∀ i, dom i → I'.v i = I.v i
  hs : ∀ i, dom i → I'.sz i = I.sz i
  ha : ∀ a v, At w bad a v → At w' bad' a v

section
variable {I I' : Interp} {dom dom' : Nat → Prop} {w w' : World} {bad bad' : Bad}
theorem Keep.lrep (K : Keep I dom w bad I' dom' w' bad') : ∀ (l : Leaf) (v : Value), LRep I dom w bad l v → LRep I' dom' w' bad' l v
  | .d x, v, h => DRep.mono K.ha x v h
  | .own r, v, ⟨hd, e, h1⟩ => ⟨K.hd r hd, by rw [K.hv r hd]; exact e, h1⟩
  | .bp b off, v, ⟨hd, g, o, e, h⟩ => ⟨K.hd b hd, g, o, by rw [K.hv b hd]; exact e, h⟩
  | .ep r i off, v, ⟨hd, g, n, c, e, hi, h⟩ => ⟨K.hd r hd, g, n, c, by rw [K.hv r hd]; exact e, hi, by rw [K.hs r hd]; exact h⟩
  | .dp cs, v, ⟨a, vs, e, hf, hr⟩ => ⟨a, vs, e, hf.imp (fun l v => DRep.mono K.ha l v), fun i v hv => K.ha _ _ (hr i v hv)⟩
  | .fn f caps, v, ⟨as, e, hf⟩ => ⟨as, e, hf.imp (fun b x ⟨hd, g, o, e1, e2⟩ => ⟨K.hd b hd, g, o, by rw [K.hv b hd]; exact e1, e2⟩)⟩
theorem Keep.avrep (K : Keep I dom w bad I' dom' w' bad') : ∀ (l : AV) (v : Value), AVRep I dom w bad l v → AVRep I' dom' w' bad' l v
  | .lf l, v, h => K.lrep l v h
  | .ag ls, v, ⟨cs, e, hf⟩ => ⟨cs, e, hf.imp K.lrep⟩
theorem Keep.vrep (K : Keep I dom w bad I' dom' w' bad') : ∀ (l : Val) (v : Value), VRep I dom w bad l v → VRep I' dom' w' bad' l v
  | .undef, v, h => trivial
  | .one a, v, h => K.avrep a v h
  | .tup l, v, ⟨vs, e, hf⟩ => ⟨vs, e, hf.imp K.avrep⟩
theorem LRep.one : ∀ (l : Leaf) (v : Value), LRep I dom w bad l v → v.oneCell' = true
  | .d x, v, h => DRep.one x v h
  | .own r, v, ⟨hd, e, h1⟩ => h1
  | .bp b off, v, ⟨hd, g, o, e, h⟩ => by rw [h]; rfl
  | .ep r i off, v, ⟨hd, g, n, c, e, hi, h⟩ => by rw [h]; rfl
  | .dp cs, v, ⟨a, vs, e, _⟩ => by rw [e]; rfl
  | .fn f caps, v, ⟨as, e, _⟩ => by rw [e]; rfl
end

/-! ### Objects -/
def ObjOk (I : Interp) (dom : Nat → Prop) (w : World) (bad : Bad) (id : Nat) : Obj → Prop
  | .row e t xs => I.sz id = nleaf t ∧ ∃ cells, Rows (CellsOk w bad t) xs cells ∧ w.ownsRow 0 e (nleaf t) (I.v id) xs.length cells
  | .frow t xs => I.sz id = nleaf t ∧ CellsOk w bad (.slc t) xs [I.v id]
  | .box ls => 0 < ls.length ∧ ∃ g o c e vs, I.v id = .pointer (some ⟨g, o, none⟩) ∧ w.heap[g]? = some (.cells c e (0, 0)) ∧ F2 (LRep I dom w bad) ls vs ∧ ∀ i v, vs[i]? = some v → c[o + i]? = some v
  | .fbox ds => ∃ g o vs, I.v id = .pointer (some ⟨g, o, none⟩) ∧ F2 (DRep w bad) ds vs ∧ RowAt w bad ⟨g, o, none⟩ vs
  | .gone => True

def cellsOf (I : Interp) (id : Nat) : Obj → Bad
  | .row _ _ _, g, _ => ∃ n c, I.v id = .slice (some ⟨g, 0, none⟩) n c
  | .box ls, g, o => ∃ o0, I.v id = .pointer (some ⟨g, o0, none⟩) ∧ o0 ≤ o ∧ o < o0 + ls.length
  | _, _, _ => False

def MutOf (I : Interp) (objs : Nat → Option Obj) : Bad := fun g o => ∃ id ob, objs id = some ob ∧ cellsOf I id ob g o
def Dom (objs : Nat → Option Obj) : Nat → Prop := fun i => (objs i).isSome = true

/-! ### Frames -/
structure Fr (m : Bad) (w w' : World) : Prop where
  os : w'.os = w.os
  tape : w'.tape = w.tape
  output : w'.output = w.output
  size : w.heap.size ≤ w'.heap.size
  block : ∀ g, g < w.heap.size → (∀ o, m g o) ∨ w'.heap[g]? = w.heap[g]? ∨
    ∃ c c' e f, w.heap[g]? = some (.cells c e f) ∧ w'.heap[g]? = some (.cells c' e f) ∧ c'.size = c.size ∧ ∀ o : Nat, ¬ m g o → c'[o]? = c[o]?

theorem Fr.refl (m : Bad) (w : World) : Fr m w w := ⟨rfl, rfl, rfl, Nat.le_refl _, fun _ _ => .inr (.inl rfl)⟩
theorem Fr.trans {m m' : Bad} {a b c : World} (h : Fr m a b) (h' : Fr m' b c) (hm : ∀ g o, m' g o → m g o ∨ a.heap.size ≤ g) : Fr m a c := by
  refine ⟨h'.os.trans h.os, h'.tape.trans h.tape, h'.output.trans h.output, Nat.le_trans h.size h'.size, fun g hg => ?_⟩
  have hm' : ∀ o, m' g o → m g o := fun o ho => (hm g o ho).resolve_right (by omega)
  rcases h.block g hg with h1 | h1 | ⟨c1, c2, e, f, h1, h2, h3, h4⟩
  · exact .inl h1
  · rcases h'.block g (Nat.lt_of_lt_of_le hg h.size) with k1 | k1 | ⟨d1, d2, e', f', k1, k2, k3, k4⟩
    · exact .inl fun o => hm' o (k1 o)
    · exact .inr (.inl (k1.trans h1))
    · exact .inr (.inr ⟨d1, d2, e', f', h1 ▸ k1, k2, k3, fun o ho => k4 o (fun hh => ho (hm' o hh))⟩)
  · rcases h'.block g (Nat.lt_of_lt_of_le hg h.size) with k1 | k1 | ⟨d1, d2, e', f', k1, k2, k3, k4⟩
    · exact .inl fun o => hm' o (k1 o)
    · exact .inr (.inr ⟨c1, c2, e, f, h1, k1.trans h2, h3, h4⟩)
    · rw [h2] at k1
      injection k1 with k1
      injection k1 with ka kb kc
      subst ka; subst kb; subst kc
      exact .inr (.inr ⟨c1, d2, e, f, h1, k2, k3.trans h3, fun o ho => (k4 o (fun hh => ho (hm' o hh))).trans (h4 o ho)⟩)
theorem Fr.mono {m m' : Bad} {a b : World} (h : Fr m a b) (hm : ∀ g o, m g o → m' g o) : Fr m' a b := by
  refine ⟨h.os, h.tape, h.output, h.size, fun g hg => ?_⟩
  rcases h.block g hg with h1 | h1 | ⟨c1, c2, e, f, h1, h2, h3, h4⟩
  · exact .inl fun o => hm g o (h1 o)
  · exact .inr (.inl h1)
  · exact .inr (.inr ⟨c1, c2, e, f, h1, h2, h3, fun o ho => h4 o (fun hh => ho (hm g o hh))⟩)

theorem cell_some {w : World} {a : Addr} {v : Value} (h : w.cell? a = some v) : ∃ c e f, w.heap[a.block]? = some (.cells c e f) ∧ a.spot = none ∧ c[a.off]? = some v := by
  unfold World.cell? at h
  split at h
  · rename_i c e f hb
    cases hs : a.spot with
    | none => exact ⟨c, e, f, hb, rfl, by simpa [hs] using h⟩
    | some _ => simp [hs] at h
  · cases h
theorem cell_of {w : World} {g o : Nat} {c : Array Value} {e : TypeId} {f : Nat × Nat} {v : Value} (h : w.heap[g]? = some (.cells c e f)) (hc : c[o]? = some v) : w.cell? ⟨g, o, none⟩ = some v := by
  simp [World.cell?, h, hc]

theorem Fr.cell {m : Bad} {w w' : World} (h : Fr m w w') {a : Addr} {v : Value} (hc : w.cell? a = some v) (hm : ¬ m a.block a.off) : w'.cell? a = some v := by
  obtain ⟨c, e, f, hb, hs, hv⟩ := cell_some hc
  rcases h.block a.block (World.block_lt_of_cell? w a hc) with h1 | h1 | ⟨c1, c2, e', f', h1, h2, h3, h4⟩
  · exact absurd (h1 a.off) hm
  · rw [← hc]; exact World.cell?_of_block h1
  · rw [hb] at h1
    injection h1 with h1
    injection h1 with ka kb kc
    subst ka; subst kb; subst kc
    simp [World.cell?, h2, hs, h4 a.off hm, hv]

theorem Fr.at_ {m : Bad} {w w' : World} {bad bad' : Bad} (h : Fr m w w') (hm : ∀ g o, m g o → bad g o) (hb : ∀ g o, bad' g o → bad g o ∨ w.heap.size ≤ g) : ∀ a v, At w bad a v → At w' bad' a v := by
  intro a v ⟨hc, hn⟩
  refine ⟨h.cell hc (fun hh => hn (hm _ _ hh)), fun hh => ?_⟩
  rcases hb _ _ hh with h1 | h1
  · exact hn h1
  · have := World.block_lt_of_cell? w a hc
    omega

/-! ### The relation of a state and a world -/
structure Ctx where
  E : Env
  w0 : World
  mut0 : Bad
  ban : Bad
  v0 : Nat → Value
  sz0 : Nat → Nat

def badOf (C : Ctx) (I : Interp) (objs : Nat → Option Obj) : Bad := fun g o => C.ban g o ∨ MutOf I objs g o

structure WRel (C : Ctx) (I : Interp) (objs : Nat → Option Obj) (w : World) : Prop where
  ok : ∀ id ob, objs id = some ob → ObjOk I (Dom objs) w (badOf C I objs) id ob
  lt : ∀ g o, MutOf I objs g o → g < w.heap.size
  disj : ∀ id id' ob ob' g o, objs id = some ob → objs id' = some ob' → cellsOf I id ob g o → cellsOf I id' ob' g o → id = id'
  globs : ∀ g cs, C.E.glob g = some cs → LRep I (Dom objs) w (badOf C I objs) (.dp cs) (.pointer (some ⟨g, 0, none⟩))
  frame : Fr C.mut0 C.w0 w
  within : ∀ g o, MutOf I objs g o → C.mut0 g o ∨ C.w0.heap.size ≤ g
  noban : ∀ g o, MutOf I objs g o → ¬ C.ban g o
  banlt : ∀ g o, C.ban g o → g < C.w0.heap.size
  base : ∀ k, k < C.E.n0 → Dom objs k ∧ I.v k = C.v0 k ∧ I.sz k = C.sz0 k

theorem ownsRow_keep {m : Bad} {w w' : World} {e : TypeId} {size n : Nat} {v : Value} {xs : List Value} (h : w.ownsRow 0 e size v n xs) (F : Fr m w w') (hm : ∀ g c, v = .slice (some ⟨g, 0, none⟩) n c → ∀ o, ¬ m g o) : w'.ownsRow 0 e size v n xs := by
  refine ⟨h.1, ?_⟩
  rcases h.2 with h2 | ⟨g, cap, cur, rfl, hb, hh, rest⟩
  · exact .inl h2
  · refine .inr ⟨g, cap, cur, rfl, hb, ?_, rest⟩
    have hm' := hm g cap rfl
    rcases F.block g (Array.getElem?_eq_some_iff.1 hh).1 with h1 | h1 | ⟨c1, c2, e', f', h1, h2, h3, h4⟩
    · exact absurd (h1 0) (hm' 0)
    · rw [h1]; exact hh
    · rw [hh] at h1
      injection h1 with h1
      injection h1 with ka kb kc
      subst ka; subst kb; subst kc
      rw [h2]
      have : c2 = cur := by
        apply Array.ext_getElem?
        intro i
        exact h4 i (hm' i)
      rw [this]

theorem ownsRow_shape {w : World} {e : TypeId} {size n : Nat} {v : Value} {xs : List Value} (h : w.ownsRow 0 e size v n xs) : (v = .slice none 0 0 ∧ n = 0) ∨ ∃ g c, v = .slice (some ⟨g, 0, none⟩) n c ∧ g < w.heap.size := by
  rcases h.2 with h2 | ⟨g, cap, cur, rfl, hb, hh, rest⟩
  · exact .inl h2
  · exact .inr ⟨g, cap, rfl, (Array.getElem?_eq_some_iff.1 hh).1⟩

/-- An object that isn't written stays what it was. -/
theorem ObjOk.keep {I I' : Interp} {dom dom' : Nat → Prop} {w w' : World} {bad bad' m : Bad} (K : Keep I dom w bad I' dom' w' bad') (F : Fr m w w') (id : Nat) (ob : Obj) (hd : dom id)
    (hm : ∀ g o, cellsOf I id ob g o → ¬ m g o) (h : ObjOk I dom w bad id ob) : ObjOk I' dom' w' bad' id ob := by
  cases ob with
  | row e t xs =>
    obtain ⟨hs, cells, hr, ho⟩ := h
    refine ⟨by rw [K.hs id hd]; exact hs, cells, hr.imp (fun x c => CellsOk.mono K.ha t x c), ?_⟩
    rw [K.hv id hd]
    exact ownsRow_keep ho F fun g c hv o => hm g o ⟨_, c, hv⟩
  | frow t xs => exact ⟨by rw [K.hs id hd]; exact h.1, by rw [K.hv id hd]; exact CellsOk.mono K.ha (.slc t) xs _ h.2⟩
  | box ls =>
    obtain ⟨h0, g, o, c, e, vs, hv, hh, hf, hc⟩ := h
    have hlen := hf.length
    refine ⟨h0, ?_⟩
    rcases F.block g (Array.getElem?_eq_some_iff.1 hh).1 with h1 | h1 | ⟨c1, c2, e', f', h1, h2, h3, h4⟩
    · exact absurd (h1 o) (hm g o ⟨o, hv, Nat.le_refl _, by omega⟩)
    · exact ⟨g, o, c, e, vs, by rw [K.hv id hd]; exact hv, by rw [h1]; exact hh, hf.imp K.lrep, hc⟩
    · rw [hh] at h1
      injection h1 with h1
      injection h1 with ka kb kc
      subst ka; subst kb; subst kc
      refine ⟨g, o, c2, e, vs, by rw [K.hv id hd]; exact hv, h2, hf.imp K.lrep, fun i v hi => ?_⟩
      have hil : i < ls.length := by rw [hlen]; exact (List.getElem?_eq_some_iff.1 hi).1
      rw [h4 (o + i) (hm g (o + i) ⟨o, hv, by omega, by omega⟩)]
      exact hc i v hi
  | fbox ds =>
    obtain ⟨g, o, vs, hv, hf, hr⟩ := h
    exact ⟨g, o, vs, by rw [K.hv id hd]; exact hv, hf.imp (fun l v => DRep.mono K.ha l v), fun i v hi => K.ha _ _ (hr i v hi)⟩
  | gone => trivial

end Go.Abs
