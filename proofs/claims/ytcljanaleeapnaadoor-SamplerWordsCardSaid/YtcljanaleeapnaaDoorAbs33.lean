/- Tables of procedures. -/
import Derived.Test.YtcljanaleeapnaaDoorAbs32
set_option linter.unusedVariables false
set_option linter.unusedSimpArgs false
namespace Go.Abs
open Go
universe u

/-- A term that nobody looks into. -/
noncomputable def lock {α : Sort u} (x : α) : α := Classical.choose (⟨x, rfl⟩ : ∃ y, y = x)
theorem lock_eq {α : Sort u} (x : α) : lock x = x := Classical.choose_spec (⟨x, rfl⟩ : ∃ y, y = x)

def procTab : List (Nat × Proc) → Nat → Option Proc
  | [], _ => none
  | (i, p) :: r, n => bif Nat.beq i n then some p else procTab r n
def lprocTab : List (Nat × LProc) → Nat → Option LProc
  | [], _ => none
  | (i, p) :: r, n => bif Nat.beq i n then some p else lprocTab r n
def tyTab : List (Nat × Ty) → Nat → Option Ty
  | [], _ => none
  | (i, p) :: r, n => bif Nat.beq i n then some p else tyTab r n
def globTab : List (Nat × List DLeaf) → Nat → Option (List DLeaf)
  | [], _ => none
  | (i, p) :: r, n => bif Nat.beq i n then some p else globTab r n

theorem procTab_of {P : Program} {glob : Nat → Option (List DLeaf)} : ∀ {l : List (Nat × Proc)}, (∀ q ∈ l, ProcSound P glob q.1 q.2) → ∀ f p, procTab l f = some p → ProcSound P glob f p
  | [], _, f, p, h => by cases h
  | (i, q) :: r, hl, f, p, h => by
    simp only [procTab] at h
    cases hb : Nat.beq i f with
    | true =>
      rw [hb] at h
      simp only [cond_true, Option.some.injEq] at h
      have := Nat.eq_of_beq_eq_true hb
      subst this
      subst h
      exact hl (i, q) (by simp)
    | false =>
      rw [hb] at h
      exact procTab_of (l := r) (fun q hq => hl q (List.mem_cons_of_mem _ hq)) f p h

/-- Every procedure of the table is sound. -/
def AllSound (P : Program) (glob : Nat → Option (List DLeaf)) : List (Nat × Proc) → Prop
  | [] => True
  | q :: r => ProcSound P glob q.1 q.2 ∧ AllSound P glob r
theorem AllSound.ok {E : Env} {l : List (Nat × Proc)} (hm : E.P.follows .mixedOrders = true) (he : E.proc = procTab l) (h : AllSound E.P E.glob l) : ProcsOk E := by
  have key : ∀ {l : List (Nat × Proc)}, AllSound E.P E.glob l → ∀ q ∈ l, ProcSound E.P E.glob q.1 q.2 := by
    intro l
    induction l with
    | nil => intro _ q hq; simp at hq
    | cons a r ih =>
      intro h q hq
      rcases List.mem_cons.1 hq with rfl | hq
      · exact h.1
      · exact ih h.2 q hq
  refine ⟨hm, fun f p hp => ?_⟩
  rw [he] at hp
  exact procTab_of (key h) f p hp

theorem sub_of {E : Env} {n : Nat} {c : Code} {p : LProc} (hp : E.lproc n = some p) (h : LProcSound E c p) : SubsOk E c (.sub n) := by
  have : ∀ q, E.lproc n = some q → LProcSound E c q := by
    intro q hq
    rw [hp] at hq
    obtain rfl := Option.some.inj hq
    exact h
  cases c <;> exact this
end Go.Abs
