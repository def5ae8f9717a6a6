/- A reading of loaded code as plain functions, and its proof: part A. -/
import GoSem.Claims
import Derived.Laws.Sem
import Derived.Calls
import Derived.Laws.AppendOwn
import Derived.Laws.Cells
import Derived.Below
import Derived.Laws.StructEq
import Derived.Laws.Small
import Derived.Laws.MakeOwn
import Derived.Laws.Slices
set_option linter.unusedVariables false
set_option linter.unusedSimpArgs false
/- A pure reading of the loaded code: typed data, objects of the call's own, and what each operation makes of them. No world, no memory: definitions alone. -/
namespace Go.Abs
open Go
universe u

/-- A term that nobody looks into. -/
noncomputable def lock {α : Sort u} (x : α) : α := Classical.choose (⟨x, rfl⟩ : ∃ y, y = x)
theorem lock_eq {α : Sort u} (x : α) : lock x = x := Classical.choose_spec (⟨x, rfl⟩ : ∃ y, y = x)


/-! ### Typed data -/
inductive Ty where
  | int (k : IntKind) | bool | str | slc (t : Ty) | pair (a b : Ty)
  deriving DecidableEq, Inhabited

@[reducible] def El : Ty → Type
  | .int _ => Int
  | .bool => Bool
  | .str => ByteArray
  | .slc t => List (El t)
  | .pair a b => El a × El b

def dflt : (t : Ty) → El t
  | .int _ => (0 : Int)
  | .bool => false
  | .str => (⟨#[]⟩ : ByteArray)
  | .slc t => ([] : List (El t))
  | .pair a b => (dflt a, dflt b)

def nleaf : Ty → Nat
  | .pair a b => nleaf a + nleaf b
  | _ => 1

/-- A leaf of data: one cell. 'v': the cell itself; 'dat': a slice that is read. -/
inductive DLeaf where
  | v (x : Value)
  | dat (t : Ty) (xs : List (El t))

def leaves : (t : Ty) → El t → List DLeaf
  | .int k, x => [.v (.int k x)]
  | .bool, x => [.v (.bool x)]
  | .str, x => [.v (.string x)]
  | .slc t, x => [.dat t x]
  | .pair a b, x => leaves a x.1 ++ leaves b x.2

def castL (t t' : Ty) (xs : List (El t)) : Option (List (El t')) :=
  if h : t = t' then some (h ▸ xs) else none

def castM (t t' : Ty) (xs : List (ByteArray × El t)) : Option (List (ByteArray × El t')) :=
  if h : t = t' then some (h ▸ xs) else none

/-- Data out of its leaves; what is left. -/
def ofLeaves : (t : Ty) → List DLeaf → Option (El t × List DLeaf)
  | .int k, .v (.int k' n) :: r => if k = k' then some (n, r) else none
  | .bool, .v (.bool b) :: r => some (b, r)
  | .str, .v (.string s) :: r => some (s, r)
  | .slc t, .dat t' xs :: r => match castL t' t xs with | some ys => some (ys, r) | none => none
  | .slc t, .v (.slice none 0 0) :: r => some (([] : List (El t)), r)
  | .pair a b, l =>
    match ofLeaves a l with
    | some (x, r) => match ofLeaves b r with
      | some (y, r') => some ((x, y), r')
      | none => none
    | none => none
  | _, _ => none

/-- A leaf of the call: data, a row of one's own, places. -/
inductive Leaf where
  | d (x : DLeaf)
  | own (r : Nat)                  -- the slice that is row r
  | bp (b off : Nat)               -- an address in box b
  | ep (r : Nat) (i off : Nat)     -- an address in element i of row r
  | dp (cs : List DLeaf)           -- an address of cells that stay
  | fn (f : FuncId) (caps : List Nat)   -- a function, and the boxes that it has captured
  | mv (f : FuncId) (b : Nat)           -- a method, with the box that it is bound to
  | ub (q : Bool) (n : Nat)             -- a bool that is q where n is not 0, and else unknown

inductive AV where
  | lf (l : Leaf)
  | ag (ls : List Leaf)

inductive Val where
  | undef
  | skip                           -- what a passed-over operation leaves
  | one (a : AV)
  | tup (l : List AV)
instance : Inhabited Val := ⟨.undef⟩

inductive Obj where
  | row (e : TypeId) (t : Ty) (xs : List (El t))     -- a row that may be written
  | frow (t : Ty) (xs : List (El t))    -- a row that stays as it is
  | box (ls : List Leaf)
  | fbox (ls : List DLeaf)              -- a box that stays as it is
  | view (r lo n : Nat)                 -- a part of row r, to be copied from or to
  | iter (s : ByteArray) (pos : Int)    -- where the ranging over a string is
  | smap (t : Ty) (m : List (ByteArray × El t))   -- a map with texts as keys
  | gone

structure St where
  slots : Nat → Val
  objs : Nat → Option Obj
  next : Nat

abbrev sc (x : Value) : Val := .one (.lf (.d (.v x)))
abbrev lf1 (l : Leaf) : Val := .one (.lf l)
abbrev dv (x : Value) : Leaf := .d (.v x)

def upd {α : Type} (f : Nat → α) (i : Nat) (x : α) : Nat → α := fun j => bif Nat.beq j i then x else f j

/-! ### What an operation comes to -/
inductive Eff (α : Type) : Type 1 where
  | ret (a : α)
  | fail
  | grd (c : Bool) (k : Eff α)
  | br (c : Bool) (x y : Eff α)
  | call (I R : Type) (F : I → Option R) (i : I) (k : R → Eff α)

def Eff.cps {α ρ : Type} : Eff α → (α → Option ρ) → Option ρ
  | .ret a, k => k a
  | .fail, _ => none
  | .grd c e, k => bif c then e.cps k else none
  | .br c x y, k => bif c then x.cps k else y.cps k
  | .call _ _ F i f, k => (F i).bind fun r => (f r).cps k

def Eff.den {α : Type} : Eff α → Option α
  | .ret a => some a
  | .fail => none
  | .grd c e => bif c then e.den else none
  | .br c x y => bif c then x.den else y.den
  | .call _ _ F i f => (F i).bind fun r => (f r).den

theorem Eff.cps_den {α ρ : Type} (e : Eff α) (k : α → Option ρ) : e.cps k = e.den.bind k := by
  induction e with
  | ret a => rfl
  | fail => rfl
  | grd c e ih => cases c <;> simp [Eff.cps, Eff.den, ih]
  | br c x y ihx ihy => cases c <;> simp [Eff.cps, Eff.den, ihx, ihy]
  | call I R F i f ih =>
    simp only [Eff.cps, Eff.den]
    cases F i <;> simp [ih]

structure Out where
  val : Val
  rd : List Nat
  wr : List (Nat × Obj)

abbrev ret1 (v : Val) : Eff Out := .ret ⟨v, [], []⟩

open Classical in
/-- Either way it comes to the same. -/
noncomputable def ambO {ρ : Type} (x y : Option ρ) : Option ρ := if x = y then x else none
theorem ambO_of {ρ : Type} {x y : Option ρ} {r : ρ} (h : ambO x y = some r) : x = some r ∧ y = some r := by
  unfold ambO at h
  split at h
  · rename_i e; exact ⟨h, e ▸ h⟩
  · cases h
theorem ambO_same {ρ : Type} (x : Option ρ) : ambO x x = x := by simp [ambO]

/-! ### Shapes: how a state lies, but for its data -/
inductive LS where
  | sc (t : Ty)                -- a number, a bool or a string
  | dat (t : Ty)               -- a slice that is read
  | own (o : Nat)
  | bp (o off : Nat)
  | cst (x : Value)
  | fn (f : FuncId) (caps : List Nat)
  | mv (f : FuncId) (o : Nat)

inductive AS where
  | lf (l : LS)
  | ag (ls : List LS)

inductive OS where
  | row (e : TypeId) (t : Ty)
  | box (ls : List LS)
  | iter
  | smap (t : Ty)
  | dead

structure Shape where
  slots : List (Nat × AS)
  objs : List OS

@[reducible] def LS.T : LS → Type
  | .sc t => El t
  | .dat t => List (El t)
  | _ => Unit
@[reducible] def TLs : List LS → Type
  | [] => Unit
  | l :: ls => l.T × TLs ls
@[reducible] def AS.T : AS → Type
  | .lf l => l.T
  | .ag ls => TLs ls
@[reducible] def TSlots : List (Nat × AS) → Type
  | [] => Unit
  | x :: xs => x.2.T × TSlots xs
@[reducible] def OS.T : OS → Type
  | .row _ t => List (El t)
  | .box ls => TLs ls
  | .iter => ByteArray × Int
  | .smap t => List (ByteArray × El t)
  | .dead => Unit
@[reducible] def TObjs : List OS → Type
  | [] => Unit
  | o :: os => o.T × TObjs os
@[reducible] def Tup (S : Shape) : Type := TSlots S.slots × TObjs S.objs

/-! the state out of a shape and its data; 'ids': the objects' numbers -/
def scLeaf : (t : Ty) → El t → DLeaf
  | .int k, x => .v (.int k x)
  | .bool, x => .v (.bool x)
  | .str, x => .v (.string x)
  | .slc t, x => .dat t x
  | .pair _ _, _ => .v (.tuple #[])

def LS.make (ids : Nat → Nat) : (l : LS) → l.T → Leaf
  | .sc t, x => .d (scLeaf t x)
  | .dat t, x => .d (.dat t x)
  | .own o, _ => .own (ids o)
  | .bp o off, _ => .bp (ids o) off
  | .cst v, _ => .d (.v v)
  | .fn f caps, _ => .fn f (caps.map ids)
  | .mv f o, _ => .mv f (ids o)
def makeLs (ids : Nat → Nat) : (ls : List LS) → TLs ls → List Leaf
  | [], _ => []
  | l :: ls, x => l.make ids x.1 :: makeLs ids ls x.2
def AS.make (ids : Nat → Nat) : (a : AS) → a.T → AV
  | .lf l, x => .lf (l.make ids x)
  | .ag ls, x => .ag (makeLs ids ls x)
def makeSlots (ids : Nat → Nat) : (l : List (Nat × AS)) → TSlots l → List (Nat × AV)
  | [], _ => []
  | s :: ss, x => (s.1, s.2.make ids x.1) :: makeSlots ids ss x.2
def OS.make (ids : Nat → Nat) : (o : OS) → o.T → Option Obj
  | .row e t, x => some (.row e t x)
  | .box ls, x => some (.box (makeLs ids ls x))
  | .iter, x => some (.iter x.1 x.2)
  | .smap t, x => some (.smap t x)
  | .dead, _ => none
def makeObjs (ids : Nat → Nat) : (l : List OS) → TObjs l → List (Option Obj)
  | [], _ => []
  | o :: os, x => o.make ids x.1 :: makeObjs ids os x.2

def lookupSlot : List (Nat × AV) → Nat → Val
  | [], _ => .undef
  | (j, a) :: r, i => bif Nat.beq i j then .one a else lookupSlot r i
def getO {α : Type} : List (Option α) → Nat → Option α
  | [], _ => none
  | x :: _, 0 => x
  | _ :: r, i + 1 => getO r i

def ofC (S : Shape) (x : Tup S) : St :=
  ⟨lookupSlot (makeSlots id S.slots x.1), getO (makeObjs id S.objs x.2), S.objs.length⟩

/-! the data out of a state that has a shape -/
/-- What has been met: the objects (index in the shape; number in the state, 'none': a nil slice taken for a row); rows that are told as data. -/
structure Met where
  ids : List (Nat × Option Nat)
  seen : List Nat

def findId (o : Nat) : List (Nat × Option Nat) → Option (Option Nat)
  | [] => none
  | (a, b) :: r => bif Nat.beq a o then some b else findId o r
def isId (n : Nat) : Option Nat → Bool
  | some m => Nat.beq m n
  | none => false
def Met.tie (m : Met) (o n : Nat) : Option Met :=
  match findId o m.ids with
  | some x => bif isId n x then some m else none
  | none => bif m.ids.any (fun p => isId n p.2) then none else some { m with ids := (o, some n) :: m.ids }
def Met.tieNil (m : Met) (o : Nat) : Option Met :=
  match findId o m.ids with
  | some _ => none
  | none => some { m with ids := (o, none) :: m.ids }

/-- A row's (or a frozen row's) data. -/
def rowData (get : Nat → Option Obj) (r : Nat) (t : Ty) : Option (List (El t)) :=
  match get r with
  | some (.row _ t' xs) => castL t' t xs
  | some (.frow t' xs) => castL t' t xs
  | _ => none

def isNilSlice : Value → Bool
  | .slice none 0 0 => true
  | _ => false
def nilKind : Value → Option Nat
  | .slice none 0 0 => some 0
  | .pointer none => some 1
  | .nilIface => some 2
  | .nilFunc => some 3
  | .map none => some 4
  | _ => none
def sameNil (a b : Value) : Bool :=
  match nilKind a, nilKind b with
  | some i, some j => Nat.beq i j
  | _, _ => false

def elOfD (t : Ty) (l : DLeaf) : Option (El t) :=
  match ofLeaves t [l] with
  | some (x, []) => some x
  | _ => none

def tieAll (m : Met) : List Nat → List Nat → Option Met
  | [], [] => some m
  | o :: os, n :: ns => match m.tie o n with | some m' => tieAll m' os ns | none => none
  | _, _ => none

def single : Ty → Bool
  | .pair _ _ => false
  | _ => true

def LS.take (get : Nat → Option Obj) (l : LS) (a : Leaf) (m : Met) : Option (l.T × Met) :=
  match l, a with
  | .sc t, .d x => bif single t then (match elOfD t x with | some y => some (y, m) | none => none) else none
  | .dat t, .d x => (match elOfD (.slc t) x with | some y => some (y, m) | none => none)
  | .dat t, .own n => (match rowData get n t with | some y => some (y, { m with seen := n :: m.seen }) | none => none)
  | .own o, .own n => (match m.tie o n with | some m' => some ((), m') | none => none)
  | .own o, .d (.v x) => bif isNilSlice x then (match m.tieNil o with | some m' => some ((), m') | none => none) else none
  | .bp o off, .bp n off' => bif Nat.beq off off' then (match m.tie o n with | some m' => some ((), m') | none => none) else none
  | .cst v, .d (.v x) => bif sameNil v x then some ((), m) else none
  | .fn f caps, .fn g ns => bif Nat.beq f g then (match tieAll m caps ns with | some m' => some ((), m') | none => none) else none
  | .mv f o, .mv g n => bif Nat.beq f g then (match m.tie o n with | some m' => some ((), m') | none => none) else none
  | _, _ => none
def takeLs (get : Nat → Option Obj) : (ls : List LS) → List Leaf → Met → Option (TLs ls × Met)
  | [], [], m => some ((), m)
  | l :: ls, a :: as, m =>
    match l.take get a m with
    | some (x, m') => (match takeLs get ls as m' with | some (y, m'') => some ((x, y), m'') | none => none)
    | none => none
  | _, _, _ => none
def AS.take (get : Nat → Option Obj) (s : AS) (a : AV) (m : Met) : Option (s.T × Met) :=
  match s, a with
  | .lf l, .lf a => l.take get a m
  | .ag ls, .ag as => takeLs get ls as m
  | _, _ => none
def takeSlots (get : Nat → Option Obj) (sl : Nat → Val) : (l : List (Nat × AS)) → Met → Option (TSlots l × Met)
  | [], m => some ((), m)
  | s :: ss, m =>
    match sl s.1 with
    | .one a =>
      match s.2.take get a m with
      | some (x, m') => (match takeSlots get sl ss m' with | some (y, m'') => some ((x, y), m'') | none => none)
      | none => none
    | _ => none
def OS.take (get : Nat → Option Obj) (s : OS) (i : Option (Option Nat)) (m : Met) : Option (s.T × Met) :=
  match s, i with
  | .row _ _, some none => some ([], m)
  | .row e t, some (some n) =>
    match get n with
    | some (.row e' t' xs) => bif Nat.beq e e' then (match castL t' t xs with | some y => some (y, m) | none => none) else none
    | _ => none
  | .box ls, some (some n) =>
    match get n with
    | some (.box as) => takeLs get ls as m
    | _ => none
  | .iter, some (some n) =>
    match get n with
    | some (.iter s p) => some ((s, p), m)
    | _ => none
  | .smap t, some (some n) =>
    match get n with
    | some (.smap t' xs) => (match castM t' t xs with | some y => some (y, m) | none => none)
    | _ => none
  | .dead, _ => some ((), m)
  | _, _ => none
def takeObjs (get : Nat → Option Obj) : (l : List OS) → (o : Nat) → Met → Option (TObjs l × Met)
  | [], _, m => some ((), m)
  | s :: ss, o, m =>
    match s.take get (findId o m.ids) m with
    | some (x, m') => (match takeObjs get ss (o + 1) m' with | some (y, m'') => some ((x, y), m'') | none => none)
    | none => none

/-- No row is both told as data and held as a row of one's own. -/
def Met.apart (m : Met) : Bool := m.seen.all fun n => !(m.ids.any fun p => isId n p.2)
def metBase (n0 : Nat) : List (Nat × Option Nat) :=
  match n0 with
  | 0 => []
  | n + 1 => (n, some n) :: metBase n

/-- Every object that was met is there in the shape. -/
def liveO : List OS → Nat → Bool
  | [], _ => false
  | .dead :: _, 0 => false
  | _ :: _, 0 => true
  | _ :: r, i + 1 => liveO r i
def allLive (l : List OS) : Nat → Bool
  | 0 => true
  | n + 1 => liveO l n && allLive l n
def Met.live (m : Met) (l : List OS) : Bool := m.ids.all fun p => liveO l p.1

def takeS (S : Shape) (n0 : Nat) (get : Nat → Option Obj) (sl : Nat → Val) : Option (Tup S × Met) :=
  match takeSlots get sl S.slots ⟨metBase n0, []⟩ with
  | some (x, m) =>
    match takeObjs get S.objs 0 m with
    | some (y, m') => bif m'.apart && m'.live S.objs then some ((x, y), m') else none
    | none => none
  | none => none

/-! ### Procedures: functions, and pieces of code -/
inductive Ex where
  | nrm | ex (id : Nat) | rt

/-- A function: what it takes (parameters in the slots 0, 1, ..; the first 'n0' objects stay the caller's), what it hands back (results in the slots 0, 1, ..). -/
structure Proc where
  nargs : Nat
  inS : Shape
  outS : Shape
  n0 : Nat
  R : Type
  F : Tup inS → Option R
  post : R → Tup outS
  un : Tup outS → R

/-- A way out of a piece. -/
structure Way where
  ex : Ex
  S : Shape
  R : Type
  post : R → Tup S
  un : Tup S → R

@[reducible] def SumT : List Way → Type
  | [] => Empty
  | [a] => a.R
  | a :: b :: r => a.R ⊕ SumT (b :: r)
structure LProc where
  inS : Shape
  outs : List Way
  F : Tup inS → Option (SumT outs)

/-- Where a piece ends. -/
def outK {ρ : Type} : (l : List Way) → SumT l → (Ex → St → Option ρ) → Option ρ
  | [], x, _ => x.elim
  | [a], x, k => k a.ex (ofC a.S (a.post x))
  | a :: b :: r, x, k => Sum.elim (fun y => k a.ex (ofC a.S (a.post y))) (fun z => outK (b :: r) z k) x

structure Env where
  P : Program
  ty : TypeId → Option Ty
  glob : Nat → Option (List DLeaf)
  proc : FuncId → Option Proc
  lproc : Nat → Option LProc
  n0 : Nat
  ntmps : Nat
  view : Nat → Nat := fun _ => 0   -- how a cut of one's own row is taken, by the temporary: 0 data, 1 a view, 2 the row itself, cut

end Go.Abs

/- What each operation of the loaded code makes of typed data and objects: definitions alone. -/
namespace Go.Abs
open Go

/-! ### Numbers, strings -/
def ibits (op : BinOp) (k : IntKind) (x y : Int) : Int :=
  let a := BitVec.ofInt k.bits x
  let b := BitVec.ofInt k.bits y
  match op with
  | .and => k.wrap (a &&& b).toNat
  | .or => k.wrap (a ||| b).toNat
  | .xor => k.wrap (a ^^^ b).toNat
  | _ => k.wrap (a &&& ~~~b).toNat

def shlI (k : IntKind) (x y : Int) : Int := k.wrap (x * 2 ^ (min y.toNat k.bits))
def shrI (k : IntKind) (x y : Int) : Int := x.fdiv (2 ^ (min y.toNat k.bits))
def eqS (x y : ByteArray) : Bool := x.toList == y.toList
def ltS (x y : ByteArray) : Bool := Op.bytesLess x.toList y.toList
def catOk0 (x y : ByteArray) : Bool := decide (((x.size + y.size : Nat) : Int) ≤ 9223372036854775807)
/-- Locked: the kernel would unfold the sum. -/
noncomputable def catOk : ByteArray → ByteArray → Bool := lock catOk0
theorem catOk_eq (x y : ByteArray) : catOk x y = decide (((x.size + y.size : Nat) : Int) ≤ 9223372036854775807) := congrFun (congrFun (lock_eq catOk0) x) y
/-- Byte i of a string. -/
def btI (s : ByteArray) (i : Int) : Int := ((s.data.getD i.toNat 0).toNat : Int)

def intOp (op : BinOp) (k : IntKind) (a b : Int) : Eff Value :=
  match op with
  | .add => .ret (.int k (k.wrap (a + b)))
  | .sub => .ret (.int k (k.wrap (a - b)))
  | .mul => .ret (.int k (k.wrap (a * b)))
  | .quo => .grd (b != 0) (.ret (.int k (k.wrap (a.tdiv b))))
  | .rem => .grd (b != 0) (.ret (.int k (a.tmod b)))
  | .and | .or | .xor | .andNot => .ret (.int k (ibits op k a b))
  | .eql => .ret (.bool (a == b))
  | .neq => .ret (.bool (a != b))
  | .lss => .ret (.bool (a < b))
  | .leq => .ret (.bool (a ≤ b))
  | .gtr => .ret (.bool (a > b))
  | .geq => .ret (.bool (a ≥ b))
  | _ => .fail

noncomputable def strOp (op : BinOp) (a b : ByteArray) : Eff Value :=
  match op with
  | .add => .grd (catOk a b) (.ret (.string (a ++ b)))
  | .eql => .ret (.bool (eqS a b))
  | .neq => .ret (.bool !(eqS a b))
  | .lss => .ret (.bool (ltS a b))
  | .leq => .ret (.bool (ltS a b || eqS a b))
  | .gtr => .ret (.bool !(ltS a b || eqS a b))
  | .geq => .ret (.bool !(ltS a b))
  | _ => .fail

noncomputable def binV (tb : Bool) (op : BinOp) (x y : Value) : Eff Value :=
  match op, x, y with
  | .shl, .int k a, .int _ b => .grd (decide (0 ≤ b)) (.ret (.int k (shlI k a b)))
  | .shr, .int k a, .int _ b => .grd (decide (0 ≤ b)) (.ret (.int k (shrI k a b)))
  | op, .int k a, .int k' b => if k = k' then intOp op k a b else .fail
  | op, .string a, .string b => strOp op a b
  | .eql, .bool a, .bool b => bif tb then .ret (.bool (a == b)) else .fail
  | .neq, .bool a, .bool b => bif tb then .ret (.bool !(a == b)) else .fail
  | _, _, _ => .fail

def unV (op : UnOp) (x : Value) : Eff Value :=
  match op, x with
  | .neg, .int k n => .ret (.int k (k.wrap (0 - n)))
  | .xor, .int k n => .ret (.int k (ibits .xor k (if k.signed then -1 else k.max) n))
  | .not, .bool b => .ret (.bool !b)
  | _, _ => .fail

/-! ### Memory -/
def isBoolT (P : Program) (t : TypeId) : Bool :=
  match P.underlying t with
  | some .bool => true
  | _ => false
def isAggT (P : Program) (t : TypeId) : Bool :=
  match P.underlying t with
  | some (.struct _) | some (.array _ _) => true
  | _ => false

def asVal (agg : Bool) (ls : List Leaf) : Option AV :=
  match agg, ls with
  | true, ls => some (.ag ls)
  | false, [l] => some (.lf l)
  | _, _ => none
def avLeaves : AV → List Leaf
  | .lf l => [l]
  | .ag ls => ls

def getL {α : Type} : List α → Nat → Option α
  | [], _ => none
  | x :: _, 0 => some x
  | _ :: r, i + 1 => getL r i
/-- The cells 'off', .., 'off + n - 1'; none if they aren't there. -/
def cutN {α : Type} (l : List α) (off n : Nat) : Option (List α) :=
  bif Nat.ble (off + n) (List.length l) then some (List.take n (List.drop off l)) else none
def putN {α : Type} (l : List α) (off : Nat) (vs : List α) : List α := List.append (List.take off l) (List.append vs (List.drop (off + List.length vs) l))
/-! '==' of structs and arrays, by the type -/
def eqFs (P : Program) (f : TypeId → List Leaf → List Leaf → Option Bool) (xs ys : List Leaf) : List Field → Option Bool
  | [] => some true
  | g :: r =>
    bif g.name == "_" then none else
    match cutN xs g.offset (P.cellsOf g.type), cutN ys g.offset (P.cellsOf g.type) with
    | some a, some b =>
      match f g.type a b, eqFs P f xs ys r with
      | some p, some q => some (p && q)
      | _, _ => none
    | _, _ => none
def eqEs (f : List Leaf → List Leaf → Option Bool) (sz : Nat) (xs ys : List Leaf) : Nat → Nat → Option Bool
  | _, 0 => some true
  | i, n + 1 =>
    match cutN xs (i * sz) sz, cutN ys (i * sz) sz with
    | some a, some b =>
      match f a b, eqEs f sz xs ys (i + 1) n with
      | some p, some q => some (p && q)
      | _, _ => none
    | _, _ => none
def eqT (P : Program) : Nat → TypeId → List Leaf → List Leaf → Option Bool
  | 0, _, _, _ => none
  | d + 1, t, xs, ys =>
    match P.underlying t with
    | some .bool => (match xs, ys with
      | [.d (.v (.bool a))], [.d (.v (.bool b))] => some (a == b)
      | _, _ => none)
    | some (.int _) => (match xs, ys with
      | [.d (.v (.int k a))], [.d (.v (.int k' b))] => if k = k' then some (a == b) else none
      | _, _ => none)
    | some .string => (match xs, ys with
      | [.d (.v (.string a))], [.d (.v (.string b))] => some (eqS a b)
      | _, _ => none)
    | some (.struct fs) => bif P.stoodInHeld t then none else eqFs P (eqT P d) xs ys fs.toList
    | some (.array n e) => bif (P.info? e).isSome then eqEs (eqT P d e) (P.cellsOf e) xs ys 0 n else none
    | _ => none

/-- A leaf as data: a row of one's own is told as it is now. -/
def dOf (get : Nat → Option Obj) : Leaf → Option (DLeaf × List Nat)
  | .d x => some (x, [])
  | .own r => match get r with
    | some (.row _ t xs) => some (.dat t xs, [r])
    | some (.frow t xs) => some (.dat t xs, [r])
    | _ => none
  | _ => none
def dOfs (get : Nat → Option Obj) : List Leaf → Option (List DLeaf × List Nat)
  | [] => some ([], [])
  | l :: r =>
    match dOf get l, dOfs get r with
    | some (x, a), some (y, b) => some (x :: y, List.append a b)
    | _, _ => none
/-- These rows stay as they are from now on. -/
def freezes (get : Nat → Option Obj) : List Nat → List (Nat × Obj)
  | [] => []
  | r :: l => match get r with
    | some (.row _ t xs) => (r, .frow t xs) :: freezes get l
    | _ => freezes get l

/-- No object has had this number. -/
def isFree (get : Nat → Option Obj) (i : Nat) : Bool := match get i with | none => true | some _ => false

/-- A slice's data: its element type and its list; the rows that were read. -/
inductive SD where
  | nil
  | dat (t : Ty) (xs : List (El t))
def sliceOf (get : Nat → Option Obj) : Leaf → Option (SD × List Nat)
  | .d (.v x) => bif isNilSlice x then some (.nil, []) else none
  | .d (.dat t xs) => some (.dat t xs, [])
  | .own r => match get r with
    | some (.row _ t xs) => some (.dat t xs, [r])
    | some (.frow t xs) => some (.dat t xs, [r])
    | _ => none
  | _ => none

def loadAv (P : Program) (t : TypeId) (ls : List Leaf) (off : Nat) : Option AV :=
  bif (P.underlying t).isSome then
    match cutN ls off (P.cellsOf t) with
    | some c => asVal (isAggT P t) c
    | none => none
  else none

def allOk (get : Nat → Option Obj) (P : Program) (t : TypeId) : Val → Option (AV × List Nat)
  | .one (.lf (.bp b off)) =>
    match get b with
    | some (.box ls) => (loadAv P t ls off).map (·, [b])
    | some (.fbox ls) => (loadAv P t (List.map .d ls) off).map (·, [b])
    | _ => none
  | .one (.lf (.ep r i off)) =>
    match get r with
    | some (.row _ t' xs) => (loadAv P t (List.map .d (leaves t' (xs.getD i (dflt t')))) off).map (·, [r])
    | some (.frow t' xs) => (loadAv P t (List.map .d (leaves t' (xs.getD i (dflt t')))) off).map (·, [r])
    | _ => none
  | .one (.lf (.dp cs)) => (loadAv P t (List.map .d cs) 0).map (·, [])
  | _ => none

def storeOut (get : Nat → Option Obj) (P : Program) (t : TypeId) (a : Val) (v : Val) : Option Out :=
  match v with
  | .one av =>
    bif Nat.beq (List.length (avLeaves av)) (P.cellsOf t) && Nat.ble 1 (P.cellsOf t) then
      match a with
      | .one (.lf (.bp b off)) =>
        match get b with
        | some (.box ls) =>
          match cutN ls off (List.length (avLeaves av)) with
          | some _ => some ⟨.undef, [b], [(b, .box (putN ls off (avLeaves av)))]⟩
          | none => none
        | _ => none
      | .one (.lf (.ep r i off)) =>
        match get r with
        | some (.row e t' xs) =>
          match dOfs get (avLeaves av) with
          | some (ds, rs) =>
            bif rs.any (Nat.beq r) then none else
            match cutN (leaves t' (xs.getD i (dflt t'))) off (List.length ds) with
            | some _ =>
              match ofLeaves t' (putN (leaves t' (xs.getD i (dflt t'))) off ds) with
              | some (x, []) => some ⟨.undef, r :: rs, List.append (freezes get rs) [(r, .row e t' (xs.set i x))]⟩
              | _ => none
            | none => none
          | none => none
        | _ => none
      | _ => none
    else none
  | _ => none

/-! ### Structs, arrays, literals -/
def avOfVal : Val → Option AV
  | .one a => some a
  | _ => none

def fillN (place : Nat → Option (Nat × Nat)) : List (Nat × AV) → List Leaf → Option (List Leaf)
  | [], ls => some ls
  | (i, a) :: rest, ls =>
    match place i with
    | some (off, size) =>
      bif Nat.beq (List.length (avLeaves a)) size then
        match cutN ls off size with
        | some _ => fillN place rest (putN ls off (avLeaves a))
        | none => none
      else none
    | none => none

def zeroD (P : Program) (t : TypeId) : Option (List DLeaf) :=
  match P.info? t with
  | some i => match i.zero with
    | some z => bif z.cells.toList.all Value.oneCell' then some (List.map .v z.cells.toList) else none
    | none => none
  | none => none
def zeroLeaves (P : Program) (t : TypeId) : Option (List Leaf) :=
  match zeroD P t with
  | some z => some (List.map .d z)
  | none => none

def fieldPl (P : Program) (t : TypeId) (f : Nat) : Option (Nat × Nat × TypeId) :=
  match P.underlying t with
  | some (.struct fs) => match getL fs.toList f with
    | some f => some (f.offset, P.cellsOf f.type, f.type)
    | none => none
  | _ => none

def partsOf (ev : Operand → Val) : List (Nat × Operand) → Option (List (Nat × AV))
  | [] => some []
  | (i, x) :: r =>
    match avOfVal (ev x), partsOf ev r with
    | some a, some l => some ((i, a) :: l)
    | _, _ => none

def buildAv (P : Program) (ev : Operand → Val) (t : TypeId) (parts : List (Nat × Operand)) : Option AV :=
  match zeroLeaves P t, partsOf ev parts with
  | some z, some ps =>
    match P.underlying t with
    | some (.struct fs) => bif fs.toList.all (fun f => (P.info? f.type).isSome) then (fillN (fun i => (fieldPl P t i).map fun p => (p.1, p.2.1)) ps z).map .ag else none
    | some (.array _ e) => bif (P.info? e).isSome then (fillN (fun i => some (i * P.cellsOf e, P.cellsOf e)) ps z).map .ag else none
    | _ => none
  | _, _ => none

def repN {α : Type} (l : List α) : Nat → List α
  | 0 => []
  | n + 1 => List.append l (repN l n)
/-- n elements out of their leaves. -/
def elemsOf (t : Ty) : Nat → List DLeaf → Option (List (El t))
  | 0, [] => some []
  | n + 1, l => match ofLeaves t l with
    | some (x, r) => (match elemsOf t n r with | some xs => some (x :: xs) | none => none)
    | none => none
  | _, _ => none

/-- Is the zero value of this type known, and of the right size? -/
def zeroFits (P : Program) (e : TypeId) : Bool :=
  match P.info? e with
  | some i => (match i.zero with | some z => Nat.beq z.cells.size i.size | none => false)
  | none => false

def litOut (get : Nat → Option Obj) (E : Env) (ev : Operand → Val) (fr : Nat) (t : TypeId) (len : Nat) (parts : List (Nat × Operand)) : Option Out :=
  match E.P.underlying t with
  | some (.slice e) =>
    match E.ty e, zeroLeaves E.P e, partsOf ev parts with
    | some ty, some z, some ps =>
      bif Nat.beq (nleaf ty) (E.P.cellsOf e) && zeroFits E.P e && Nat.ble (len * E.P.cellsOf e) 16777216 then
        match fillN (fun i => some (i * E.P.cellsOf e, E.P.cellsOf e)) ps (repN z len) with
        | some ls => match dOfs get ls with
          | some (ds, rs) => match elemsOf ty len ds with
            | some xs => bif isFree get fr then some ⟨lf1 (.own fr), fr :: rs, List.append (freezes get rs) [(fr, .row e ty xs)]⟩ else none
            | none => none
          | none => none
        | none => none
      else none
    | _, _, _ => none
  | _ => none

/-! ### Slices -/
def limOf (P : Program) (e : TypeId) : Nat := 140737488355328 / P.bytesOf e

def sliceElem (P : Program) (t : TypeId) : Option TypeId :=
  match P.underlying t with
  | some (.slice e) => some e
  | _ => none

/-- 'append': the row s, followed by the elements of x. -/
def appendOut (get : Nat → Option Obj) (P : Program) (fr : Nat) (t : TypeId) (s x : Leaf) : Eff Out :=
  match sliceElem P t with
  | some e =>
    match s, sliceOf get x with
    | .d (.v v), some (.dat t' ys, rs) =>
      bif isNilSlice v && Nat.beq (nleaf t') (P.cellsOf e) && isFree get fr && zeroFits P e then
        .grd (decide (ys.length < limOf P e)) (.ret ⟨lf1 (.own fr), fr :: rs, [(fr, .row e t' ys)]⟩)
      else .fail
    | .d (.v v), some (.nil, _) => bif isNilSlice v && zeroFits P e then .ret ⟨lf1 (.d (.v v)), [], []⟩ else .fail
    | .own r, some (.nil, _) => (match get r with | some (.row _ _ _) => bif zeroFits P e then .ret ⟨lf1 (.own r), [r], []⟩ else .fail | _ => .fail)
    | .own r, some (.dat t' ys, rs) =>
      match get r with
      | some (.row e' t xs) =>
        match castL t' t ys with
        | some ys' =>
          bif Nat.beq e e' && Nat.beq (nleaf t) (P.cellsOf e) && !(rs.any (Nat.beq r)) && isFree get fr && zeroFits P e then
            .grd (decide (xs.length + ys'.length < limOf P e)) (.ret ⟨lf1 (.own fr), fr :: r :: rs, [(r, .gone), (fr, .row e t (xs ++ ys'))]⟩)
          else .fail
        | none => .fail
      | _ => .fail
    | _, _ => .fail
  | none => .fail

def makeOut (get : Nat → Option Obj) (E : Env) (fr : Nat) (t : TypeId) (n : Int) : Eff Out :=
  match sliceElem E.P t with
  | some e =>
    match E.ty e, zeroD E.P e with
    | some ty, some z =>
      match elemsOf ty 1 z with
      | some [x] =>
        bif Nat.beq (nleaf ty) (E.P.cellsOf e) && Nat.ble 1 (E.P.cellsOf e) && isFree get fr then
          .grd (decide (0 ≤ n)) (.grd (decide (n.toNat ≤ 140737488355328 / E.P.bytesOf e)) (.ret ⟨lf1 (.own fr), [fr], [(fr, .row e ty (List.replicate n.toNat x))]⟩))
        else .fail
      | _ => .fail
    | _, _ => .fail
  | none => .fail

def optInt (ev : Operand → Val) : Option Operand → Option (Option Int)
  | none => some none
  | some x => match ev x with
    | .one (.lf (.d (.v (.int _ n)))) => some (some n)
    | _ => none

def cutList {α : Type} (xs : List α) (lo hi : Option Int) : List α :=
  match lo, hi with
  | none, none => xs
  | some l, none => xs.drop l.toNat
  | none, some h => xs.take h.toNat
  | some l, some h => (xs.take h.toNat).drop l.toNat
def cutGrd {α : Type} (n : Int) (lo hi : Option Int) (e : Eff α) : Eff α :=
  match lo, hi with
  | none, none => e
  | some l, none => .grd (decide (0 ≤ l)) (.grd (decide (l ≤ n)) e)
  | none, some h => .grd (decide (0 ≤ h)) (.grd (decide (h ≤ n)) e)
  | some l, some h => .grd (decide (0 ≤ l)) (.grd (decide (l ≤ h)) (.grd (decide (h ≤ n)) e))
def cutStr (s : ByteArray) (lo hi : Option Int) : ByteArray :=
  s.extract (match lo with | some l => l.toNat | none => 0) (match hi with | some h => h.toNat | none => s.size)

def dLeaves : List Leaf → Option (List DLeaf)
  | [] => some []
  | .d x :: r => (match dLeaves r with | some l => some (x :: l) | none => none)
  | _ :: _ => none

def arrayOf (P : Program) (t : TypeId) : Option (Nat × TypeId) :=
  match P.underlying t with
  | some (.array n e) => some (n, e)
  | some (.pointer a) => (match P.underlying a with | some (.array n e) => some (n, e) | _ => none)
  | _ => none

/-- Are the elements of this slice type of that many cells? -/
def elemFits (P : Program) (t : TypeId) (ty : Ty) : Bool := match sliceElem P t with | some e => Nat.beq (nleaf ty) (P.cellsOf e) | none => false
def isStrT (P : Program) (t : TypeId) : Bool := match P.underlying t with | some .string => true | _ => false

def sliceOut (get : Nat → Option Obj) (E : Env) (t : TypeId) (x : Val) (lo hi : Option Int) : Eff Out :=
  match x with
  | .one (.lf (.d (.v (.string s)))) => bif isStrT E.P t then cutGrd (s.size : Int) lo hi (ret1 (sc (.string (cutStr s lo hi)))) else .fail
  | .one (.lf (.d (.dat ty xs))) => bif elemFits E.P t ty then cutGrd (xs.length : Int) lo hi (ret1 (lf1 (.d (.dat ty (cutList xs lo hi))))) else .fail
  | .one (.lf (.own r)) =>
    match get r with
    | some (.row _ ty xs) => bif elemFits E.P t ty then cutGrd (xs.length : Int) lo hi (.ret ⟨lf1 (.d (.dat ty (cutList xs lo hi))), [r], [(r, .frow ty xs)]⟩) else .fail
    | some (.frow ty xs) => bif elemFits E.P t ty then cutGrd (xs.length : Int) lo hi (.ret ⟨lf1 (.d (.dat ty (cutList xs lo hi))), [r], []⟩) else .fail
    | _ => .fail
  | .one (.lf (.bp b 0)) =>
    match arrayOf E.P t with
    | some (n, e) =>
      match E.ty e, get b with
      | some ty, some (.box ls) =>
        match dLeaves ls with
        | some ds => match elemsOf ty n ds with
          | some xs =>
            bif Nat.beq (nleaf ty) (E.P.cellsOf e) then
              cutGrd (n : Int) lo hi (.ret ⟨lf1 (.d (.dat ty (cutList xs lo hi))), [b], [(b, .fbox ds)]⟩)
            else .fail
          | none => .fail
        | none => .fail
      | _, _ => .fail
    | none => .fail
  | .one (.lf (.dp cs)) =>
    match arrayOf E.P t with
    | some (n, e) =>
      match E.ty e with
      | some ty => match elemsOf ty n (List.take (n * nleaf ty) cs) with
        | some xs =>
          bif Nat.beq (nleaf ty) (E.P.cellsOf e) then
            cutGrd (n : Int) lo hi (ret1 (lf1 (.d (.dat ty (cutList xs lo hi)))))
          else .fail
        | none => .fail
      | none => .fail
    | none => .fail
  | _ => .fail

def loN : Option Int → Nat
  | none => 0
  | some l => l.toNat
def hiN (n : Nat) : Option Int → Nat
  | none => n
  | some h => h.toNat
/-- A part of one's own row, to be copied from or to. -/
def viewOut (get : Nat → Option Obj) (E : Env) (fr : Nat) (t : TypeId) (x : Val) (lo hi : Option Int) : Eff Out :=
  match x with
  | .one (.lf (.own r)) =>
    match get r with
    | some (.row _ ty xs) => bif elemFits E.P t ty && isFree get fr then cutGrd (xs.length : Int) lo hi (.ret ⟨lf1 (.own fr), [fr, r], [(fr, .view r (loN lo) (hiN xs.length hi - loN lo))]⟩) else .fail
    | _ => .fail
  | _ => .fail
/-- One's own row, cut at its end. -/
def truncOut (get : Nat → Option Obj) (E : Env) (fr : Nat) (t : TypeId) (x : Val) (lo hi : Option Int) : Eff Out :=
  match x with
  | .one (.lf (.own r)) =>
    match get r with
    | some (.row e ty xs) =>
      match lo with
      | none => bif elemFits E.P t ty && isFree get fr then cutGrd (xs.length : Int) none hi (.ret ⟨lf1 (.own fr), [fr, r], [(r, .gone), (fr, .row e ty (xs.take (hiN xs.length hi)))]⟩) else .fail
      | some _ => .fail
    | _ => .fail
  | _ => .fail
def copyDst (get : Nat → Option Obj) (d : Nat) : Option (Nat × Nat × Nat × List Nat) :=
  match get d with
  | some (.row _ _ xs) => some (d, 0, xs.length, [d])
  | some (.view r lo n) => some (r, lo, n, [d, r])
  | _ => none
def copySrc (get : Nat → Option Obj) (l : Leaf) : Option (SD × List Nat) :=
  match l with
  | .own s =>
    match get s with
    | some (.view r lo n) => (match get r with | some (.row _ t xs) => some (.dat t ((xs.drop lo).take n), [s, r]) | _ => none)
    | _ => sliceOf get l
  | _ => sliceOf get l
def copyE (get : Nat → Option Obj) (E : Env) (t : TypeId) (d x : Leaf) : Eff Out :=
  match d with
  | .own d =>
    match copyDst get d, copySrc get x with
    | some (r, lo, n, rd), some (.dat t' ys, rs) =>
      match get r with
      | some (.row e ty xs) =>
        match castL t' ty ys with
        | some ys' =>
          bif elemFits E.P t ty then
            .ret ⟨sc (.int .i64 (Nat.min ys'.length n : Nat)), List.append rd rs, [(r, .row e ty (xs.take lo ++ (ys'.take n ++ xs.drop (lo + Nat.min ys'.length n))))]⟩
          else .fail
        | none => .fail
      | _ => .fail
    | _, _ => .fail
  | _ => .fail
/-- One's own row, cut. -/
def frontOut (get : Nat → Option Obj) (E : Env) (fr : Nat) (t : TypeId) (x : Val) (lo hi : Option Int) : Eff Out :=
  match x with
  | .one (.lf (.own r)) =>
    match get r with
    | some (.row e ty xs) => bif elemFits E.P t ty && isFree get fr then cutGrd (xs.length : Int) lo hi (.ret ⟨lf1 (.own fr), [fr, r], [(r, .gone), (fr, .row e ty (cutList xs lo hi))]⟩) else .fail
    | _ => .fail
  | _ => .fail
/-- A slice and nil: known where the slice has elements. -/
def nilCmp (E : Env) (t : TypeId) (op : BinOp) (n : Nat) (rd : List Nat) (u : Value) : Eff Out :=
  bif isNilSlice u && (sliceElem E.P t).isSome then
    match op with
    | .eql => .ret ⟨lf1 (.ub false n), rd, []⟩
    | .neq => .ret ⟨lf1 (.ub true n), rd, []⟩
    | _ => .fail
  else .fail
/-- The elements i, .., i + n - 1, leaf by leaf. -/
def flatL (t : Ty) (xs : List (El t)) : Nat → Nat → List DLeaf
  | _, 0 => []
  | i, n + 1 => List.append (leaves t (xs.getD i (dflt t))) (flatL t xs (i + 1) n)
/-! ### Maps with texts as keys -/
def getM {α : Type} (s : ByteArray) : List (ByteArray × α) → Option α
  | [] => none
  | p :: r => bif eqS s p.1 then some p.2 else getM s r
def setM {α : Type} (s : ByteArray) (x : α) : List (ByteArray × α) → List (ByteArray × α)
  | [] => [(s, x)]
  | p :: r => bif eqS s p.1 then (s, x) :: r else p :: setM s x r
def hasM {α : Type} (s : ByteArray) (m : List (ByteArray × α)) : Bool := (getM s m).isSome
/-- The value's type, where this is a map with texts as keys. -/
def mapElem (E : Env) (t : TypeId) : Option (TypeId × Ty) :=
  match E.P.underlying t with
  | some (.map k e) => (match E.ty e with | some ty => bif isStrT E.P k && single ty then some (e, ty) else none | none => none)
  | _ => none
/-- The zero value, where it is one cell. -/
def zeroOne (P : Program) (t : TypeId) : Option Value :=
  match P.info? t with
  | some i => (match i.zero with | some z => bif z.oneCell' then some z else none | none => none)
  | none => none
def lookupE (get : Nat → Option Obj) (E : Env) (t : TypeId) (m k : Val) (ok : Bool) : Eff Out :=
  match m, k with
  | .one (.lf (.own r)), .one (.lf (.d (.v (.string s)))) =>
    match get r, mapElem E t with
    | some (.smap ty ms), some (e, ty') =>
      match castM ty ty' ms, zeroOne E.P e with
      | some ms', some l =>
        match elOfD ty' (.v l) with
        | some z => bif ok then .ret ⟨.tup [.lf (.d (scLeaf ty' ((getM s ms').getD z))), .lf (dv (.bool (hasM s ms')))], [r], []⟩ else .ret ⟨lf1 (.d (scLeaf ty' ((getM s ms').getD z))), [r], []⟩
        | none => .fail
      | _, _ => .fail
    | _, _ => .fail
  | _, _ => .fail
def mapUpdE (get : Nat → Option Obj) (E : Env) (t : TypeId) (m k v : Val) : Eff Out :=
  match m, k, v with
  | .one (.lf (.own r)), .one (.lf (.d (.v (.string s)))), .one (.lf (.d x)) =>
    match get r, mapElem E t with
    | some (.smap ty ms), some (_, ty') =>
      match castM ty ty' ms, elOfD ty' x with
      | some ms', some y => .ret ⟨.undef, [r], [(r, .smap ty' (setM s y ms'))]⟩
      | _, _ => .fail
    | _, _ => .fail
  | _, _, _ => .fail
def makeMapE (get : Nat → Option Obj) (E : Env) (fr : Nat) (t : TypeId) : Eff Out :=
  match mapElem E t with
  | some (_, ty) => bif isFree get fr then .ret ⟨lf1 (.own fr), [fr], [(fr, .smap ty [])]⟩ else .fail
  | none => .fail

/-- The rune at a place of a string, and its width. -/
def rnC (s : ByteArray) (p : Int) : Int := ((Utf8.decode s p.toNat).1 : Nat)
def rnW (s : ByteArray) (p : Int) : Int := ((Utf8.decode s p.toNat).2 : Nat)
def bytesS (xs : List Int) : ByteArray := ⟨(xs.map fun n => UInt8.ofNat n.toNat).toArray⟩
def isByteS (P : Program) (s : TypeId) : Bool :=
  match P.underlying s with
  | some (.slice e) => (match P.underlying e with | some (.int .u8) => Nat.beq (P.cellsOf e) 1 | _ => false)
  | _ => false
def bytesOut (get : Nat → Option Obj) (P : Program) (s t : TypeId) (l : Leaf) : Eff Out :=
  match sliceOf get l with
  | some (.dat t' xs, rs) =>
    match castL t' (.int .u8) xs with
    | some ys => bif isByteS P s && isStrT P t then .ret ⟨sc (.string (bytesS ys)), rs, []⟩ else .fail
    | none => .fail
  | _ => .fail

/-- One of the n places, by the index. -/
def selE {α : Type} (i : Int) (f : Nat → Option α) : Nat → Nat → Eff α
  | _, 0 => .fail
  | j, n + 1 => .br (i == (j : Int)) (match f j with | some a => .ret a | none => .fail) (selE i f (j + 1) n)

def intsOf (k : IntKind) : List DLeaf → Option (List Int)
  | [] => some []
  | .v (.int k' n) :: r => if k' = k then (match intsOf k r with | some l => some (n :: l) | none => none) else none
  | _ => none
def strsOf : List DLeaf → Option (List ByteArray)
  | [] => some []
  | .v (.string s) :: r => (match strsOf r with | some l => some (s :: l) | none => none)
  | _ => none

/-- An array's length and element type; the elements have cells. -/
def arrElem (P : Program) (t : TypeId) : Option (Nat × TypeId) :=
  match P.underlying t with
  | some (.array n e) => bif Nat.ble 1 (P.cellsOf e) then some (n, e) else none
  | _ => none

def idxDat (P : Program) (t : TypeId) (ty : Ty) (xs : List (El ty)) (i : Int) (rd : List Nat) : Eff Out :=
  bif elemFits P t ty then
    .grd (decide (0 ≤ i)) (.grd (decide (i < (xs.length : Int))) (.ret ⟨lf1 (.dp (leaves ty (xs.getD i.toNat (dflt ty)))), rd, []⟩))
  else .fail

/-- Element i of a table of numbers that stays. -/
def idxTab (n : Nat) (e : TypeId) (sz : Nat) (cs : List DLeaf) (i : Int) : Eff Out :=
  match cs with
  | .v (.int k _) :: _ =>
    match intsOf k (List.take n cs) with
    | some ns => bif Nat.beq sz 1 && Nat.beq (List.length ns) n then
        .grd (decide (0 ≤ i)) (.grd (decide (i < (n : Int))) (ret1 (lf1 (.dp [.v (.int k (ns.getD i.toNat 0))]))))
      else selE i (fun j => some ⟨lf1 (.dp (List.drop (j * sz) cs)), [], []⟩) 0 n
    | none => selE i (fun j => some ⟨lf1 (.dp (List.drop (j * sz) cs)), [], []⟩) 0 n
  | _ => selE i (fun j => some ⟨lf1 (.dp (List.drop (j * sz) cs)), [], []⟩) 0 n

def idxE (get : Nat → Option Obj) (E : Env) (t : TypeId) (x : Val) (i : Int) : Eff Out :=
  match x with
  | .one (.lf (.d (.dat ty xs))) => idxDat E.P t ty xs i []
  | .one (.lf (.own r)) =>
    match get r with
    | some (.row _ ty xs) =>
      bif elemFits E.P t ty then
        .grd (decide (0 ≤ i)) (.grd (decide (i < (xs.length : Int))) (.ret ⟨lf1 (.ep r i.toNat 0), [r], []⟩))
      else .fail
    | some (.frow ty xs) => idxDat E.P t ty xs i [r]
    | _ => .fail
  | .one (.lf (.bp b off)) =>
    match arrElem E.P t with
    | some (n, e) => selE i (fun j => some ⟨lf1 (.bp b (off + j * E.P.cellsOf e)), [], []⟩) 0 n
    | none => .fail
  | .one (.lf (.ep r k off)) =>
    match arrElem E.P t with
    | some (n, e) => selE i (fun j => some ⟨lf1 (.ep r k (off + j * E.P.cellsOf e)), [], []⟩) 0 n
    | none => .fail
  | .one (.lf (.dp cs)) =>
    match arrElem E.P t with
    | some (n, e) => idxTab n e (E.P.cellsOf e) cs i
    | none => .fail
  | _ => .fail

/-- A slice's elements at the place of an array. -/
def arrPtrE (get : Nat → Option Obj) (P : Program) (t : TypeId) (x : Val) : Eff Out :=
  match x with
  | .one (.lf l) =>
    match arrElem P t, dOf get l with
    | some (n, e), some (.dat ty xs, rs) =>
      bif Nat.beq (nleaf ty) (P.cellsOf e) && Nat.ble 1 n then .grd (decide (n ≤ xs.length)) (.ret ⟨lf1 (.dp (flatL ty xs 0 n)), rs, freezes get rs⟩) else .fail
    | _, _ => .fail
  | _ => .fail

def fieldE (P : Program) (t : TypeId) (x : Val) (f : Nat) : Option Val :=
  match fieldPl P t f with
  | some (off, n, _) =>
    bif Nat.beq n 0 then none else
    match x with
    | .one (.lf (.bp b o)) => some (lf1 (.bp b (o + off)))
    | .one (.lf (.ep r i o)) => some (lf1 (.ep r i (o + off)))
    | .one (.lf (.dp cs)) => some (lf1 (.dp (List.drop off cs)))
    | _ => none
  | none => none

def indexV (P : Program) (t : TypeId) (x : Val) (i : Int) : Eff Out :=
  match x with
  | .one (.lf (.d (.v (.string s)))) => bif isStrT P t then .grd (decide (0 ≤ i)) (.grd (decide (i < (s.size : Int))) (ret1 (sc (.int .u8 (btI s i))))) else .fail
  | .one (.ag ls) =>
    match arrElem P t with
    | some (n, e) =>
      match ls with
      | .d (.v (.string _)) :: _ =>
        match dLeaves ls with
        | some ds => match strsOf ds with
          | some ss => bif Nat.beq (P.cellsOf e) 1 && Nat.beq (List.length ss) n && !(isAggT P e) && (P.underlying e).isSome then
              .grd (decide (0 ≤ i)) (.grd (decide (i < (n : Int))) (ret1 (sc (.string (ss.getD i.toNat ⟨#[]⟩)))))
            else .fail
          | none => .fail
        | none => .fail
      | .d (.v (.int k _)) :: _ =>
        match dLeaves ls with
        | some ds => match intsOf k ds with
          | some ns => bif Nat.beq (P.cellsOf e) 1 && Nat.beq (List.length ns) n && !(isAggT P e) && (P.underlying e).isSome then
              .grd (decide (0 ≤ i)) (.grd (decide (i < (n : Int))) (ret1 (sc (.int k (ns.getD i.toNat 0)))))
            else .fail
          | none => .fail
        | none => .fail
      | _ => bif (P.underlying e).isSome then selE i (fun j => match cutN ls (j * P.cellsOf e) (P.cellsOf e) with
          | some c => (asVal (isAggT P e) c).map fun a => ⟨.one a, [], []⟩
          | none => none) 0 n else .fail
    | none => .fail
  | _ => .fail

/-- 'append' of a string's bytes. -/
def bytesL (s : ByteArray) : List Int := s.data.toList.map fun b => (b.toNat : Int)
def appendStrE (get : Nat → Option Obj) (P : Program) (fr : Nat) (t : TypeId) (s : Leaf) (x : ByteArray) : Eff Out :=
  match sliceElem P t with
  | some e =>
    bif isByteS P t && (zeroFits P e && isFree get fr) then
      match s with
      | .d (.v v) => bif isNilSlice v then .grd (decide (x.size < limOf P e)) (.ret ⟨lf1 (.own fr), [fr], [(fr, .row e (.int .u8) (bytesL x))]⟩) else .fail
      | .own r =>
        match get r with
        | some (.row e' t' xs) =>
          match castL t' (.int .u8) xs with
          | some xs' => bif Nat.beq e e' then .grd (decide (xs'.length + x.size < limOf P e)) (.ret ⟨lf1 (.own fr), [fr, r], [(r, .gone), (fr, .row e (.int .u8) (xs' ++ bytesL x))]⟩) else .fail
          | none => .fail
        | _ => .fail
      | _ => .fail
    else .fail
  | none => .fail

/-! ### Calls -/
def sliceLen (get : Nat → Option Obj) : Leaf → Option (Nat × List Nat)
  | .d (.v x) => bif isNilSlice x then some (0, []) else none
  | .d (.dat _ xs) => some (xs.length, [])
  | .own r => match get r with
    | some (.row _ _ xs) => some (xs.length, [r])
    | some (.frow _ xs) => some (xs.length, [r])
    | _ => none
  | _ => none

def lenOut (get : Nat → Option Obj) (P : Program) (t : TypeId) (x : Val) : Option Out :=
  match P.underlying t with
  | some .string => (match x with | .one (.lf (.d (.v (.string s)))) => some ⟨sc (.int .i64 s.size), [], []⟩ | _ => none)
  | some (.array n _) => some ⟨sc (.int .i64 n), [], []⟩
  | some (.slice _) => (match x with
    | .one (.lf l) => (match sliceLen get l with | some (n, rs) => some ⟨sc (.int .i64 n), rs, []⟩ | none => none)
    | _ => none)
  | _ => none

def maxV (x y : Value) : Option Value :=
  match x, y with
  | .int k a, .int _ b => some (.int k (bif decide (b > a) then b else a))
  | _, _ => none
def minV (x y : Value) : Option Value :=
  match x, y with
  | .int k a, .int _ b => some (.int k (bif decide (b < a) then b else a))
  | _, _ => none
def foldV (f : Value → Value → Option Value) : Value → List Val → Option Value
  | x, [] => some x
  | x, .one (.lf (.d (.v y))) :: r => (match f x y with | some z => foldV f z r | none => none)
  | _, _ => none

def builtinE (get : Nat → Option Obj) (E : Env) (fr : Nat) (b : Builtin) (ts : List TypeId) (args : List Val) : Eff Out :=
  match b, ts, args with
  | .len, t :: _, [x] => (match lenOut get E.P t x with | some o => .ret o | none => .fail)
  | .append, t :: u :: _, [.one (.lf s), .one (.lf x)] =>
    (bif Nat.beq t u then appendOut get E.P fr t s x else (bif isStrT E.P u then (match x with | .d (.v (.string str)) => appendStrE get E.P fr t s str | _ => .fail) else .fail))
  | .copy, t :: _, [.one (.lf d), .one (.lf x)] => copyE get E t d x
  | .max, _, .one (.lf (.d (.v x))) :: r => (match foldV maxV x r with | some v => ret1 (sc v) | none => .fail)
  | .min, _, .one (.lf (.d (.v x))) :: r => (match foldV minV x r with | some v => ret1 (sc v) | none => .fail)
  | _, _, _ => .fail

def numbered : Nat → List Val → Nat → Val
  | _, [], _ => .undef
  | i, v :: r, j => bif Nat.beq i j then v else numbered (i + 1) r j

def reach (m : Met) : List Nat :=
  match m with
  | ⟨ids, seen⟩ => List.append (idsOf ids) seen
where
  idsOf : List (Nat × Option Nat) → List Nat
    | [] => []
    | (_, some n) :: r => n :: idsOf r
    | (_, none) :: r => idsOf r

/-- The number that a called function's object o has at the caller: its own if it came in, else a new one. -/
def backId (n0 : Nat) (ids : List (Nat × Option Nat)) (fr o : Nat) : Nat :=
  bif Nat.blt o n0 then (match findId o ids with | some (some n) => n | _ => fr + o) else fr + o

def hasDat : List LS → Bool
  | [] => false
  | .dat _ :: _ => true
  | .sc (.slc _) :: _ => true
  | _ :: r => hasDat r
def slotsDat : List (Nat × AS) → Bool
  | [] => false
  | (_, .lf l) :: r => hasDat [l] || slotsDat r
  | (_, .ag ls) :: r => hasDat ls || slotsDat r
def isDatT : Ty → Bool
  | .int _ => false
  | .bool => false
  | .str => false
  | _ => true
def objsDat : List OS → Bool
  | [] => false
  | .row _ t :: r => isDatT t || objsDat r
  | .box ls :: r => hasDat ls || objsDat r
  | .iter :: r => objsDat r
  | .smap t :: r => isDatT t || objsDat r
  | .dead :: r => objsDat r

def results (l : List (Nat × AV)) : Val :=
  match l with
  | [(_, a)] => .one a
  | l => .tup (List.map (·.2) l)

/-- What is left of the objects that were handed over and don't come back. -/
def gone (n0 : Nat) : List (Nat × Option Nat) → List (Nat × Obj)
  | [] => []
  | (o, some n) :: r => bif Nat.blt o n0 then gone n0 r else (n, .gone) :: gone n0 r
  | (_, none) :: r => gone n0 r
def backObjs (f : Nat → Nat) : Nat → List (Option Obj) → List (Nat × Obj)
  | _, [] => []
  | o, some x :: r => (f o, x) :: backObjs f (o + 1) r
  | o, none :: r => (f o, .gone) :: backObjs f (o + 1) r

/-- The numbers 'fr', .., 'fr + k - 1'. -/
def newIds (fr : Nat) : Nat → List Nat
  | 0 => []
  | k + 1 => (fr + k) :: newIds fr k
def freeAll (get : Nat → Option Obj) (fr k : Nat) : Bool := (newIds fr k).all (isFree get)
/-- What is tied is there, and tied once. -/
def tiesOk (get : Nat → Option Obj) (all : List (Nat × Option Nat)) : List (Nat × Option Nat) → Bool
  | [] => true
  | (o, some n) :: r => !(isFree get n) && (match findId o all with | some x => isId n x | none => false) && tiesOk get all r
  | (_, none) :: r => tiesOk get all r

def callE (get : Nat → Option Obj) (fr : Nat) (p : Proc) (args : List Val) : Eff Out :=
  match takeS p.inS 0 get (numbered 0 args) with
  | some (x, m) =>
    bif !(freeAll get fr p.outS.objs.length && (Nat.beq (List.length args) p.nargs && (allLive p.inS.objs p.n0 && (Nat.ble p.n0 p.outS.objs.length && tiesOk get m.ids m.ids)))) then .fail else
    .call (Tup p.inS) p.R p.F x fun r =>
      let y := p.post r
      .ret ⟨results (makeSlots (backId p.n0 m.ids fr) p.outS.slots y.1), List.append (newIds fr p.outS.objs.length) (reach m),
        List.append (bif slotsDat p.outS.slots || objsDat p.outS.objs then freezes get m.seen else [])
          (List.append (gone p.n0 m.ids) (backObjs (backId p.n0 m.ids fr) 0 (makeObjs (backId p.n0 m.ids fr) p.outS.objs y.2)))⟩
  | none => .fail

def constV : Value → Val
  | .agg cs => bif cs.toList.all Value.oneCell' then .one (.ag (List.map (fun v => .d (.v v)) cs.toList)) else .undef
  | .tuple _ => .undef
  | v => sc v

def evalO (E : Env) (sl : Nat → Val) : Operand → Val
  | .tmp t => sl t
  | .const c => constV c
  | .global g => (match E.glob g with | some cs => lf1 (.dp cs) | none => .undef)
  | .func f => lf1 (.fn f [])

def capsOf (ev : Operand → Val) : List Operand → Option (List Nat)
  | [] => some []
  | x :: r => match ev x, capsOf ev r with
    | .one (.lf (.bp b 0)), some l => some (b :: l)
    | _, _ => none

def selV {α : Type} : List α → Nat → Option α
  | [], _ => none
  | x :: _, 0 => some x
  | _ :: r, i + 1 => selV r i

def pickE (b : Bool) (x y : Val) : Eff Out :=
  match x, y with
  | .one (.lf (.d (.v (.bool p)))), .one (.lf (.d (.v (.bool q)))) => ret1 (sc (.bool (bif b then p else q)))
  | .one (.lf (.d (.v (.int k p)))), .one (.lf (.d (.v (.int k' q)))) => if k = k' then ret1 (sc (.int k (bif b then p else q))) else .fail
  | x, y => .br b (ret1 x) (ret1 y)

def modeOf (E : Env) (d : Option Nat) : Nat :=
  match d with
  | some d => E.view d
  | none => 0

noncomputable def opE (E : Env) (sl : Nat → Val) (get : Nat → Option Obj) (fr : Nat) (o : Oper) : Eff Out :=
  let ev := evalO E sl
  let opt (x : Option Out) : Eff Out := match x with | some r => .ret r | none => .fail
  let optV (x : Option Val) : Eff Out := match x with | some r => ret1 r | none => .fail
  match o.op with
  | .move x | .assign x => ret1 (ev x)
  | .pick c a b => (match ev c with | .one (.lf (.d (.v (.bool t)))) => pickE t (ev a) (ev b) | _ => .fail)
  | .alloc t => (match zeroLeaves E.P t with | some z => bif Nat.beq (List.length z) 0 || !(isFree get fr) then .fail else .ret ⟨lf1 (.bp fr 0), [fr], [(fr, .box z)]⟩ | none => .fail)
  | .box _ x => (match ev x with | .one a => bif Nat.beq (List.length (avLeaves a)) 0 || !(isFree get fr) then .fail else .ret ⟨lf1 (.bp fr 0), [fr], [(fr, .box (avLeaves a))]⟩ | _ => .fail)
  | .build t parts => optV ((buildAv E.P ev t parts.toList).map .one)
  | .buildSlice t len parts => opt (litOut get E ev fr t len parts.toList)
  | .load t a => (match allOk get E.P t (ev a) with | some (v, rs) => .ret ⟨.one v, rs, []⟩ | none => .fail)
  | .store t a v => opt (storeOut get E.P t (ev a) (ev v))
  | .nilCheck x => (match ev x with
    | .one (.lf (.bp b off)) => ret1 (lf1 (.bp b off))
    | .one (.lf (.ep r i off)) => ret1 (lf1 (.ep r i off))
    | .one (.lf (.dp cs)) => ret1 (lf1 (.dp cs))
    | _ => .fail)
  | .binOp op t x y _ => (match ev x, ev y with
    | .one (.lf (.d (.v a))), .one (.lf (.d (.v b))) => (match binV (isBoolT E.P t) op a b with
      | .ret v => ret1 (sc v)
      | .grd c (.ret v) => .grd c (ret1 (sc v))
      | _ => .fail)
    | .one (.ag a), .one (.ag b) =>
      bif E.P.eqGuardType E.P.depth t || !(isAggT E.P t) then .fail else (match op, eqT E.P 20 t a b with
      | .eql, some q => ret1 (sc (.bool q))
      | .neq, some q => ret1 (sc (.bool !q))
      | _, _ => .fail)
    | .one (.lf (.d (.dat _ xs))), .one (.lf (.d (.v u))) => nilCmp E t op xs.length [] u
    | .one (.lf (.own r)), .one (.lf (.d (.v u))) => (match get r with
      | some (.row _ _ xs) => nilCmp E t op xs.length [r] u
      | some (.frow _ xs) => nilCmp E t op xs.length [r] u
      | _ => .fail)
    | _, _ => .fail)
  | .unOp op _ x => (match ev x with
    | .one (.lf (.d (.v a))) => (match unV op a with | .ret v => ret1 (sc v) | _ => .fail)
    | _ => .fail)
  | .convert s t x => (match ev x with
    | .one (.lf (.d (.v (.int _ n)))) => (match E.P.underlying s, E.P.underlying t with
      | some (.int _), some (.int k) => ret1 (sc (.int k (k.wrap n)))
      | _, _ => .fail)
    | .one (.lf (.d (.v (.string b)))) => (match E.P.underlying s, E.P.underlying t with
      | some .string, some .string => ret1 (sc (.string b))
      | _, _ => .fail)
    | .one (.lf (.d (.dat t' xs))) => bytesOut get E.P s t (.d (.dat t' xs))
    | .one (.lf (.own r)) => bytesOut get E.P s t (.own r)
    | _ => .fail)
  | .makeFunc (.func f) first caps =>
    bif first.isEmpty then (match capsOf ev caps.toList with | some l => ret1 (lf1 (.fn f l)) | none => .fail) else
    bif caps.isEmpty then (match capsOf ev first.toList with | some [b] => ret1 (lf1 (.mv f b)) | _ => .fail) else .fail
  | .makeSlice t l c => (match l, c, ev l with
    | .tmp i, .tmp j, .one (.lf (.d (.v (.int _ n)))) => bif Nat.beq i j then makeOut get E fr t n else .fail
    | .const _, .const (.int .i64 m), .one (.lf (.d (.v (.int .i64 n)))) => bif m == n then makeOut get E fr t n else .fail
    | _, _, _ => .fail)
  | .slice t x lo hi none => (match optInt ev lo, optInt ev hi with
    | some l, some h => (match modeOf E o.dst with
      | 0 => sliceOut get E t (ev x) l h
      | 1 => viewOut get E fr t (ev x) l h
      | 2 => truncOut get E fr t (ev x) l h
      | _ => frontOut get E fr t (ev x) l h)
    | _, _ => .fail)
  | .makeMap t none => makeMapE get E fr t
  | .lookup t m k ok => lookupE get E t (ev m) (ev k) ok
  | .mapUpdate t m k x => mapUpdE get E t (ev m) (ev k) (ev x)
  | .insert t m k x => mapUpdE get E t (ev m) (ev k) (ev x)
  | .sliceToArrayPointer t x => arrPtrE get E.P t (ev x)
  | .fieldAddr t x f => optV (fieldE E.P t (ev x) f)
  | .field t x f => (match ev x, fieldPl E.P t f with
    | .one (.ag ls), some (off, n, ft) => (match (bif (E.P.underlying ft).isSome then cutN ls off n else none) with | some c => optV ((asVal (isAggT E.P ft) c).map .one) | none => .fail)
    | _, _ => .fail)
  | .indexAddr t x i => (match ev i with
    | .one (.lf (.d (.v (.int _ n)))) => idxE get E t (ev x) n
    | _ => .fail)
  | .index t x i => (match ev i with
    | .one (.lf (.d (.v (.int _ n)))) => indexV E.P t (ev x) n
    | _ => .fail)
  | .range t x => (match ev x with
    | .one (.lf (.d (.v (.string s)))) => bif isStrT E.P t && isFree get fr then .ret ⟨lf1 (.bp fr 0), [fr], [(fr, .iter s 0)]⟩ else .fail
    | _ => .fail)
  | .next it true => (match ev it with
    | .one (.lf (.bp b 0)) => (match get b with
      | some (.iter s p) => .br (decide (p < (s.size : Int))) (.ret ⟨.tup [.lf (dv (.bool true)), .lf (dv (.int .i64 p)), .lf (dv (.int .i32 (rnC s p)))], [b], [(b, .iter s (p + rnW s p))]⟩) (.ret ⟨.tup [.lf (dv (.bool false))], [b], []⟩)
      | _ => .fail)
    | _ => .fail)
  | .extract t i => (match ev t with
    | .tup l => (match selV l i with | some a => ret1 (.one a) | none => .fail)
    | _ => .fail)
  | .call c => (match c.callee with
    | .builtin b => builtinE get E fr b c.argTypes.toList (List.map ev c.args.toList)
    | .value f => (match ev f with
      | .one (.lf (.fn g caps)) => (match E.proc g with
        | some p => callE get fr p (List.append (List.map ev c.args.toList) (List.map (fun b => lf1 (.bp b 0)) caps))
        | none => .fail)
      | .one (.lf (.mv g b)) => (match E.proc g with
        | some p => callE get fr p (lf1 (.bp b 0) :: List.map ev c.args.toList)
        | none => .fail)
      | _ => .fail)
    | _ => .fail)
  | _ => .fail

end Go.Abs

/- A body of code read as a function on typed data and objects: definitions alone. -/
namespace Go.Abs
open Go

/-- What is told beside the code: which pieces are taken by procedures of their own, how often a loop is laid out. -/
inductive Ann where
  | z
  | s (a b : Ann)
  | b (a : Ann)
  | un (n : Nat) (a : Ann)
  | sub (n : Nat)

def opBase : Nat := 32

def putVal (N : Nat) (sl : Nat → Val) (d : Option Tmp) (v : Val) : Option (Nat → Val) :=
  match d with
  | some i => bif Nat.blt i N then some (upd sl i v) else none
  | none => some sl
def putWr (objs : Nat → Option Obj) : List (Nat × Obj) → (Nat → Option Obj)
  | [] => objs
  | (i, o) :: r => putWr (upd objs i (some o)) r

/-- One line of a region's log: the operation, what it read, what it wrote. -/
structure Line where
  op : Nat
  rd : List Nat
  wr : List Nat

def tmpsOf (o : Oper) : List Nat :=
  let os := (o.op.operands.toList.filterMap fun | .tmp t => some t | _ => none)
  match o.dst with
  | some d => d :: os
  | none => os
def dstOf (ops : Array Oper) (j : Nat) : Option Nat := (getL ops.toList j).bind (·.dst)
def usesOf (ops : Array Oper) (o : Oper) : List Nat :=
  match o.guard with
  | some (j, _) => (match dstOf ops j with | some d => d :: tmpsOf o | none => tmpsOf o)
  | none => tmpsOf o

def meetL (a b : List Nat) : Bool := a.any fun x => b.any fun y => Nat.beq x y

/-- Two operations that may stand in either order, as far as the temporaries go. -/
def tmpsApart (ops : Array Oper) (i j : Nat) : Bool :=
  match getL ops.toList i, getL ops.toList j with
  | some a, some b => !(match a.dst with | some d => (usesOf ops b).any (Nat.beq d) | none => false) && !(match b.dst with | some d => (usesOf ops a).any (Nat.beq d) | none => false)
  | _, _ => false

/-- Which operations stand in front of each one, by the edges that always bind. -/
def maskOf (acc : List Nat) : List Edge → Nat
  | [] => 0
  | e :: r => bif Region.binds .any e then Nat.lor (Nat.lor (Nat.pow 2 e.on) (match getL acc e.on with | some m => m | none => 0)) (maskOf acc r) else maskOf acc r
def befs (acc : List Nat) : List Oper → List Nat
  | [] => acc
  | o :: r => befs (List.append acc [maskOf acc o.after.toList]) r
def tiedTo (ops : Array Oper) (i j : Nat) : Bool := match getL (befs [] ops.toList) j with | some m => Nat.testBit m i | none => false

/-- Edges lead back in the text. -/
def afterOk : Nat → List Oper → Bool
  | _, [] => true
  | i, o :: r => o.after.toList.all (fun e => !(Region.binds .any e) || Nat.blt e.on i) && afterOk (i + 1) r

/-- Every two operations stand in order, or apart: temporaries. -/
def orderOk (ops : Array Oper) : Bool :=
  afterOk 0 ops.toList && (List.range ops.size).all fun j => (List.range j).all fun i => tiedTo ops i j || tmpsApart ops i j

def apartL (k l : Line) : Bool := !(meetL l.wr k.rd) && (!(meetL l.wr k.wr) && !(meetL k.wr l.rd))
def logOk (ops : Array Oper) : List Line → Bool
  | [] => true
  | l :: r => (r.all fun k => tiedTo ops k.op l.op || apartL k l) && logOk ops r

noncomputable def peOps {ρ : Type} (E : Env) (ops : Array Oper) (fr0 : Nat) (k : St → List Line → Option ρ) : List (Nat × Oper) → St → List Line → Option ρ
  | [], st, log => k st log
  | (i, o) :: rest, st, log =>
    let skip (sl : Nat → Val) : Option ρ :=
      match putVal E.ntmps sl o.dst .skip with
      | some s => peOps E ops fr0 k rest { st with slots := s } log
      | none => none
    let go (sl : Nat → Val) : Option ρ :=
      (opE E sl st.objs (fr0 + opBase * i) o).cps fun out =>
        match putVal E.ntmps sl o.dst out.val with
        | some s => peOps E ops fr0 k rest { st with slots := s, objs := putWr st.objs out.wr } (⟨i, out.rd, List.map (·.1) out.wr⟩ :: log)
        | none => none
    match o.guard with
    | none => go st.slots
    | some (j, want) =>
      match dstOf ops j with
      | some d =>
        match st.slots d with
        | .one (.lf (.d (.v (.bool b)))) =>
          bif b then (bif want then go (upd st.slots d (sc (.bool true))) else skip (upd st.slots d (sc (.bool true))))
          else (bif want then skip (upd st.slots d (sc (.bool false))) else go (upd st.slots d (sc (.bool false))))
        | .skip => skip st.slots
        | _ => none
      | none => none

def numOps : Nat → List Oper → List (Nat × Oper)
  | _, [] => []
  | i, o :: r => (i, o) :: numOps (i + 1) r

noncomputable def peRegion {ρ : Type} (E : Env) (ops : Array Oper) (draw : Bool) (k : St → Option ρ) (st : St) : Option ρ :=
  bif draw && !(orderOk ops) then none else
  peOps E ops st.next (fun st' log => bif draw then (bif logOk ops log then k st' else none) else k st') (numOps 0 ops.toList) { st with next := st.next + opBase * ops.size } []

def iterK {ρ : Type} (body : (Ex → St → Option ρ) → St → Option ρ) (k : Ex → St → Option ρ) : Nat → St → Option ρ
  | 0, _ => none
  | n + 1, st => body (fun x st' => match x with | .nrm => iterK body k n st' | x => k x st') st

/-- A test: the temporary that is tested is known from then on. -/
noncomputable def condK {ρ : Type} (c : Operand) (st : St) (v : Val) (kx ky : St → Option ρ) : Option ρ :=
  match v with
  | .one (.lf (.d (.v (.bool b)))) =>
    match c with
    | .tmp d => bif b then kx { st with slots := upd st.slots d (sc (.bool true)) } else ky { st with slots := upd st.slots d (sc (.bool false)) }
    | _ => bif b then kx st else ky st
  | .one (.lf (.ub q n)) =>
    match c with
    | .tmp d =>
      bif decide (0 < n) then (bif q then kx { st with slots := upd st.slots d (sc (.bool true)) } else ky { st with slots := upd st.slots d (sc (.bool false)) })
      else ambO (kx { st with slots := upd st.slots d (sc (.bool true)) }) (ky { st with slots := upd st.slots d (sc (.bool false)) })
    | _ => none
  | _ => none

noncomputable def pe {ρ : Type} (E : Env) : Code → Ann → (Ex → St → Option ρ) → St → Option ρ
  | c, .sub n, k, st =>
    match E.lproc n with
    | some p =>
      match takeS p.inS E.n0 st.objs st.slots with
      | some (x, _) => (p.F x).bind fun y => outK p.outs y k
      | none => none
    | none => none
  | .skip, _, k, st => k .nrm st
  | .region _ ops draw, _, k, st => peRegion E ops draw (k .nrm) st
  | .seq x y, a, k, st =>
    let l := match a with | .s p _ => p | _ => .z
    let r := match a with | .s _ q => q | _ => .z
    pe E x l (fun e st' => match e with | .nrm => pe E y r k st' | e => k e st') st
  | .cond c x y, a, k, st =>
    let l := match a with | .s p _ => p | _ => .z
    let r := match a with | .s _ q => q | _ => .z
    condK c st (evalO E st.slots c) (pe E x l k) (pe E y r k)
  | .block id x, a, k, st =>
    let p := match a with | .b p => p | _ => .z
    pe E x p (fun e st' => match e with | .ex j => (bif Nat.beq j id then k .nrm st' else k (.ex j) st') | e => k e st') st
  | .loop x, .un n a, k, st => iterK (fun k' st' => pe E x a k' st') k n st
  | .exit id, _, k, st => k (.ex id) st
  | .ret, _, k, st => k .rt st
  | _, _, _, _ => none


def exEq : Ex → Ex → Bool
  | .nrm, .nrm => true
  | .rt, .rt => true
  | .ex i, .ex j => Nat.beq i j
  | _, _ => false

/-- The end of a piece: the first way out with this exit and shape. -/
def endL (n0 : Nat) : (outs : List Way) → Ex → St → Option (SumT outs)
  | [], _, _ => none
  | [a], e, st =>
    bif exEq a.ex e then (match takeS a.S n0 st.objs st.slots with | some (x, _) => some (a.un x) | none => none) else none
  | a :: b :: r, e, st =>
    bif exEq a.ex e then
      match takeS a.S n0 st.objs st.slots with
      | some (x, _) => some (.inl (a.un x))
      | none => (match endL n0 (b :: r) e st with | some y => some (.inr y) | none => none)
    else (match endL n0 (b :: r) e st with | some y => some (.inr y) | none => none)

/-- What a function hands back, in the slots 0, 1, ... -/
def retSlots (E : Env) (st : St) : List ResultVar → Option (List Val)
  | [] => some []
  | .tmp t :: r => (match retSlots E st r with | some l => some (st.slots t :: l) | none => none)
  | .cell a t :: r =>
    match allOk st.objs E.P t (st.slots a), retSlots E st r with
    | some (v, _), some l => some (.one v :: l)
    | _, _ => none

def endF (E : Env) (rs : List ResultVar) (S : Shape) (e : Ex) (st : St) : Option (Tup S) :=
  match e with
  | .ex _ => none
  | _ =>
    match retSlots E st rs with
    | some l => (match takeS S E.n0 st.objs (numbered 0 l) with | some (x, _) => some x | none => none)
    | none => none

/-- A whole body. -/
noncomputable def peFn (E : Env) (fn : Func) (a : Ann) (p : Proc) (x : Tup p.inS) : Option p.R :=
  match fn.body with
  | some c => pe E c a (fun e st => match endF E fn.results.toList p.outS e st with | some y => some (p.un y) | none => none) (ofC p.inS x)
  | none => none

/-! ### Where in a body a piece stands -/
inductive Way1 where
  | l | r | b     -- of a sequence or a test: left, right; the body of a block or a loop
def codeAt : Code → List Way1 → Option Code
  | c, [] => some c
  | .seq x _, .l :: w => codeAt x w
  | .seq _ y, .r :: w => codeAt y w
  | .cond _ x _, .l :: w => codeAt x w
  | .cond _ _ y, .r :: w => codeAt y w
  | .block _ x, .b :: w => codeAt x w
  | .loop x, .b :: w => codeAt x w
  | _, _ => none

/-- A piece that is no loop. -/
noncomputable def peL (E : Env) (c : Code) (a : Ann) (p : LProc) (x : Tup p.inS) : Option (SumT p.outs) :=
  pe E c a (fun e st => endL E.n0 p.outs e st) (ofC p.inS x)

/-- One round of a loop: on to the next round, or out. -/
noncomputable def peRound (E : Env) (c : Code) (a : Ann) (I : Type) (inS : Shape) (un : Tup inS → I) (outs : List Way) (x : Tup inS) : Option (I ⊕ SumT outs) :=
  pe E c a (fun e st => match e with
    | .nrm => (match takeS inS E.n0 st.objs st.slots with | some (y, _) => some (.inl (un y)) | none => none)
    | e => (match endL E.n0 outs e st with | some y => some (.inr y) | none => none)) (ofC inS x)

end Go.Abs

/- What typed data and objects say of a world's memory; how a world that has changed keeps it. -/
namespace Go.Abs
open Go

/-! ### Lists side by side -/
def F2 {α β : Type} (R : α → β → Prop) : List α → List β → Prop
  | [], [] => True
  | a :: as, b :: bs => R a b ∧ F2 R as bs
  | _, _ => False

theorem F2.length {α β : Type} {R : α → β → Prop} : ∀ {l : List α} {m : List β}, F2 R l m → l.length = m.length
  | [], [], _ => rfl
  | _ :: _, _ :: _, h => by simp [h.2.length]
  | [], _ :: _, h => h.elim
  | _ :: _, [], h => h.elim
theorem F2.imp {α β : Type} {R S : α → β → Prop} (hRS : ∀ a b, R a b → S a b) : ∀ {l : List α} {m : List β}, F2 R l m → F2 S l m
  | [], [], _ => trivial
  | _ :: _, _ :: _, h => ⟨hRS _ _ h.1, h.2.imp hRS⟩
  | [], _ :: _, h => h.elim
  | _ :: _, [], h => h.elim
theorem F2.append {α β : Type} {R : α → β → Prop} : ∀ {l : List α} {m : List β} {l' : List α} {m' : List β}, F2 R l m → F2 R l' m' → F2 R (l ++ l') (m ++ m')
  | [], [], _, _, _, h' => h'
  | _ :: _, _ :: _, _, _, h, h' => ⟨h.1, h.2.append h'⟩
  | [], _ :: _, _, _, h, _ => h.elim
  | _ :: _, [], _, _, h, _ => h.elim
theorem F2.take {α β : Type} {R : α → β → Prop} : ∀ (n : Nat) {l : List α} {m : List β}, F2 R l m → F2 R (l.take n) (m.take n)
  | 0, l, m, _ => by simp [F2]
  | n + 1, [], [], _ => by simp [F2]
  | n + 1, _ :: _, _ :: _, h => ⟨h.1, h.2.take n⟩
  | n + 1, [], _ :: _, h => h.elim
  | n + 1, _ :: _, [], h => h.elim
theorem F2.drop {α β : Type} {R : α → β → Prop} : ∀ (n : Nat) {l : List α} {m : List β}, F2 R l m → F2 R (l.drop n) (m.drop n)
  | 0, l, m, h => by simpa using h
  | n + 1, [], [], _ => by simp [F2]
  | n + 1, _ :: _, _ :: _, h => h.2.drop n
  | n + 1, [], _ :: _, h => h.elim
  | n + 1, _ :: _, [], h => h.elim
theorem F2.get {α β : Type} {R : α → β → Prop} : ∀ {l : List α} {m : List β} (i : Nat) (a : α), F2 R l m → l[i]? = some a → ∃ b, m[i]? = some b ∧ R a b
  | [], [], i, a, _, h => by simp at h
  | x :: _, y :: _, 0, a, h, e => by simp at e; subst e; exact ⟨y, by simp, h.1⟩
  | _ :: _, _ :: _, i + 1, a, h, e => by
    obtain ⟨b, hb, hr⟩ := h.2.get i a (by simpa using e)
    exact ⟨b, by simpa using hb, hr⟩
  | [], _ :: _, _, _, h, _ => h.elim
  | _ :: _, [], _, _, h, _ => h.elim
theorem F2.get' {α β : Type} {R : α → β → Prop} : ∀ {l : List α} {m : List β} (i : Nat) (b : β), F2 R l m → m[i]? = some b → ∃ a, l[i]? = some a ∧ R a b
  | [], [], i, a, _, h => by simp at h
  | x :: _, y :: _, 0, a, h, e => by simp at e; subst e; exact ⟨x, by simp, h.1⟩
  | _ :: _, _ :: _, i + 1, a, h, e => by
    obtain ⟨b, hb, hr⟩ := h.2.get' i a (by simpa using e)
    exact ⟨b, by simpa using hb, hr⟩
  | [], _ :: _, _, _, h, _ => h.elim
  | _ :: _, [], _, _, h, _ => h.elim
theorem F2.map {α β γ : Type} {R : α → β → Prop} {S : γ → β → Prop} (f : α → γ) (h : ∀ a b, R a b → S (f a) b) : ∀ {l : List α} {m : List β}, F2 R l m → F2 S (l.map f) m
  | [], [], _ => trivial
  | _ :: _, _ :: _, hh => ⟨h _ _ hh.1, hh.2.map f h⟩
  | [], _ :: _, h => h.elim
  | _ :: _, [], h => h.elim
theorem F2.split {α β : Type} {R : α → β → Prop} : ∀ {l l' : List α} {m : List β}, F2 R (l ++ l') m → ∃ m1 m2, m = m1 ++ m2 ∧ F2 R l m1 ∧ F2 R l' m2
  | [], l', m, h => ⟨[], m, rfl, trivial, h⟩
  | a :: l, l', [], h => h.elim
  | a :: l, l', b :: m, h => by
    obtain ⟨m1, m2, rfl, h1, h2⟩ := F2.split (l := l) (l' := l') h.2
    exact ⟨b :: m1, m2, rfl, ⟨h.1, h1⟩, h2⟩

/-- Rows of elements, one behind the other. -/
def Rows {α : Type} (R : α → List Value → Prop) : List α → List Value → Prop
  | [], cs => cs = []
  | x :: r, cs => ∃ c1 c2, cs = c1 ++ c2 ∧ R x c1 ∧ Rows R r c2

theorem Rows.imp {α : Type} {R S : α → List Value → Prop} (h : ∀ x c, R x c → S x c) : ∀ {xs : List α} {cs : List Value}, Rows R xs cs → Rows S xs cs
  | [], _, hh => hh
  | _ :: _, _, ⟨c1, c2, e, a, b⟩ => ⟨c1, c2, e, h _ _ a, b.imp h⟩
theorem Rows.append {α : Type} {R : α → List Value → Prop} : ∀ {xs ys : List α} {c d : List Value}, Rows R xs c → Rows R ys d → Rows R (xs ++ ys) (c ++ d)
  | [], ys, c, d, h, h' => by simp [Rows] at h; subst h; simpa using h'
  | x :: xs, ys, _, d, ⟨c1, c2, e, a, b⟩, h' => ⟨c1, c2 ++ d, by simp [e], a, b.append h'⟩
theorem Rows.length {α : Type} {R : α → List Value → Prop} {n : Nat} (hn : ∀ x c, R x c → c.length = n) : ∀ {xs : List α} {cs : List Value}, Rows R xs cs → cs.length = xs.length * n
  | [], _, h => by simp [Rows] at h; subst h; simp
  | x :: xs, _, ⟨c1, c2, e, a, b⟩ => by
    subst e
    rw [List.length_append, hn _ _ a, b.length hn, List.length_cons, Nat.succ_mul, Nat.add_comm]
theorem Rows.drop {α : Type} {R : α → List Value → Prop} {n : Nat} (hn : ∀ x c, R x c → c.length = n) : ∀ (k : Nat) {xs : List α} {cs : List Value}, Rows R xs cs → Rows R (xs.drop k) (cs.drop (k * n))
  | 0, xs, cs, h => by simpa using h
  | k + 1, [], cs, h => by simp [Rows] at h ⊢; subst h; simp
  | k + 1, x :: xs, _, ⟨c1, c2, e, a, b⟩ => by
    subst e
    have hl := hn _ _ a
    rw [List.drop_succ_cons, Nat.succ_mul, Nat.add_comm, ← hl, ← List.drop_drop, List.drop_left]
    rw [hl]
    exact b.drop hn k
theorem Rows.take {α : Type} {R : α → List Value → Prop} {n : Nat} (hn : ∀ x c, R x c → c.length = n) : ∀ (k : Nat) {xs : List α} {cs : List Value}, Rows R xs cs → Rows R (xs.take k) (cs.take (k * n))
  | 0, xs, cs, h => by simp [Rows]
  | k + 1, [], cs, h => by simp [Rows] at h ⊢; subst h; simp
  | k + 1, x :: xs, _, ⟨c1, c2, e, a, b⟩ => by
    subst e
    have hl := hn _ _ a
    refine ⟨c1, c2.take (k * n), ?_, a, b.take hn k⟩
    rw [Nat.succ_mul, Nat.add_comm, ← hl, List.take_length_add_append]
theorem Rows.get {α : Type} {R : α → List Value → Prop} {n : Nat} (hn : ∀ x c, R x c → c.length = n) : ∀ (i : Nat) {xs : List α} {cs : List Value} (x : α), Rows R xs cs → xs[i]? = some x → R x ((cs.drop (i * n)).take n)
  | i, [], _, x, h, e => by simp at e
  | 0, y :: xs, _, x, ⟨c1, c2, e, a, b⟩, h => by
    subst e
    simp at h
    subst h
    have hl := hn _ _ a
    rw [Nat.zero_mul, List.drop_zero, ← hl, List.take_left]
    exact a
  | i + 1, y :: xs, _, x, ⟨c1, c2, e, a, b⟩, h => by
    subst e
    have hl := hn _ _ a
    rw [Nat.succ_mul, Nat.add_comm, ← hl, ← List.drop_drop, List.drop_left, hl]
    exact b.get hn i x (by simpa using h)
theorem Rows.set {α : Type} {R : α → List Value → Prop} {n : Nat} (hn : ∀ x c, R x c → c.length = n) : ∀ (i : Nat) {xs : List α} {cs : List Value} (x : α) (es : List Value), Rows R xs cs → i < xs.length → R x es →
    Rows R (xs.set i x) (cs.take (i * n) ++ es ++ cs.drop (i * n + n))
  | i, [], _, x, es, h, e, _ => by simp at e
  | 0, y :: xs, _, x, es, ⟨c1, c2, e, a, b⟩, h, hx => by
    subst e
    have hl := hn _ _ a
    refine ⟨es, c2, ?_, hx, b⟩
    rw [Nat.zero_mul, List.take_zero, List.nil_append, Nat.zero_add, ← hl, List.drop_left]
  | i + 1, y :: xs, _, x, es, ⟨c1, c2, e, a, b⟩, h, hx => by
    subst e
    have hl := hn _ _ a
    refine ⟨c1, _, ?_, a, b.set hn i x es (by simpa using h) hx⟩
    rw [show (i + 1) * n = c1.length + i * n by rw [Nat.succ_mul, hl, Nat.add_comm], List.take_length_add_append, show c1.length + i * n + n = c1.length + (i * n + n) by omega, ← List.drop_drop, List.drop_left]
    simp
theorem Rows.replicate {α : Type} {R : α → List Value → Prop} (x : α) (es : List Value) (h : R x es) : ∀ n, Rows R (List.replicate n x) (List.flatten (List.replicate n es))
  | 0 => by simp [Rows]
  | n + 1 => ⟨es, _, by simp [List.replicate_succ], h, Rows.replicate x es h n⟩

/-! ### Data in memory -/
abbrev Bad := Nat → Nat → Prop

/-- A cell that holds v, and that nobody may write. -/
def At (w : World) (bad : Bad) (a : Addr) (v : Value) : Prop := w.cell? a = some v ∧ ¬ bad a.block a.off
def RowAt (w : World) (bad : Bad) (a : Addr) (cs : List Value) : Prop := ∀ i v, cs[i]? = some v → At w bad (a.add i) v

def CellsOk (w : World) (bad : Bad) : (t : Ty) → El t → List Value → Prop
  | .int k, x, cs => cs = [.int k x]
  | .bool, x, cs => cs = [.bool x]
  | .str, x, cs => cs = [.string x]
  | .slc t, xs, cs => ∃ A c es, cs = [.slice A xs.length c] ∧ xs.length ≤ c ∧ Rows (CellsOk w bad t) xs es ∧ (es = [] ∨ ∃ ad, A = some ad ∧ RowAt w bad ad es)
  | .pair a b, x, cs => ∃ c1 c2, cs = c1 ++ c2 ∧ CellsOk w bad a x.1 c1 ∧ CellsOk w bad b x.2 c2

theorem CellsOk.mono {w w' : World} {bad bad' : Bad} (h : ∀ a v, At w bad a v → At w' bad' a v) : ∀ (t : Ty) (x : El t) (cs : List Value), CellsOk w bad t x cs → CellsOk w' bad' t x cs
  | .int _, _, _, e => e
  | .bool, _, _, e => e
  | .str, _, _, e => e
  | .slc t, xs, cs, ⟨A, c, es, e, hc, hr, hp⟩ => ⟨A, c, es, e, hc, hr.imp (fun x c => CellsOk.mono h t x c), hp.imp id (fun ⟨ad, ha, hrow⟩ => ⟨ad, ha, fun i v hv => h _ _ (hrow i v hv)⟩)⟩
  | .pair a b, x, cs, ⟨c1, c2, e, h1, h2⟩ => ⟨c1, c2, e, CellsOk.mono h a _ _ h1, CellsOk.mono h b _ _ h2⟩

theorem CellsOk.length {w : World} {bad : Bad} : ∀ (t : Ty) (x : El t) (cs : List Value), CellsOk w bad t x cs → cs.length = nleaf t
  | .int _, _, _, e => by rw [show _ = _ from e]; rfl
  | .bool, _, _, e => by rw [show _ = _ from e]; rfl
  | .str, _, _, e => by rw [show _ = _ from e]; rfl
  | .slc t, xs, cs, ⟨A, c, es, e, _⟩ => by rw [e]; rfl
  | .pair a b, x, cs, ⟨c1, c2, e, h1, h2⟩ => by rw [e, List.length_append, CellsOk.length a _ _ h1, CellsOk.length b _ _ h2]; rfl

theorem CellsOk.one {w : World} {bad : Bad} : ∀ (t : Ty) (x : El t) (cs : List Value), CellsOk w bad t x cs → ∀ u ∈ cs, u.oneCell' = true
  | .int _, _, _, e => by rw [show _ = _ from e]; simp [Value.oneCell']
  | .bool, _, _, e => by rw [show _ = _ from e]; simp [Value.oneCell']
  | .str, _, _, e => by rw [show _ = _ from e]; simp [Value.oneCell']
  | .slc t, xs, cs, ⟨A, c, es, e, _⟩ => by rw [e]; simp [Value.oneCell']
  | .pair a b, x, cs, ⟨c1, c2, e, h1, h2⟩ => by
    intro u hu
    rw [e, List.mem_append] at hu
    exact hu.elim (CellsOk.one a _ _ h1 u) (CellsOk.one b _ _ h2 u)

theorem Rows.one {w : World} {bad : Bad} {t : Ty} : ∀ {xs : List (El t)} {cs : List Value}, Rows (CellsOk w bad t) xs cs → ∀ u ∈ cs, u.oneCell' = true
  | [], _, h => by simp [Rows] at h; subst h; simp
  | x :: xs, _, ⟨c1, c2, e, a, b⟩ => by
    intro u hu
    rw [e, List.mem_append] at hu
    exact hu.elim (CellsOk.one t _ _ a u) (b.one u)

theorem nleaf_pos : ∀ t : Ty, 1 ≤ nleaf t
  | .int _ => Nat.le_refl _
  | .bool => Nat.le_refl _
  | .str => Nat.le_refl _
  | .slc _ => Nat.le_refl _
  | .pair a b => Nat.le_trans (nleaf_pos a) (Nat.le_add_right _ _)

def DRep (w : World) (bad : Bad) : DLeaf → Value → Prop
  | .v x, v => v = x ∧ x.oneCell' = true
  | .dat t xs, v => CellsOk w bad (.slc t) xs [v]

theorem DRep.mono {w w' : World} {bad bad' : Bad} (h : ∀ a v, At w bad a v → At w' bad' a v) : ∀ (l : DLeaf) (v : Value), DRep w bad l v → DRep w' bad' l v
  | .v _, _, e => e
  | .dat t xs, v, e => CellsOk.mono h (.slc t) xs [v] e
theorem DRep.one {w : World} {bad : Bad} : ∀ (l : DLeaf) (v : Value), DRep w bad l v → v.oneCell' = true
  | .v x, v, ⟨e, h⟩ => by rw [e]; exact h
  | .dat t xs, v, e => CellsOk.one (.slc t) xs [v] e v (by simp)

theorem leaves_length : ∀ (t : Ty) (x : El t), (leaves t x).length = nleaf t
  | .int _, _ => rfl
  | .bool, _ => rfl
  | .str, _ => rfl
  | .slc _, _ => rfl
  | .pair a b, x => by simp only [leaves, List.length_append, leaves_length a, leaves_length b, nleaf]

theorem leaves_of {w : World} {bad : Bad} : ∀ (t : Ty) (x : El t) (cs : List Value), CellsOk w bad t x cs → F2 (DRep w bad) (leaves t x) cs
  | .int k, x, _, e => by rw [show _ = _ from e]; exact ⟨⟨rfl, rfl⟩, trivial⟩
  | .bool, x, _, e => by rw [show _ = _ from e]; exact ⟨⟨rfl, rfl⟩, trivial⟩
  | .str, x, _, e => by rw [show _ = _ from e]; exact ⟨⟨rfl, rfl⟩, trivial⟩
  | .slc t, xs, cs, h => by
    obtain ⟨A, c, es, e, h'⟩ := h
    subst e
    exact ⟨⟨A, c, es, rfl, h'⟩, trivial⟩
  | .pair a b, x, cs, ⟨c1, c2, e, h1, h2⟩ => by subst e; exact (leaves_of a _ _ h1).append (leaves_of b _ _ h2)

theorem castL_eq {t t' : Ty} {xs : List (El t)} {ys : List (El t')} (h : castL t t' xs = some ys) : ∃ e : t = t', ys = e ▸ xs := by
  unfold castL at h
  split at h
  · rename_i e
    subst e
    exact ⟨rfl, (Option.some.inj h).symm⟩
  · cases h

theorem castM_eq {t t' : Ty} {xs : List (ByteArray × El t)} {ys : List (ByteArray × El t')} (h : castM t t' xs = some ys) : ∃ e : t = t', ys = e ▸ xs := by
  unfold castM at h
  split at h
  · rename_i e
    subst e
    exact ⟨rfl, (Option.some.inj h).symm⟩
  · cases h

theorem ofLeaves_of {w : World} {bad : Bad} : ∀ (t : Ty) (l : List DLeaf) (x : El t) (r : List DLeaf) (cs : List Value), ofLeaves t l = some (x, r) → F2 (DRep w bad) l cs →
    ∃ c1 c2, cs = c1 ++ c2 ∧ CellsOk w bad t x c1 ∧ F2 (DRep w bad) r c2
  | .int k, l, x, r, cs, h, hf => by
    match l, cs, hf with
    | [], [], _ => simp [ofLeaves] at h
    | .dat _ _ :: _, _ :: _, _ => simp [ofLeaves] at h
    | .v v :: l, c :: cs, hf =>
      cases v <;> simp [ofLeaves] at h
      rename_i k' n
      obtain ⟨rfl, rfl, rfl⟩ := h
      exact ⟨[c], cs, rfl, by rw [hf.1.1]; rfl, hf.2⟩
  | .bool, l, x, r, cs, h, hf => by
    match l, cs, hf with
    | [], [], _ => simp [ofLeaves] at h
    | .dat _ _ :: _, _ :: _, _ => simp [ofLeaves] at h
    | .v v :: l, c :: cs, hf =>
      cases v <;> simp [ofLeaves] at h
      obtain ⟨rfl, rfl⟩ := h
      exact ⟨[c], cs, rfl, by rw [hf.1.1]; rfl, hf.2⟩
  | .str, l, x, r, cs, h, hf => by
    match l, cs, hf with
    | [], [], _ => simp [ofLeaves] at h
    | .dat _ _ :: _, _ :: _, _ => simp [ofLeaves] at h
    | .v v :: l, c :: cs, hf =>
      cases v <;> simp [ofLeaves] at h
      obtain ⟨rfl, rfl⟩ := h
      exact ⟨[c], cs, rfl, by rw [hf.1.1]; rfl, hf.2⟩
  | .slc t, l, x, r, cs, h, hf => by
    match l, cs, hf with
    | [], [], _ => simp [ofLeaves] at h
    | .dat t' xs :: l, c :: cs, hf =>
      simp only [ofLeaves] at h
      split at h
      · rename_i ys hy
        obtain ⟨e, hy'⟩ := castL_eq hy
        subst e
        simp at h
        obtain ⟨rfl, rfl⟩ := h
        exact ⟨[c], cs, rfl, by rw [hy']; exact hf.1, hf.2⟩
      · cases h
    | .v v :: l, c :: cs, hf =>
      have hv : v = .slice none 0 0 ∧ x = ([] : List (El t)) ∧ r = l := by
        cases v <;> try (simp [ofLeaves] at h; done)
        rename_i a n k
        cases a with
        | some _ => simp [ofLeaves] at h
        | none =>
          cases n with
          | succ _ => simp [ofLeaves] at h
          | zero =>
            cases k with
            | succ _ => simp [ofLeaves] at h
            | zero => simp [ofLeaves] at h; exact ⟨rfl, h.1, h.2.symm⟩
      obtain ⟨rfl, rfl, rfl⟩ := hv
      exact ⟨[c], cs, rfl, ⟨none, 0, [], by rw [hf.1.1]; rfl, by simp, rfl, .inl rfl⟩, hf.2⟩
  | .pair a b, l, x, r, cs, h, hf => by
    simp only [ofLeaves] at h
    split at h
    · rename_i y r1 h1
      split at h
      · rename_i z r2 h2
        simp at h
        obtain ⟨rfl, rfl⟩ := h
        obtain ⟨c1, c2, rfl, ha, hf2⟩ := ofLeaves_of a _ _ _ _ h1 hf
        obtain ⟨c3, c4, rfl, hb, hf3⟩ := ofLeaves_of b _ _ _ _ h2 hf2
        exact ⟨c1 ++ c3, c4, by simp, ⟨c1, c3, rfl, ha, hb⟩, hf3⟩
      · cases h
    · cases h

theorem elemsOf_of {w : World} {bad : Bad} (t : Ty) : ∀ (n : Nat) (l : List DLeaf) (xs : List (El t)) (cs : List Value), elemsOf t n l = some xs → F2 (DRep w bad) l cs → Rows (CellsOk w bad t) xs cs ∧ xs.length = n
  | 0, [], xs, cs, h, hf => by
    simp [elemsOf] at h
    subst h
    match cs, hf with
    | [], _ => exact ⟨rfl, rfl⟩
  | 0, _ :: _, xs, cs, h, hf => by simp [elemsOf] at h
  | n + 1, l, xs, cs, h, hf => by
    simp only [elemsOf] at h
    split at h
    · rename_i x r h1
      split at h
      · rename_i ys h2
        simp at h
        subst h
        obtain ⟨c1, c2, rfl, ha, hf2⟩ := ofLeaves_of t _ _ _ _ h1 hf
        obtain ⟨hr, hl⟩ := elemsOf_of t n r ys c2 h2 hf2
        exact ⟨⟨c1, c2, rfl, ha, hr⟩, by simp [hl]⟩
      · cases h
    · cases h

/-! ### Places and values -/
structure Interp where
  v : Nat → Value
  sz : Nat → Nat

def LRep (I : Interp) (dom : Nat → Prop) (w : World) (bad : Bad) : Leaf → Value → Prop
  | .d x, v => DRep w bad x v
  | .own r, v => dom r ∧ v = I.v r ∧ v.oneCell' = true
  | .bp b off, v => dom b ∧ ∃ g o, I.v b = .pointer (some ⟨g, o, none⟩) ∧ v = .pointer (some ⟨g, o + off, none⟩)
  | .ep r i off, v => dom r ∧ ∃ g b n c, I.v r = .slice (some ⟨g, b, none⟩) n c ∧ i < n ∧ v = .pointer (some ⟨g, b + i * I.sz r + off, none⟩)
  | .dp cs, v => ∃ a vs, v = .pointer (some a) ∧ F2 (DRep w bad) cs vs ∧ RowAt w bad a vs
  | .fn f caps, v => ∃ as : List Value, v = .func (.func f) #[] as.toArray ∧ F2 (fun b x => dom b ∧ ∃ g o, I.v b = .pointer (some ⟨g, o, none⟩) ∧ x = .pointer (some ⟨g, o, none⟩)) caps as
  | .mv f b, v => ∃ x, v = .func (.func f) #[x] #[] ∧ dom b ∧ ∃ g o, I.v b = .pointer (some ⟨g, o, none⟩) ∧ x = .pointer (some ⟨g, o, none⟩)
  | .ub q n, v => ∃ b, v = .bool b ∧ (n ≠ 0 → b = q)

def AVRep (I : Interp) (dom : Nat → Prop) (w : World) (bad : Bad) : AV → Value → Prop
  | .lf l, v => LRep I dom w bad l v
  | .ag ls, v => ∃ cs : List Value, v = .agg cs.toArray ∧ F2 (LRep I dom w bad) ls cs
def VRep (I : Interp) (dom : Nat → Prop) (w : World) (bad : Bad) : Val → Value → Prop
  | .undef, _ => True
  | .skip, v => v = Go.undef
  | .one a, v => AVRep I dom w bad a v
  | .tup l, v => ∃ vs : List Value, v = .tuple vs.toArray ∧ F2 (AVRep I dom w bad) l vs

/-- What is kept from one interpretation and world to another. -/
structure Keep (I : Interp) (dom : Nat → Prop) (w : World) (bad : Bad) (I' : Interp) (dom' : Nat → Prop) (w' : World) (bad' : Bad) : Prop where
  hd : ∀ i, dom i → dom' i
  hv : ∀ i, dom i → I'.v i = I.v i
  hs : ∀ i, dom i → I'.sz i = I.sz i
  ha : ∀ a v, At w bad a v → At w' bad' a v

section
variable {I I' : Interp} {dom dom' : Nat → Prop} {w w' : World} {bad bad' : Bad}
theorem Keep.lrep (K : Keep I dom w bad I' dom' w' bad') : ∀ (l : Leaf) (v : Value), LRep I dom w bad l v → LRep I' dom' w' bad' l v
  | .d x, v, h => DRep.mono K.ha x v h
  | .own r, v, ⟨hd, e, h1⟩ => ⟨K.hd r hd, by rw [K.hv r hd]; exact e, h1⟩
  | .bp b off, v, ⟨hd, g, o, e, h⟩ => ⟨K.hd b hd, g, o, by rw [K.hv b hd]; exact e, h⟩
  | .ep r i off, v, ⟨hd, g, b, n, c, e, hi, h⟩ => ⟨K.hd r hd, g, b, n, c, by rw [K.hv r hd]; exact e, hi, by rw [K.hs r hd]; exact h⟩
  | .dp cs, v, ⟨a, vs, e, hf, hr⟩ => ⟨a, vs, e, hf.imp (fun l v => DRep.mono K.ha l v), fun i v hv => K.ha _ _ (hr i v hv)⟩
  | .fn f caps, v, ⟨as, e, hf⟩ => ⟨as, e, hf.imp (fun b x ⟨hd, g, o, e1, e2⟩ => ⟨K.hd b hd, g, o, by rw [K.hv b hd]; exact e1, e2⟩)⟩
  | .mv f b, v, ⟨x, e, hd, g, o, e1, e2⟩ => ⟨x, e, K.hd b hd, g, o, by rw [K.hv b hd]; exact e1, e2⟩
  | .ub q n, v, h => h
theorem Keep.avrep (K : Keep I dom w bad I' dom' w' bad') : ∀ (l : AV) (v : Value), AVRep I dom w bad l v → AVRep I' dom' w' bad' l v
  | .lf l, v, h => K.lrep l v h
  | .ag ls, v, ⟨cs, e, hf⟩ => ⟨cs, e, hf.imp K.lrep⟩
theorem Keep.vrep (K : Keep I dom w bad I' dom' w' bad') : ∀ (l : Val) (v : Value), VRep I dom w bad l v → VRep I' dom' w' bad' l v
  | .undef, v, h => trivial
  | .skip, v, h => h
  | .one a, v, h => K.avrep a v h
  | .tup l, v, ⟨vs, e, hf⟩ => ⟨vs, e, hf.imp K.avrep⟩
theorem LRep.one : ∀ (l : Leaf) (v : Value), LRep I dom w bad l v → v.oneCell' = true
  | .d x, v, h => DRep.one x v h
  | .own r, v, ⟨hd, e, h1⟩ => h1
  | .bp b off, v, ⟨hd, g, o, e, h⟩ => by rw [h]; rfl
  | .ep r i off, v, ⟨hd, g, b, n, c, e, hi, h⟩ => by rw [h]; rfl
  | .dp cs, v, ⟨a, vs, e, _⟩ => by rw [e]; rfl
  | .fn f caps, v, ⟨as, e, _⟩ => by rw [e]; rfl
  | .mv f b, v, ⟨x, e, _⟩ => by rw [e]; rfl
  | .ub q n, v, ⟨b, e, _⟩ => by rw [e]; rfl
end

/-! ### Objects -/
/-- A row of one's own: a slice from some place of its block on, with room up to the block's end; or one without any room. -/
def OwnRow (w : World) (e : TypeId) (size : Nat) (v : Value) (n : Nat) (xs : List Value) : Prop :=
  xs.length = n * size ∧
  ((∃ A, v = .slice A 0 0 ∧ n = 0) ∨
   ∃ g b cap cur, 0 < cap ∧ v = .slice (some ⟨g, b, none⟩) n cap ∧ w.heap[g]? = some (.cells cur e (0, 0)) ∧ n ≤ cap ∧ cap ≤ maxLen ∧ cur.size = b + cap * size ∧ (cur.toList.drop b).take (n * size) = xs)
/-- The block that such a slice has for itself. -/
def ownB : Value → Option Nat
  | .slice (some a) _ (_ + 1) => some a.block
  | _ => none
theorem ownB_pos {g b n cap : Nat} (h : 0 < cap) : ownB (.slice (some ⟨g, b, none⟩) n cap) = some g := by
  cases cap with
  | zero => omega
  | succ k => rfl
theorem ownB_zero (A : Option Addr) (n : Nat) : ownB (.slice A n 0) = none := by
  cases A <;> rfl
theorem ownB_of {v : Value} {k : Nat} (h : ownB v = some k) : ∃ a n c, v = .slice (some a) n c ∧ 0 < c ∧ a.block = k := by
  unfold ownB at h
  split at h
  · rename_i a n c
    exact ⟨a, n, c + 1, rfl, by omega, by simpa using h⟩
  · cases h
theorem OwnRow.of {w : World} {e : TypeId} {size n : Nat} {v : Value} {xs : List Value} (h : w.ownsRow 0 e size v n xs) : OwnRow w e size v n xs := by
  refine ⟨h.1, ?_⟩
  rcases h.2 with ⟨h1, h2⟩ | ⟨g, cap, cur, hv, _, hh, hc1, hc2, hs, ht⟩
  · exact .inl ⟨none, by rw [h1], h2⟩
  · cases cap with
    | zero =>
      have : n = 0 := by omega
      subst this
      exact .inl ⟨_, hv, rfl⟩
    | succ k => exact .inr ⟨g, 0, k + 1, cur, by omega, hv, hh, hc1, hc2, by omega, by simpa using ht⟩
theorem OwnRow.zero (w : World) (e : TypeId) (size : Nat) (A : Option Addr) : OwnRow w e size (.slice A 0 0) 0 [] := ⟨by simp, .inl ⟨A, rfl, rfl⟩⟩
def ObjOk (I : Interp) (dom : Nat → Prop) (w : World) (bad : Bad) (id : Nat) : Obj → Prop
  | .row e t xs => I.sz id = nleaf t ∧ ∃ cells, Rows (CellsOk w bad t) xs cells ∧ OwnRow w e (nleaf t) (I.v id) xs.length cells
  | .frow t xs => I.sz id = nleaf t ∧ CellsOk w bad (.slc t) xs [I.v id]
  | .box ls => 0 < ls.length ∧ ∃ g o c e vs, I.v id = .pointer (some ⟨g, o, none⟩) ∧ w.heap[g]? = some (.cells c e (0, 0)) ∧ F2 (LRep I dom w bad) ls vs ∧ ∀ i v, vs[i]? = some v → c[o + i]? = some v
  | .fbox ds => ∃ g o vs, I.v id = .pointer (some ⟨g, o, none⟩) ∧ F2 (DRep w bad) ds vs ∧ RowAt w bad ⟨g, o, none⟩ vs
  | .view r lo n => dom r ∧ ((∃ A, I.v r = .slice A 0 0 ∧ I.v id = .slice A 0 0 ∧ lo = 0 ∧ n = 0) ∨ ∃ g b n0 c0 o c, I.v r = .slice (some ⟨g, b, none⟩) n0 c0 ∧ I.v id = .slice (some ⟨g, o, none⟩) n c ∧ n ≤ c ∧ lo + n ≤ n0 ∧ (n ≠ 0 → o = b + lo * I.sz r))
  | .iter s pos => ∃ g k, I.v id = .pointer (some ⟨g, 0, none⟩) ∧ pos = ((k : Nat) : Int) ∧ w.heap[g]? = some (.stringIter s k)
  | .smap t m => ∃ g es clock, I.v id = .map (some g) ∧ w.heap[g]? = some (.map es clock) ∧ F2 (fun p (e : MapEntry) => e.key = .string p.1 ∧ CellsOk w bad t p.2 [e.val]) m es.toList
  | .gone => True

def cellsOf (I : Interp) (id : Nat) : Obj → Bad
  | .row _ _ _, g, _ => ∃ b n c, 0 < c ∧ I.v id = .slice (some ⟨g, b, none⟩) n c
  | .box ls, g, o => ∃ o0, I.v id = .pointer (some ⟨g, o0, none⟩) ∧ o0 ≤ o ∧ o < o0 + ls.length
  | .iter _ _, g, _ => ∃ o0, I.v id = .pointer (some ⟨g, o0, none⟩)
  | .smap _ _, g, _ => I.v id = .map (some g)
  | _, _, _ => False

def MutOf (I : Interp) (objs : Nat → Option Obj) : Bad := fun g o => ∃ id ob, objs id = some ob ∧ cellsOf I id ob g o
def Dom (objs : Nat → Option Obj) : Nat → Prop := fun i => (objs i).isSome = true

/-! ### Frames -/
structure Fr (m : Bad) (w w' : World) : Prop where
  os : w'.os = w.os
  tape : w'.tape = w.tape
  output : w'.output = w.output
  size : w.heap.size ≤ w'.heap.size
  block : ∀ g, g < w.heap.size → (∀ o, m g o) ∨ w'.heap[g]? = w.heap[g]? ∨
    ∃ c c' e f, w.heap[g]? = some (.cells c e f) ∧ w'.heap[g]? = some (.cells c' e f) ∧ c'.size = c.size ∧ ∀ o : Nat, ¬ m g o → c'[o]? = c[o]?

theorem Fr.refl (m : Bad) (w : World) : Fr m w w := ⟨rfl, rfl, rfl, Nat.le_refl _, fun _ _ => .inr (.inl rfl)⟩
theorem Fr.trans {m m' : Bad} {a b c : World} (h : Fr m a b) (h' : Fr m' b c) (hm : ∀ g o, m' g o → m g o ∨ a.heap.size ≤ g) : Fr m a c := by
  refine ⟨h'.os.trans h.os, h'.tape.trans h.tape, h'.output.trans h.output, Nat.le_trans h.size h'.size, fun g hg => ?_⟩
  have hm' : ∀ o, m' g o → m g o := fun o ho => (hm g o ho).resolve_right (by omega)
  rcases h.block g hg with h1 | h1 | ⟨c1, c2, e, f, h1, h2, h3, h4⟩
  · exact .inl h1
  · rcases h'.block g (Nat.lt_of_lt_of_le hg h.size) with k1 | k1 | ⟨d1, d2, e', f', k1, k2, k3, k4⟩
    · exact .inl fun o => hm' o (k1 o)
    · exact .inr (.inl (k1.trans h1))
    · exact .inr (.inr ⟨d1, d2, e', f', h1 ▸ k1, k2, k3, fun o ho => k4 o (fun hh => ho (hm' o hh))⟩)
  · rcases h'.block g (Nat.lt_of_lt_of_le hg h.size) with k1 | k1 | ⟨d1, d2, e', f', k1, k2, k3, k4⟩
    · exact .inl fun o => hm' o (k1 o)
    · exact .inr (.inr ⟨c1, c2, e, f, h1, k1.trans h2, h3, h4⟩)
    · rw [h2] at k1
      injection k1 with k1
      injection k1 with ka kb kc
      subst ka; subst kb; subst kc
      exact .inr (.inr ⟨c1, d2, e, f, h1, k2, k3.trans h3, fun o ho => (k4 o (fun hh => ho (hm' o hh))).trans (h4 o ho)⟩)
theorem Fr.mono {m m' : Bad} {a b : World} (h : Fr m a b) (hm : ∀ g o, m g o → m' g o) : Fr m' a b := by
  refine ⟨h.os, h.tape, h.output, h.size, fun g hg => ?_⟩
  rcases h.block g hg with h1 | h1 | ⟨c1, c2, e, f, h1, h2, h3, h4⟩
  · exact .inl fun o => hm g o (h1 o)
  · exact .inr (.inl h1)
  · exact .inr (.inr ⟨c1, c2, e, f, h1, h2, h3, fun o ho => h4 o (fun hh => ho (hm g o hh))⟩)

theorem cell_some {w : World} {a : Addr} {v : Value} (h : w.cell? a = some v) : ∃ c e f, w.heap[a.block]? = some (.cells c e f) ∧ a.spot = none ∧ c[a.off]? = some v := by
  unfold World.cell? at h
  split at h
  · rename_i c e f hb
    cases hs : a.spot with
    | none => exact ⟨c, e, f, hb, rfl, by simpa [hs] using h⟩
    | some _ => simp [hs] at h
  · cases h
theorem cell_of {w : World} {g o : Nat} {c : Array Value} {e : TypeId} {f : Nat × Nat} {v : Value} (h : w.heap[g]? = some (.cells c e f)) (hc : c[o]? = some v) : w.cell? ⟨g, o, none⟩ = some v := by
  simp [World.cell?, h, hc]

theorem Fr.cell {m : Bad} {w w' : World} (h : Fr m w w') {a : Addr} {v : Value} (hc : w.cell? a = some v) (hm : ¬ m a.block a.off) : w'.cell? a = some v := by
  obtain ⟨c, e, f, hb, hs, hv⟩ := cell_some hc
  rcases h.block a.block (World.block_lt_of_cell? w a hc) with h1 | h1 | ⟨c1, c2, e', f', h1, h2, h3, h4⟩
  · exact absurd (h1 a.off) hm
  · rw [← hc]; exact World.cell?_of_block h1
  · rw [hb] at h1
    injection h1 with h1
    injection h1 with ka kb kc
    subst ka; subst kb; subst kc
    simp [World.cell?, h2, hs, h4 a.off hm, hv]

theorem Fr.at_ {m : Bad} {w w' : World} {bad bad' : Bad} (h : Fr m w w') (hm : ∀ g o, m g o → bad g o) (hb : ∀ g o, bad' g o → bad g o ∨ w.heap.size ≤ g) : ∀ a v, At w bad a v → At w' bad' a v := by
  intro a v ⟨hc, hn⟩
  refine ⟨h.cell hc (fun hh => hn (hm _ _ hh)), fun hh => ?_⟩
  rcases hb _ _ hh with h1 | h1
  · exact hn h1
  · have := World.block_lt_of_cell? w a hc
    omega

/-! ### The relation of a state and a world -/
structure Ctx where
  E : Env
  w0 : World
  mut0 : Bad
  ban : Bad
  v0 : Nat → Value
  sz0 : Nat → Nat

def badOf (C : Ctx) (I : Interp) (objs : Nat → Option Obj) : Bad := fun g o => C.ban g o ∨ MutOf I objs g o

structure WRel (C : Ctx) (I : Interp) (objs : Nat → Option Obj) (w : World) : Prop where
  ok : ∀ id ob, objs id = some ob → ObjOk I (Dom objs) w (badOf C I objs) id ob
  lt : ∀ g o, MutOf I objs g o → g < w.heap.size
  disj : ∀ id id' ob ob' g o, objs id = some ob → objs id' = some ob' → cellsOf I id ob g o → cellsOf I id' ob' g o → id = id'
  globs : ∀ g cs, C.E.glob g = some cs → LRep I (Dom objs) w (badOf C I objs) (.dp cs) (.pointer (some ⟨g, 0, none⟩))
  frame : Fr C.mut0 C.w0 w
  within : ∀ g o, MutOf I objs g o → C.mut0 g o ∨ C.w0.heap.size ≤ g
  noban : ∀ g o, MutOf I objs g o → ¬ C.ban g o
  banlt : ∀ g o, C.ban g o → g < C.w0.heap.size
  base : ∀ k, k < C.E.n0 → Dom objs k ∧ I.v k = C.v0 k ∧ I.sz k = C.sz0 k
  full : ∀ g cs, C.E.glob g = some cs → cs ≠ [] → ∃ c e f, w.heap[g]? = some (.cells c e f) ∧ c.size = cs.length

theorem ownsRow_keep {m : Bad} {w w' : World} {e : TypeId} {size n : Nat} {v : Value} {xs : List Value} (h : OwnRow w e size v n xs) (F : Fr m w w') (hm : ∀ g b c, 0 < c → v = .slice (some ⟨g, b, none⟩) n c → ∀ o, ¬ m g o) : OwnRow w' e size v n xs := by
  refine ⟨h.1, ?_⟩
  rcases h.2 with h2 | ⟨g, b, cap, cur, h0, rfl, hh, rest⟩
  · exact .inl h2
  · refine .inr ⟨g, b, cap, cur, h0, rfl, ?_, rest⟩
    have hm' := hm g b cap h0 rfl
    rcases F.block g (Array.getElem?_eq_some_iff.1 hh).1 with h1 | h1 | ⟨c1, c2, e', f', h1, h2, h3, h4⟩
    · exact absurd (h1 0) (hm' 0)
    · rw [h1]; exact hh
    · rw [hh] at h1
      injection h1 with h1
      injection h1 with ka kb kc
      subst ka; subst kb; subst kc
      rw [h2]
      have : c2 = cur := by
        apply Array.ext_getElem?
        intro i
        exact h4 i (hm' i)
      rw [this]

theorem ownsRow_shape {w : World} {e : TypeId} {size n : Nat} {v : Value} {xs : List Value} (h : OwnRow w e size v n xs) : (∃ A, v = .slice A 0 0 ∧ n = 0) ∨ ∃ g b c, v = .slice (some ⟨g, b, none⟩) n c ∧ 0 < c ∧ g < w.heap.size := by
  rcases h.2 with h2 | ⟨g, b, cap, cur, h0, rfl, hh, rest⟩
  · exact .inl h2
  · exact .inr ⟨g, b, cap, rfl, h0, (Array.getElem?_eq_some_iff.1 hh).1⟩

/-- An object that isn't written stays what it was. -/
theorem ObjOk.keep {I I' : Interp} {dom dom' : Nat → Prop} {w w' : World} {bad bad' m : Bad} (K : Keep I dom w bad I' dom' w' bad') (F : Fr m w w') (id : Nat) (ob : Obj) (hd : dom id)
    (hm : ∀ g o, cellsOf I id ob g o → ¬ m g o) (h : ObjOk I dom w bad id ob) : ObjOk I' dom' w' bad' id ob := by
  cases ob with
  | row e t xs =>
    obtain ⟨hs, cells, hr, ho⟩ := h
    refine ⟨by rw [K.hs id hd]; exact hs, cells, hr.imp (fun x c => CellsOk.mono K.ha t x c), ?_⟩
    rw [K.hv id hd]
    exact ownsRow_keep ho F fun g b c h0 hv o => hm g o ⟨b, _, c, h0, hv⟩
  | frow t xs => exact ⟨by rw [K.hs id hd]; exact h.1, by rw [K.hv id hd]; exact CellsOk.mono K.ha (.slc t) xs _ h.2⟩
  | box ls =>
    obtain ⟨h0, g, o, c, e, vs, hv, hh, hf, hc⟩ := h
    have hlen := hf.length
    refine ⟨h0, ?_⟩
    rcases F.block g (Array.getElem?_eq_some_iff.1 hh).1 with h1 | h1 | ⟨c1, c2, e', f', h1, h2, h3, h4⟩
    · exact absurd (h1 o) (hm g o ⟨o, hv, Nat.le_refl _, by omega⟩)
    · exact ⟨g, o, c, e, vs, by rw [K.hv id hd]; exact hv, by rw [h1]; exact hh, hf.imp K.lrep, hc⟩
    · rw [hh] at h1
      injection h1 with h1
      injection h1 with ka kb kc
      subst ka; subst kb; subst kc
      refine ⟨g, o, c2, e, vs, by rw [K.hv id hd]; exact hv, h2, hf.imp K.lrep, fun i v hi => ?_⟩
      have hil : i < ls.length := by rw [hlen]; exact (List.getElem?_eq_some_iff.1 hi).1
      rw [h4 (o + i) (hm g (o + i) ⟨o, hv, by omega, by omega⟩)]
      exact hc i v hi
  | fbox ds =>
    obtain ⟨g, o, vs, hv, hf, hr⟩ := h
    exact ⟨g, o, vs, by rw [K.hv id hd]; exact hv, hf.imp (fun l v => DRep.mono K.ha l v), fun i v hi => K.ha _ _ (hr i v hi)⟩
  | view r lo n =>
    obtain ⟨hdr, hh⟩ := h
    refine ⟨K.hd r hdr, ?_⟩
    rw [K.hv r hdr, K.hv id hd, K.hs r hdr]
    exact hh
  | iter s pos =>
    obtain ⟨g, k, hv, hp, hh⟩ := h
    refine ⟨g, k, by rw [K.hv id hd]; exact hv, hp, ?_⟩
    rcases F.block g (Array.getElem?_eq_some_iff.1 hh).1 with h1 | h1 | ⟨c1, c2, e', f', h1, h2, h3, h4⟩
    · exact absurd (h1 0) (hm g 0 ⟨0, hv⟩)
    · rw [h1]; exact hh
    · rw [hh] at h1; cases h1
  | smap t m =>
    obtain ⟨g, es, clock, hv, hh, hf⟩ := h
    refine ⟨g, es, clock, by rw [K.hv id hd]; exact hv, ?_, hf.imp (fun p e he => ⟨he.1, CellsOk.mono K.ha t _ _ he.2⟩)⟩
    rcases F.block g (Array.getElem?_eq_some_iff.1 hh).1 with h1 | h1 | ⟨c1, c2, e', f', h1, h2, h3, h4⟩
    · exact absurd (h1 0) (hm g 0 hv)
    · rw [h1]; exact hh
    · rw [hh] at h1; cases h1
  | gone => trivial

end Go.Abs

/- One operation and the world: how a step keeps the relation; the operations that only compute. -/
namespace Go.Abs
open Go

theorem Keep.refl (I : Interp) (dom : Nat → Prop) (w : World) (bad : Bad) : Keep I dom w bad I dom w bad :=
  ⟨fun _ h => h, fun _ _ => rfl, fun _ _ => rfl, fun _ _ h => h⟩
theorem Keep.trans {I I' I'' : Interp} {dom dom' dom'' : Nat → Prop} {w w' w'' : World} {bad bad' bad'' : Bad} (K : Keep I dom w bad I' dom' w' bad') (L : Keep I' dom' w' bad' I'' dom'' w'' bad'') : Keep I dom w bad I'' dom'' w'' bad'' :=
  ⟨fun i h => L.hd i (K.hd i h), fun i h => (L.hv i (K.hd i h)).trans (K.hv i h), fun i h => (L.hs i (K.hd i h)).trans (K.hs i h), fun a v h => L.ha a v (K.ha a v h)⟩

theorem cellsOf_congr {I I' : Interp} {id : Nat} (h : I'.v id = I.v id) (ob : Obj) (g o : Nat) : cellsOf I' id ob g o ↔ cellsOf I id ob g o := by
  cases ob <;> simp only [cellsOf, h]

theorem WRel.upd {C : Ctx} {I : Interp} {objs : Nat → Option Obj} {w : World} (R : WRel C I objs w) {I' : Interp} {objs' : Nat → Option Obj} {w' : World} (m : Bad) (chg : Nat → Prop)
    (F : Fr m w w')
    (hm : ∀ g o, m g o → ∃ id ob, chg id ∧ objs id = some ob ∧ cellsOf I id ob g o)
    (hI : ∀ id, Dom objs id → I'.v id = I.v id ∧ I'.sz id = I.sz id)
    (hdom : ∀ id, Dom objs id → Dom objs' id)
    (hsame : ∀ id, ¬ chg id → objs' id = objs id)
    (hcells : ∀ id ob', chg id → objs' id = some ob' → ∀ g o, cellsOf I' id ob' g o → ((∃ id2 ob2, chg id2 ∧ objs id2 = some ob2 ∧ cellsOf I id2 ob2 g o) ∨ w.heap.size ≤ g) ∧ g < w'.heap.size)
    (hdisj : ∀ id id' ob ob' g o, chg id → chg id' → objs' id = some ob → objs' id' = some ob' → cellsOf I' id ob g o → cellsOf I' id' ob' g o → id = id')
    (hok : Keep I (Dom objs) w (badOf C I objs) I' (Dom objs') w' (badOf C I' objs') → ∀ id ob', chg id → objs' id = some ob' → ObjOk I' (Dom objs') w' (badOf C I' objs') id ob') :
    WRel C I' objs' w' ∧ Keep I (Dom objs) w (badOf C I objs) I' (Dom objs') w' (badOf C I' objs') := by
  classical
  have old : ∀ id ob, ¬ chg id → objs' id = some ob → objs id = some ob ∧ Dom objs id := by
    intro id ob hc h
    rw [hsame id hc] at h
    exact ⟨h, by simp [Dom, h]⟩
  have cell : ∀ id ob g o, ¬ chg id → objs' id = some ob → cellsOf I' id ob g o → cellsOf I id ob g o := by
    intro id ob g o hc h hh
    exact (cellsOf_congr (hI id (old id ob hc h).2).1 ob g o).1 hh
  have mut' : ∀ g o, MutOf I' objs' g o → MutOf I objs g o ∨ w.heap.size ≤ g := by
    intro g o ⟨id, ob, h, hc⟩
    by_cases hch : chg id
    · rcases (hcells id ob hch h g o hc).1 with ⟨id2, ob2, _, h2, h3⟩ | h1
      · exact .inl ⟨id2, ob2, h2, h3⟩
      · exact .inr h1
    · exact .inl ⟨id, ob, (old id ob hch h).1, cell id ob g o hch h hc⟩
  have bad' : ∀ g o, badOf C I' objs' g o → badOf C I objs g o ∨ w.heap.size ≤ g := by
    intro g o h
    rcases h with h | h
    · exact .inl (.inl h)
    · exact (mut' g o h).imp .inr id
  have hm' : ∀ g o, m g o → badOf C I objs g o := fun g o h => by
    obtain ⟨id, ob, _, h1, h2⟩ := hm g o h
    exact .inr ⟨id, ob, h1, h2⟩
  have K : Keep I (Dom objs) w (badOf C I objs) I' (Dom objs') w' (badOf C I' objs') :=
    ⟨hdom, fun i h => (hI i h).1, fun i h => (hI i h).2, F.at_ hm' bad'⟩
  refine ⟨⟨?_, ?_, ?_, ?_, ?_, ?_, ?_, R.banlt, ?_, ?_⟩, K⟩
  · intro id ob h
    by_cases hch : chg id
    · exact hok K id ob hch h
    · obtain ⟨h1, hd⟩ := old id ob hch h
      refine ObjOk.keep K F id ob hd (fun g o hc hmm => ?_) (R.ok id ob h1)
      obtain ⟨id2, ob2, hch2, h2, h3⟩ := hm g o hmm
      have := R.disj id id2 ob ob2 g o h1 h2 hc h3
      subst this
      exact hch hch2
  · intro g o ⟨id, ob, h, hc⟩
    by_cases hch : chg id
    · exact (hcells id ob hch h g o hc).2
    · exact Nat.lt_of_lt_of_le (R.lt g o ⟨id, ob, (old id ob hch h).1, cell id ob g o hch h hc⟩) F.size
  · intro id id' ob ob' g o h h' hc hc'
    by_cases hch : chg id
    · by_cases hch' : chg id'
      · exact hdisj id id' ob ob' g o hch hch' h h' hc hc'
      · have h1' := (old id' ob' hch' h').1
        have hc1' := cell id' ob' g o hch' h' hc'
        rcases (hcells id ob hch h g o hc).1 with ⟨id2, ob2, hch2, h2, h3⟩ | h1
        · have := R.disj id2 id' ob2 ob' g o h2 h1' h3 hc1'
          subst this
          exact absurd hch2 hch'
        · have := R.lt g o ⟨id', ob', h1', hc1'⟩
          omega
    · have h1 := (old id ob hch h).1
      have hc1 := cell id ob g o hch h hc
      by_cases hch' : chg id'
      · rcases (hcells id' ob' hch' h' g o hc').1 with ⟨id2, ob2, hch2, h2, h3⟩ | h2
        · have := R.disj id2 id ob2 ob g o h2 h1 h3 hc1
          subst this
          exact absurd hch2 hch
        · have := R.lt g o ⟨id, ob, h1, hc1⟩
          omega
      · exact R.disj id id' ob ob' g o h1 (old id' ob' hch' h').1 hc1 (cell id' ob' g o hch' h' hc')
  · intro g cs h
    exact K.lrep _ _ (R.globs g cs h)
  · refine R.frame.trans F fun g o hmm => ?_
    obtain ⟨id, ob, _, h1, h2⟩ := hm g o hmm
    exact R.within g o ⟨id, ob, h1, h2⟩
  · intro g o h
    rcases mut' g o h with h1 | h1
    · exact R.within g o h1
    · exact .inr (Nat.le_trans R.frame.size h1)
  · intro g o h hb
    rcases mut' g o h with h1 | h1
    · exact R.noban g o h1 hb
    · have := R.banlt g o hb
      have := R.frame.size
      omega
  · intro k hk
    obtain ⟨hd, h1, h2⟩ := R.base k hk
    exact ⟨hdom k hd, (hI k hd).1.trans h1, (hI k hd).2.trans h2⟩
  · intro g cs hg hne
    obtain ⟨c, e, f, hc, hs⟩ := R.full g cs hg hne
    rcases F.block g (Array.getElem?_eq_some_iff.1 hc).1 with h1 | h1 | ⟨c1, c2, e', f', h1, h2, h3, h4⟩
    · exfalso
      obtain ⟨a, vs, ha, hf, hr⟩ := R.globs g cs hg
      have hpos : 0 < vs.length := by
        rw [← hf.length]
        exact List.length_pos_iff.2 hne
      have hat := hr 0 _ (List.getElem?_eq_getElem hpos)
      injection ha with ha; injection ha with ha
      rw [← ha] at hat
      exact hat.2 (hm' g _ (h1 _))
    · exact ⟨c, e, f, by rw [h1]; exact hc, hs⟩
    · rw [hc] at h1
      injection h1 with h1
      injection h1 with ka kb kc
      subst ka
      exact ⟨c2, e', f', h2, h3.trans hs⟩

/-- What a step leaves. -/
def StepOk (C : Ctx) (I : Interp) (objs : Nat → Option Obj) (w : World) (val : Val) (wr : List (Nat × Obj)) (v : Value) (w' : World) : Prop :=
  ∃ I', WRel C I' (putWr objs wr) w' ∧ Keep I (Dom objs) w (badOf C I objs) I' (Dom (putWr objs wr)) w' (badOf C I' (putWr objs wr)) ∧ VRep I' (Dom (putWr objs wr)) w' (badOf C I' (putWr objs wr)) val v

theorem StepOk.pure {C : Ctx} {I : Interp} {objs : Nat → Option Obj} {w : World} (R : WRel C I objs w) {val : Val} {v : Value} (h : VRep I (Dom objs) w (badOf C I objs) val v) : StepOk C I objs w val [] v w :=
  ⟨I, R, Keep.refl _ _ _ _, h⟩

/-! ### Operands -/
def SRel (C : Ctx) (I : Interp) (objs : Nat → Option Obj) (w : World) (sl : Nat → Val) (a : Act) : Prop :=
  ∀ i, VRep I (Dom objs) w (badOf C I objs) (sl i) (a.tmps.getD i undef)

theorem F2.vals {w : World} {bad : Bad} {I : Interp} {dom : Nat → Prop} : ∀ (l : List Value), l.all Value.oneCell' = true → F2 (LRep I dom w bad) (l.map fun v => .d (.v v)) l
  | [], _ => trivial
  | v :: l, h => by
    simp only [List.all_cons, Bool.and_eq_true] at h
    exact ⟨⟨rfl, h.1⟩, F2.vals l h.2⟩

theorem evalO_of {C : Ctx} {I : Interp} {objs : Nat → Option Obj} {w : World} (R : WRel C I objs w) {sl : Nat → Val} {a : Act} (S : SRel C I objs w sl a) (x : Operand) :
    VRep I (Dom objs) w (badOf C I objs) (evalO C.E sl x) (a.eval x) := by
  cases x with
  | tmp t => exact S t
  | const c =>
    show VRep _ _ _ _ (constV c) c
    cases c <;> first
      | exact ⟨rfl, rfl⟩
      | exact trivial
      | skip
    rename_i cs
    simp only [constV]
    cases hc : cs.toList.all Value.oneCell' with
    | true => exact ⟨cs.toList, rfl, F2.vals cs.toList hc⟩
    | false => exact trivial
  | global g =>
    simp only [evalO]
    cases h : C.E.glob g with
    | none => exact trivial
    | some cs => exact R.globs g cs h
  | func f =>
    exact ⟨[], rfl, trivial⟩

theorem sc_of {I : Interp} {dom : Nat → Prop} {w : World} {bad : Bad} {x v : Value} (h : VRep I dom w bad (.one (.lf (.d (.v x)))) v) : v = x := h.1
theorem sc_mk {I : Interp} {dom : Nat → Prop} {w : World} {bad : Bad} {x : Value} (h : x.oneCell' = true) : VRep I dom w bad (sc x) x := ⟨rfl, h⟩

/-! ### Scalars -/
theorem intOp_run (P : Program) (w : World) {op : BinOp} {k : IntKind} {a b : Int} {v : Value} (h : (intOp op k a b).den = some v) (hs : op ≠ .shl ∧ op ≠ .shr) (t : TypeId) :
    (binOp op t (.int k a) (.int k b)).run P w = .ok v w ∧ v.oneCell' = true := by
  cases op <;> simp only [intOp, Eff.den, Option.some.injEq, reduceCtorEq, ne_eq, not_true_eq_false, false_and, and_false] at h hs <;>
    first
      | (subst h; exact ⟨by simp [binOp, Op.intArith, Op.intCmp, Op.intBits, ibits], rfl⟩)
      | skip
  all_goals
    cases hb : (b != 0)
    · rw [hb] at h; cases h
    · rw [hb] at h
      have hb' : b ≠ 0 := by simpa using hb
      obtain rfl := Option.some.inj h
      exact ⟨by simp [binOp, Op.intDiv, hb'], rfl⟩

theorem strOp_run (P : Program) (w : World) {op : BinOp} {a b : ByteArray} {v : Value} (h : (strOp op a b).den = some v) (t : TypeId) :
    (binOp op t (.string a) (.string b)).run P w = .ok v w ∧ v.oneCell' = true := by
  cases op <;> simp only [strOp, Eff.den, Option.some.injEq, reduceCtorEq] at h <;>
    first
      | (subst h; exact ⟨by simp [binOp, Op.stringOp, eqS, ltS], rfl⟩)
      | skip
  cases hc : catOk a b
  · simp [hc] at h
  · simp [hc] at h
    subst h
    have hc' : ((a.size + b.size : Nat) : Int) ≤ 9223372036854775807 := of_decide_eq_true (by rw [← catOk_eq]; exact hc)
    refine ⟨?_, rfl⟩
    have : ¬ ((a.size + b.size : Nat) : Int) > IntKind.i64.max := by
      have : (IntKind.i64.max : Int) = 9223372036854775807 := by decide
      omega
    simp [binOp, Op.stringOp]
    simp at this
    omega

theorem eqGuard_run (P : Program) (w : World) (op : BinOp) (t : TypeId) (x y : Operand) (a b : Value) (h : (∀ cs, a ≠ .agg cs) ∧ a ≠ .nilIface) : (eqGuard op t x y a b).run P w = .ok () w := by
  unfold eqGuard
  cases op <;> simp
  all_goals
    cases a <;> simp_all

theorem binV_run (P : Program) (w : World) {op : BinOp} {x y v : Value} {t : TypeId} (h : (binV (isBoolT P t) op x y).den = some v) (p q : Operand) :
    (do eqGuard op t p q x y; binOp op t x y : Sem Value).run P w = .ok v w ∧ v.oneCell' = true := by
  have key : (binOp op t x y).run P w = .ok v w ∧ v.oneCell' = true ∧ (∀ cs, x ≠ .agg cs) ∧ x ≠ .nilIface := by
    unfold binV at h
    split at h
    · rename_i k a k' b
      simp only [Eff.den] at h
      by_cases hb : 0 ≤ b
      · simp [hb] at h
        subst h
        refine ⟨?_, rfl, by simp, by simp⟩
        simp [binOp, Op.shift, shlI, show ¬ b < 0 by omega]
      · simp [hb] at h
    · rename_i k a k' b
      simp only [Eff.den] at h
      by_cases hb : 0 ≤ b
      · simp [hb] at h
        subst h
        refine ⟨?_, rfl, by simp, by simp⟩
        simp [binOp, Op.shift, shrI, show ¬ b < 0 by omega]
      · simp [hb] at h
    · rename_i k a k' b h1 h2
      split at h
      · rename_i hk
        subst hk
        obtain ⟨h3, h4⟩ := intOp_run P w h ⟨fun e => h1 e, fun e => h2 e⟩ t
        exact ⟨h3, h4, by simp, by simp⟩
      · cases h
    · obtain ⟨h3, h4⟩ := strOp_run P w h t
      exact ⟨h3, h4, by simp, by simp⟩
    · rename_i a b
      cases hb : isBoolT P t with
      | false => simp [hb, Eff.den] at h
      | true =>
        simp [hb, Eff.den] at h
        subst h
        have ht : P.underlying t = some .bool := by
          unfold isBoolT at hb
          split at hb
          · assumption
          · cases hb
        refine ⟨?_, rfl, by simp, by simp⟩
        simp [binOp, Op.equal, Op.maxDepth, run_equalIn_bool' w 9999 t a b ht]
    · rename_i a b
      cases hb : isBoolT P t with
      | false => simp [hb, Eff.den] at h
      | true =>
        simp [hb, Eff.den] at h
        subst h
        have ht : P.underlying t = some .bool := by
          unfold isBoolT at hb
          split at hb
          · assumption
          · cases hb
        refine ⟨?_, rfl, by simp, by simp⟩
        simp [binOp, Op.equal, Op.maxDepth, run_equalIn_bool' w 9999 t a b ht]
    · cases h
  refine ⟨?_, key.2.1⟩
  rw [Sem.run_bind, eqGuard_run P w op t p q x y key.2.2]
  exact key.1

theorem unV_run (P : Program) (w : World) {op : UnOp} {x v : Value} (h : unV op x = .ret v) : (Op.unary op x).run P w = .ok v w ∧ v.oneCell' = true := by
  unfold unV at h
  split at h <;> first
    | (injection h with h; subst h; exact ⟨by simp [Op.unary, Op.intArith, Op.intBits, ibits], rfl⟩)
    | cases h

end Go.Abs

/- Operations on memory: variables, loads, stores, addresses. -/
namespace Go.Abs
open Go

/-- How an operation goes on: whatever it leaves, the relation holds. -/
def Goes (C : Ctx) (I : Interp) (objs : Nat → Option Obj) (w : World) (o : Oper) (a : Act) (out : Out) : Prop :=
  ∀ (next : Act → World → Prop) (Q : Exit → Act → World → Prop), (∀ v w', StepOk C I objs w out.val out.wr v w' → next (a.put o.dst v) w') → o.wp C.E.P a w next Q

theorem Goes.value {C : Ctx} {I : Interp} {objs : Nat → Option Obj} {w : World} {o : Oper} {a : Act} {out : Out} {v : Value} {w' : World} (h : (execOp a.eval o).run C.E.P w = .ok (.value v) w') (s : StepOk C I objs w out.val out.wr v w') : Goes C I objs w o a out := by
  intro next Q k
  unfold Oper.wp
  rw [h]
  exact k v w' s
theorem Goes.skip {C : Ctx} {I : Interp} {objs : Nat → Option Obj} {w : World} {o : Oper} {a : Act} {out : Out} {w' : World} (h : (execOp a.eval o).run C.E.P w = .ok .skip w') (s : StepOk C I objs w out.val out.wr undef w') : Goes C I objs w o a out := by
  intro next Q k
  unfold Oper.wp
  rw [h]
  exact k undef w' s

theorem addr_add (g o n : Nat) : (⟨g, o, none⟩ : Addr).add n = ⟨g, o + n, none⟩ := by
  unfold Addr.add
  split
  · rename_i h; subst h; rfl
  · rfl
theorem addr_add_add (a : Addr) (i j : Nat) : (a.add i).add j = a.add (i + j) := by
  unfold Addr.add
  by_cases hi : i = 0 <;> by_cases hj : j = 0 <;> simp [hi, hj, Nat.add_assoc]
theorem addr_add_zero (a : Addr) : a.add 0 = a := by simp [Addr.add]

theorem putWr_nil (objs : Nat → Option Obj) : putWr objs [] = objs := rfl
theorem putWr_one (objs : Nat → Option Obj) (i : Nat) (o : Obj) : putWr objs [(i, o)] = upd objs i (some o) := rfl
theorem upd_same {α : Type} (f : Nat → α) (i : Nat) (x : α) : upd f i x i = x := by simp [upd]
theorem upd_other {α : Type} (f : Nat → α) (i j : Nat) (x : α) (h : j ≠ i) : upd f i x j = f j := by
  unfold upd
  cases hb : Nat.beq j i
  · rfl
  · exact absurd (Nat.eq_of_beq_eq_true hb) h

theorem isFree_of {objs : Nat → Option Obj} {i : Nat} (h : isFree objs i = true) : objs i = none := by
  unfold isFree at h
  split at h
  · assumption
  · cases h

theorem cutN_of {α : Type} {l : List α} {off n : Nat} {c : List α} (h : cutN l off n = some c) : c = (l.drop off).take n ∧ c.length = n ∧ off + n ≤ l.length := by
  unfold cutN at h
  cases hb : Nat.ble (off + n) (List.length l)
  · rw [hb] at h; cases h
  · rw [hb] at h
    have hl := Nat.le_of_ble_eq_true hb
    obtain rfl := Option.some.inj h
    refine ⟨rfl, ?_, hl⟩
    rw [List.length_take, List.length_drop]
    omega

theorem asVal_of {I : Interp} {dom : Nat → Prop} {w : World} {bad : Bad} {agg : Bool} {ls : List Leaf} {vs : List Value} {av : AV} (h : asVal agg ls = some av) (hf : F2 (LRep I dom w bad) ls vs) :
    AVRep I dom w bad av (if agg = true then .agg vs.toArray else vs.getD 0 undef) := by
  unfold asVal at h
  split at h
  · obtain rfl := Option.some.inj h
    exact ⟨vs, by simp, hf⟩
  · obtain rfl := Option.some.inj h
    match vs, hf with
    | [v], hf => simpa [AVRep] using hf.1
    | v :: _ :: _, hf => exact hf.2.elim
  · cases h

theorem isAgg_run (P : Program) (w : World) (t : TypeId) (h : (P.underlying t).isSome = true) : (isAgg t).run P w = .ok (isAggT P t) w := by
  obtain ⟨d, hd⟩ := Option.isSome_iff_exists.1 h
  unfold isAgg isAggT
  rw [Sem.run_bind, run_underlying hd, hd]
  cases d <;> rfl

theorem info_of_underlying {P : Program} {t : TypeId} (h : (P.underlying t).isSome = true) : ∃ i, P.info? t = some i := by
  unfold Program.underlying at h
  cases hi : P.info? t with
  | none => simp [hi] at h
  | some i => exact ⟨i, rfl⟩
theorem cellsOf_info {P : Program} {t : TypeId} {i : TypeInfo} (h : P.info? t = some i) : P.cellsOf t = i.size := by simp [Program.cellsOf, h]
theorem bytesOf_info {P : Program} {t : TypeId} {i : TypeInfo} (h : P.info? t = some i) : P.bytesOf t = i.bytes := by simp [Program.bytesOf, h]
theorem info_of_cells {P : Program} {t : TypeId} (h : P.cellsOf t ≠ 0) : ∃ i, P.info? t = some i := by
  unfold Program.cellsOf at h
  cases hi : P.info? t with
  | none => simp [hi] at h
  | some i => exact ⟨i, rfl⟩
theorem sizeOf_run {P : Program} {t : TypeId} {i : TypeInfo} (h : P.info? t = some i) (w : World) : (sizeOf t).run P w = .ok i.size w := by
  simp [sizeOf, typeInfo, h]

/-- The cells at an address, as a variable of type t. -/
theorem loadVar_run (P : Program) (w : World) (t : TypeId) (a : Addr) (vs : List Value) (hu : (P.underlying t).isSome = true) (hl : vs.length = P.cellsOf t) (hc : ∀ i v, vs[i]? = some v → w.cell? (a.add i) = some v)
    (h1 : isAggT P t = false → vs.length = 1) :
    (loadVar t a).run P w = .ok (if isAggT P t = true then .agg vs.toArray else vs.getD 0 undef) w := by
  obtain ⟨i, hi⟩ := info_of_underlying hu
  unfold loadVar
  rw [Sem.run_bind, isAgg_run P w t hu]
  simp only [Result.andThen_ok]
  cases hg : isAggT P t with
  | true =>
    rw [cellsOf_info hi] at hl
    simp only [Sem.run_bind, sizeOf_run hi, Result.andThen_ok, if_true]
    rw [← hl, run_loadCells_list w a vs hc]
    simp
  | false =>
    match vs, h1 hg with
    | [v], _ =>
      have := hc 0 v (by simp)
      rw [addr_add_zero] at this
      simp [run_load, this]

theorem storeCells_run (P : Program) (g : Nat) (e : TypeId) : ∀ (vs : List Value) (o i : Nat) (c : Array Value) (w : World), w.heap[g]? = some (.cells c e (0, 0)) → o + i + vs.length ≤ c.size → (∀ v ∈ vs, v.oneCell' = true) →
    ∃ c' w', (storeCells ⟨g, o, none⟩ vs i).run P w = .ok () w' ∧ w'.heap[g]? = some (.cells c' e (0, 0)) ∧ c'.size = c.size ∧ (∀ j : Nat, c'[j]? = if o + i ≤ j ∧ j < o + i + vs.length then vs[j - (o + i)]? else c[j]?) ∧
      w'.os = w.os ∧ w'.tape = w.tape ∧ w'.output = w.output ∧ w'.heap.size = w.heap.size ∧ ∀ k, k ≠ g → w'.heap[k]? = w.heap[k]?
  | [], o, i, c, w, h, _, _ => ⟨c, w, rfl, h, rfl, fun j => by rw [if_neg (by simp only [List.length_nil]; omega)], rfl, rfl, rfl, rfl, fun _ _ => rfl⟩
  | v :: vs, o, i, c, w, h, hl, h1 => by
    have hlen : o + i < c.size := by simp only [List.length_cons] at hl; omega
    have hcell : w.cell? ⟨g, o + i, none⟩ = some c[o + i] := cell_of h (by simp [hlen])
    have hfr : w.frozen? ⟨g, o + i, none⟩ = false := by simp [World.frozen?, h]
    have hw1 : (w.setCell ⟨g, o + i, none⟩ v).heap[g]? = some (.cells (c.setIfInBounds (o + i) v) e (0, 0)) := by
      simp [World.setCell, Array.getElem?_modify, h]
    obtain ⟨c', w', hr, h2, h3, h4, h5, h6, h7, h8, h9⟩ := storeCells_run P g e vs o (i + 1) (c.setIfInBounds (o + i) v) (w.setCell ⟨g, o + i, none⟩ v) hw1 (by simp only [List.length_cons] at hl; simp; omega) (fun u hu => h1 u (by simp [hu]))
    refine ⟨c', w', ?_, h2, by rw [h3]; simp, ?_, h5, h6, h7, by rw [h8]; simp, ?_⟩
    · unfold storeCells
      rw [Sem.run_bind, addr_add, run_store P w _ _ _ (h1 v (by simp))]
      simp only [hcell, hfr, Bool.false_eq_true, if_false, Result.andThen_ok]
      exact hr
    · intro j
      rw [h4 j]
      by_cases hj : o + (i + 1) ≤ j ∧ j < o + (i + 1) + vs.length
      · rw [if_pos hj, if_pos (by simp only [List.length_cons]; omega)]
        rw [show j - (o + i) = (j - (o + (i + 1))) + 1 by omega, List.getElem?_cons_succ]
      · rw [if_neg hj]
        by_cases hj2 : j = o + i
        · subst hj2
          rw [if_pos (by simp only [List.length_cons]; omega)]
          simp [hlen]
        · rw [if_neg (by simp only [List.length_cons]; omega)]
          rw [Array.getElem?_setIfInBounds_ne (by omega)]
    · intro k hk
      rw [h9 k hk]
      exact RowKit.Below.heap_setCell w ⟨g, o + i, none⟩ v k hk

theorem storeVar_run (P : Program) (w : World) (t : TypeId) (g o : Nat) (x : Value) (c : Array Value) (e : TypeId) (hx : x.cells.size = P.cellsOf t) (h0 : P.cellsOf t ≠ 0) (h : w.heap[g]? = some (.cells c e (0, 0))) (hl : o + x.cells.size ≤ c.size) (h1 : ∀ v ∈ x.cells.toList, v.oneCell' = true) :
    ∃ c' w', (storeVar t ⟨g, o, none⟩ x).run P w = .ok () w' ∧ w'.heap[g]? = some (.cells c' e (0, 0)) ∧ c'.size = c.size ∧ (∀ j : Nat, c'[j]? = if o ≤ j ∧ j < o + x.cells.size then x.cells.toList[j - o]? else c[j]?) ∧
      w'.os = w.os ∧ w'.tape = w.tape ∧ w'.output = w.output ∧ w'.heap.size = w.heap.size ∧ ∀ k, k ≠ g → w'.heap[k]? = w.heap[k]? := by
  obtain ⟨i, hi⟩ := info_of_cells h0
  obtain ⟨c', w', hr, h2, h3, h4, h5⟩ := storeCells_run P g e x.cells.toList o 0 c w h (by simpa using hl) h1
  refine ⟨c', w', ?_, h2, h3, ?_, h5⟩
  · unfold storeVar
    rw [cellsOf_info hi] at hx
    simp only [Sem.run_bind, sizeOf_run hi, Result.andThen_ok, hx, ne_eq, not_true_eq_false, if_false, Sem.run_pure]
    exact hr
  · intro j
    rw [h4 j]
    simp

/-- An object that is new: a block of its own. -/
theorem newBox {C : Ctx} {I : Interp} {objs : Nat → Option Obj} {w : World} (R : WRel C I objs w) {fr : Nat} (hfr : objs fr = none) {ls : List Leaf} {vs : List Value} (h0 : 0 < ls.length) (hf : F2 (LRep I (Dom objs) w (badOf C I objs)) ls vs) (e : TypeId) :
    StepOk C I objs w (lf1 (.bp fr 0)) [(fr, .box ls)] (.pointer (some ⟨w.heap.size, 0, none⟩)) (w.alloc (.cells vs.toArray e)) := by
  let I' : Interp := ⟨upd I.v fr (.pointer (some ⟨w.heap.size, 0, none⟩)), I.sz⟩
  have hlen := hf.length
  have hne : ∀ id, Dom objs id → id ≠ fr := by
    intro id hd e
    subst e
    simp [Dom, hfr] at hd
  have hU := R.upd (I' := I') (objs' := upd objs fr (some (.box ls))) (w' := w.alloc (.cells vs.toArray e)) (fun _ _ => False) (fun id => id = fr)
    ⟨rfl, rfl, rfl, by simp, fun g hg => .inr (.inl (RowKit.Below.heap_alloc w _ g hg))⟩
    (fun _ _ h => h.elim)
    (fun id hd => ⟨upd_other _ _ _ _ (hne id hd), rfl⟩)
    (fun id hd => by simp only [Dom, upd_other _ _ _ _ (hne id hd)]; exact hd)
    (fun id h => upd_other _ _ _ _ h)
    (fun id ob' h ho g o hc => by
      subst h
      rw [upd_same] at ho
      obtain rfl := Option.some.inj ho
      obtain ⟨o0, hv, _⟩ := hc
      simp only [I', upd_same, Value.pointer.injEq, Option.some.injEq, Addr.mk.injEq] at hv
      refine ⟨.inr (by omega), by simp; omega⟩)
    (fun id id' _ _ _ _ h h' _ _ _ _ => h.trans h'.symm)
    (fun K id ob' h ho => by
      subst h
      rw [upd_same] at ho
      obtain rfl := Option.some.inj ho
      refine ⟨h0, w.heap.size, 0, vs.toArray, e, vs, by simp only [I', upd_same], heap_alloc_new w _, hf.imp K.lrep, fun i v hi => by simpa using hi⟩)
  refine ⟨I', hU.1, hU.2, ?_, w.heap.size, 0, by simp only [I', upd_same], rfl⟩
  simp [Dom, putWr, upd_same]

end Go.Abs

/- Loads, stores, addresses, literals, slices: one operation each. -/
namespace Go.Abs
open Go

section
variable {C : Ctx} {I : Interp} {objs : Nat → Option Obj} {w : World}

theorem getD_of {α : Type} {l : List α} {i : Nat} (d : α) (h : i < l.length) : l[i]? = some (l.getD i d) := by
  simp [List.getD, List.getElem?_eq_getElem h]

/-- An element of a slice that is read. -/
theorem datElem {bad : Bad} {t : Ty} {xs : List (El t)} {v : Value} (h : CellsOk w bad (.slc t) xs [v]) {i : Nat} (hi : i < xs.length) :
    ∃ ad c es, v = .slice (some ad) xs.length c ∧ CellsOk w bad t (xs.getD i (dflt t)) es ∧ RowAt w bad (ad.add (i * nleaf t)) es := by
  obtain ⟨A, c, es, e, hc, hr, hp⟩ := h
  have hlen := hr.length (CellsOk.length t)
  have hge := hr.get (CellsOk.length t) i _ (getD_of (dflt t) hi)
  have hpos := nleaf_pos t
  have hbig : i * nleaf t + nleaf t ≤ es.length := by
    rw [hlen, ← Nat.succ_mul]
    exact Nat.mul_le_mul_right _ hi
  rcases hp with hp | ⟨ad, rfl, hrow⟩
  · subst hp
    simp at hbig
    omega
  · refine ⟨ad, c, _, by simpa using e, hge, fun k u hk => ?_⟩
    rw [addr_add_add]
    apply hrow
    rw [List.getElem?_take] at hk
    split at hk
    · rwa [List.getElem?_drop] at hk
    · cases hk

/-- An element of a row of one's own. -/
theorem rowElem {bad : Bad} {e : TypeId} {t : Ty} {xs : List (El t)} {v : Value} {cells : List Value} (hr : Rows (CellsOk w bad t) xs cells) (ho : OwnRow w e (nleaf t) v xs.length cells) {i : Nat} (hi : i < xs.length) :
    ∃ g b c cur es, v = .slice (some ⟨g, b, none⟩) xs.length c ∧ w.heap[g]? = some (.cells cur e (0, 0)) ∧ CellsOk w bad t (xs.getD i (dflt t)) es ∧ (∀ k u, es[k]? = some u → cur[b + i * nleaf t + k]? = some u) ∧ b + i * nleaf t + nleaf t ≤ cur.size := by
  have hlen := hr.length (CellsOk.length t)
  have hge := hr.get (CellsOk.length t) i _ (getD_of (dflt t) hi)
  have hbig : i * nleaf t + nleaf t ≤ xs.length * nleaf t := by
    rw [← Nat.succ_mul]
    exact Nat.mul_le_mul_right _ hi
  rcases ho.2 with ⟨_, _, h2⟩ | ⟨g, b, cap, cur, h0, rfl, hh, hc1, hc2, hs, ht⟩
  · omega
  · refine ⟨g, b, cap, cur, _, rfl, hh, hge, fun k u hk => ?_, ?_⟩
    · rw [List.getElem?_take] at hk
      split at hk
      · rw [List.getElem?_drop, ← ht, List.getElem?_take] at hk
        split at hk
        · rw [List.getElem?_drop, Array.getElem?_toList, ← Nat.add_assoc] at hk
          exact hk
        · cases hk
      · cases hk
    · rw [hs]
      have := Nat.mul_le_mul_right (nleaf t) hc1
      omega

theorem avLeaves_of {I : Interp} {dom : Nat → Prop} {bad : Bad} {av : AV} {v : Value} (h : AVRep I dom w bad av v) : F2 (LRep I dom w bad) (avLeaves av) v.cells.toList := by
  cases av with
  | lf l =>
    have h1 := LRep.one l v h
    have : v.cells = #[v] := by cases v <;> simp_all [Value.cells, Value.oneCell']
    rw [this]
    exact ⟨h, trivial⟩
  | ag ls =>
    obtain ⟨cs, rfl, hf⟩ := h
    exact hf
theorem F2.ones {I : Interp} {dom : Nat → Prop} {bad : Bad} {ls : List Leaf} {vs : List Value} (h : F2 (LRep I dom w bad) ls vs) : ∀ u ∈ vs, u.oneCell' = true := by
  intro u hu
  obtain ⟨i, hi⟩ := List.mem_iff_getElem?.1 hu
  obtain ⟨l, _, hl⟩ := h.get' i u hi
  exact LRep.one l u hl
theorem F2.toD {I : Interp} {dom : Nat → Prop} {bad : Bad} {ds : List DLeaf} {vs : List Value} (h : F2 (DRep w bad) ds vs) : F2 (LRep I dom w bad) (ds.map .d) vs := h.map Leaf.d (fun _ _ h => h)

theorem loadAv_of {dom : Nat → Prop} {bad : Bad} {P : Program} {t : TypeId} {ls : List Leaf} {off : Nat} {av : AV} {vs : List Value} (h : loadAv P t ls off = some av) (hf : F2 (LRep I dom w bad) ls vs) (a : Addr)
    (hc : ∀ i v, vs[i]? = some v → w.cell? (a.add i) = some v) : ∃ x, (loadVar t (a.add off)).run P w = .ok x w ∧ AVRep I dom w bad av x := by
  unfold loadAv at h
  cases hu : (P.underlying t).isSome with
  | false => rw [hu] at h; cases h
  | true =>
    rw [hu] at h
    simp only [cond_true] at h
    split at h
    · rename_i c hcut
      obtain ⟨rfl, hcl, hle⟩ := cutN_of hcut
      have hlen := hf.length
      have hf' := (hf.drop off).take (P.cellsOf t)
      have hl' : ((vs.drop off).take (P.cellsOf t)).length = P.cellsOf t := by rw [← hf'.length, hcl]
      refine ⟨_, loadVar_run P w t (a.add off) ((vs.drop off).take (P.cellsOf t)) hu hl' (fun i v hi => ?_) (fun hg => ?_), asVal_of h hf'⟩
      · rw [List.getElem?_take] at hi
        split at hi
        · rw [List.getElem?_drop] at hi
          rw [addr_add_add]
          exact hc _ _ hi
        · cases hi
      · rw [hg] at h
        unfold asVal at h
        split at h
        · rename_i hh; cases hh
        · rename_i l hh heq
          rw [hl', ← hcl, heq]
          rfl
        · cases h
    · cases h

theorem mapPair {α β : Type} {x : Option α} {r b : β} {a : α} (h : x.map (fun y => (y, r)) = some (a, b)) : x = some a := by
  cases x with
  | none => cases h
  | some y => simp at h; rw [h.1]

theorem allOk_of (R : WRel C I objs w) {t : TypeId} {x : Val} {av : AV} {rs : List Nat} {v : Value} (h : allOk objs C.E.P t x = some (av, rs)) (hx : VRep I (Dom objs) w (badOf C I objs) x v) :
    ∃ u, (Instr.loadAt t v).run C.E.P w = .ok u w ∧ AVRep I (Dom objs) w (badOf C I objs) av u := by
  have fin : ∀ (a : Addr) (ls : List Leaf) (vs : List Value) (off : Nat), loadAv C.E.P t ls off = some av → F2 (LRep I (Dom objs) w (badOf C I objs)) ls vs → (∀ i v, vs[i]? = some v → w.cell? (a.add i) = some v) → v = .pointer (some (a.add off)) →
      ∃ u, (Instr.loadAt t v).run C.E.P w = .ok u w ∧ AVRep I (Dom objs) w (badOf C I objs) av u := by
    intro a ls vs off h1 h2 h3 h4
    subst h4
    obtain ⟨u, hu, hr⟩ := loadAv_of h1 h2 a h3
    exact ⟨u, by simpa [Instr.loadAt, Instr.sureAddr] using hu, hr⟩
  unfold allOk at h
  split at h
  · rename_i b off
    obtain ⟨hd, g, o, hv, hx⟩ := hx
    split at h
    · rename_i ls hb
      have h1 : loadAv C.E.P t ls off = some av := mapPair h
      obtain ⟨h0, g', o', c, e, vs, hv', hh, hf, hc⟩ := R.ok b _ hb
      rw [hv] at hv'
      injection hv' with hv'; injection hv' with hv'; injection hv' with hg ho
      subst hg; subst ho
      exact fin ⟨g, o, none⟩ ls vs off h1 hf (fun i v hi => by rw [addr_add]; exact cell_of hh (hc i v hi)) (by rw [addr_add]; exact hx)
    · rename_i ls hb
      have h1 : loadAv C.E.P t (List.map .d ls) off = some av := mapPair h
      obtain ⟨g', o', vs, hv', hf, hc⟩ := R.ok b _ hb
      rw [hv] at hv'
      injection hv' with hv'; injection hv' with hv'; injection hv' with hg ho
      subst hg; subst ho
      exact fin ⟨g, o, none⟩ _ vs off h1 hf.toD (fun i v hi => (hc i v hi).1) (by rw [addr_add]; exact hx)
    · cases h
  · rename_i r i off
    obtain ⟨hd, g, b, n, c, hv, hi, hx⟩ := hx
    split at h
    · rename_i e t' xs hb
      have h1 : loadAv C.E.P t (List.map .d (leaves t' (xs.getD i (dflt t')))) off = some av := mapPair h
      obtain ⟨hsz, cells, hr, ho⟩ := R.ok r _ hb
      have hn : n = xs.length := by
        rcases ownsRow_shape ho with ⟨_, h2, h3⟩ | ⟨g2, b2, c2, h2, _⟩
        · rw [hv] at h2; injection h2 with _ h2; omega
        · rw [hv] at h2; injection h2
      subst hn
      obtain ⟨g', b', c', cur, es, hv', hh, hce, hcell, _⟩ := rowElem hr ho hi
      rw [hv] at hv'
      injection hv' with hv' _ _; injection hv' with hv'; injection hv' with hg hb'
      subst hg; subst hb'
      exact fin ⟨g, b + i * nleaf t', none⟩ _ es off h1 (leaves_of t' _ _ hce).toD (fun k u hk => by rw [addr_add]; exact cell_of hh (hcell k u hk)) (by rw [addr_add, ← hsz]; exact hx)
    · rename_i t' xs hb
      have h1 : loadAv C.E.P t (List.map .d (leaves t' (xs.getD i (dflt t')))) off = some av := mapPair h
      obtain ⟨hsz, hcs⟩ := R.ok r _ hb
      have hn : n = xs.length := by
        obtain ⟨A, c2, es, e, _⟩ := hcs
        rw [hv] at e
        simp at e
        exact e.2.1
      subst hn
      obtain ⟨ad, c', es, hv', hce, hcell⟩ := datElem hcs hi
      rw [hv] at hv'
      injection hv' with hv' _ _; injection hv' with hv'
      subst hv'
      refine fin ((⟨g, b, none⟩ : Addr).add (i * nleaf t')) _ es off h1 (leaves_of t' _ _ hce).toD (fun k u hk => (hcell k u hk).1) ?_
      rw [hx, addr_add, addr_add, hsz]
    · cases h
  · rename_i cs
    have h1 : loadAv C.E.P t (List.map .d cs) 0 = some av := mapPair h
    obtain ⟨a, vs, hx, hf, hc⟩ := hx
    exact fin a _ vs 0 h1 hf.toD (fun i v hi => (hc i v hi).1) (by rw [addr_add_zero]; exact hx)
  · cases h

end
end Go.Abs

/- Rows that stay as they are; stores. -/
namespace Go.Abs
open Go

section
variable {C : Ctx} {I : Interp} {objs : Nat → Option Obj} {w : World}

theorem dom_upd {objs : Nat → Option Obj} {i : Nat} {o : Obj} {id : Nat} (h : Dom objs id) : Dom (upd objs i (some o)) id := by
  by_cases e : id = i
  · subst e; simp [Dom, upd_same]
  · simp only [Dom, upd_other _ _ _ _ e]; exact h

/-- A row from now on stays as it is. -/
theorem freeze1 (R : WRel C I objs w) {r : Nat} {e : TypeId} {t : Ty} {xs : List (El t)} (h : objs r = some (.row e t xs)) :
    WRel C I (upd objs r (some (.frow t xs))) w ∧ Keep I (Dom objs) w (badOf C I objs) I (Dom (upd objs r (some (.frow t xs)))) w (badOf C I (upd objs r (some (.frow t xs)))) := by
  refine R.upd (fun _ _ => False) (fun id => id = r) (Fr.refl _ _) (fun _ _ h => h.elim) (fun _ _ => ⟨rfl, rfl⟩) (fun id hd => dom_upd hd) (fun id h => upd_other _ _ _ _ h) ?_ (fun id id' _ _ _ _ h h' _ _ _ _ => h.trans h'.symm) ?_
  · intro id ob' hc ho g o hcell
    subst hc
    rw [upd_same] at ho
    obtain rfl := Option.some.inj ho
    exact hcell.elim
  · intro K id ob' hc ho
    subst hc
    rw [upd_same] at ho
    obtain rfl := Option.some.inj ho
    obtain ⟨hs, cells, hr, hown⟩ := R.ok id _ h
    refine ⟨hs, ?_⟩
    have hr' := hr.imp (fun x c => CellsOk.mono K.ha t x c)
    rcases hown.2 with ⟨A, hv, h0⟩ | ⟨g, b, cap, cur, hcap, hv, hh, hc1, hc2, hsz, htk⟩
    · have hx : xs = [] := List.eq_nil_of_length_eq_zero h0
      subst hx
      exact ⟨A, 0, [], by rw [hv]; rfl, by simp, rfl, .inl rfl⟩
    · refine ⟨some ⟨g, b, none⟩, cap, cells, by rw [hv], hc1, hr', .inr ⟨_, rfl, fun i v hi => ⟨?_, ?_⟩⟩⟩
      · rw [addr_add]
        refine cell_of hh ?_
        rw [← htk, List.getElem?_take] at hi
        split at hi
        · rw [List.getElem?_drop] at hi; simpa using hi
        · cases hi
      · rw [addr_add]
        intro hbad
        have hcell : cellsOf I id (.row e t xs) g (b + i) := ⟨_, _, _, hcap, hv⟩
        rcases hbad with hb1 | ⟨id2, ob2, h2, h3⟩
        · exact R.noban g (b + i) ⟨id, _, h, hcell⟩ hb1
        · by_cases e2 : id2 = id
          · subst e2
            rw [upd_same] at h2
            obtain rfl := Option.some.inj h2
            exact h3
          · rw [upd_other _ _ _ _ e2] at h2
            exact e2 (R.disj id2 id ob2 _ g _ h2 h h3 hcell)

/-- Some rows are frozen, all else is as it was. -/
def Froz (objs objs1 : Nat → Option Obj) : Prop := ∀ r, objs1 r = objs r ∨ ∃ e t xs, objs r = some (.row e t xs) ∧ objs1 r = some (.frow t xs)

theorem freezes_of : ∀ (rs : List Nat) (objs objs1 : Nat → Option Obj), Froz objs objs1 → WRel C I objs1 w →
    Froz objs (putWr objs1 (freezes objs rs)) ∧ WRel C I (putWr objs1 (freezes objs rs)) w ∧ Keep I (Dom objs1) w (badOf C I objs1) I (Dom (putWr objs1 (freezes objs rs))) w (badOf C I (putWr objs1 (freezes objs rs))) ∧
      (∀ r e t xs, r ∈ rs → objs r = some (.row e t xs) → putWr objs1 (freezes objs rs) r = some (.frow t xs)) ∧ (∀ r, r ∉ rs → putWr objs1 (freezes objs rs) r = objs1 r)
  | [], objs, objs1, hF, R => ⟨hF, R, Keep.refl _ _ _ _, fun r e t xs h => by simp at h, fun r _ => rfl⟩
  | r :: rs, objs, objs1, hF, R => by
    unfold freezes
    split
    · rename_i e t xs hr
      rw [show putWr objs1 ((r, Obj.frow t xs) :: freezes objs rs) = putWr (upd objs1 r (some (.frow t xs))) (freezes objs rs) from rfl]
      have hF' : Froz objs (upd objs1 r (some (.frow t xs))) := by
        intro q
        by_cases hq : q = r
        · subst hq
          exact .inr ⟨e, t, xs, hr, upd_same _ _ _⟩
        · rw [upd_other _ _ _ _ hq]
          exact hF q
      have step : WRel C I (upd objs1 r (some (.frow t xs))) w ∧ Keep I (Dom objs1) w (badOf C I objs1) I (Dom (upd objs1 r (some (.frow t xs)))) w (badOf C I (upd objs1 r (some (.frow t xs)))) := by
        rcases hF r with h1 | ⟨e', t', xs', h1, h2⟩
        · exact freeze1 R (h1.trans hr)
        · rw [hr] at h1
          injection h1 with h1
          injection h1 with ha hb hc
          subst ha; subst hb
          have hc' := eq_of_heq hc
          subst hc'
          have : upd objs1 r (some (Obj.frow t xs)) = objs1 := by
            funext q
            by_cases hq : q = r
            · subst hq; rw [upd_same, h2]
            · rw [upd_other _ _ _ _ hq]
          rw [this]
          exact ⟨R, Keep.refl _ _ _ _⟩
      obtain ⟨g1, g2, g3, g4, g5⟩ := freezes_of rs objs _ hF' step.1
      refine ⟨g1, g2, step.2.trans g3, fun q e2 t2 xs2 hq h2 => ?_, fun q hq => ?_⟩
      · by_cases hqr : q ∈ rs
        · exact g4 q e2 t2 xs2 hqr h2
        · have : q = r := by simpa [hqr] using hq
          subst this
          rw [hr] at h2
          rw [g5 q hqr, upd_same]
          injection h2 with h2
          injection h2 with ha hb hc
          subst hb
          have hc' := eq_of_heq hc
          subst hc'
          rfl
      · rw [g5 q (fun hh => hq (by simp [hh])), upd_other _ _ _ _ (fun hh => hq (by simp [hh]))]
    · rename_i hn
      obtain ⟨g1, g2, g3, g4, g5⟩ := freezes_of rs objs objs1 hF R
      refine ⟨g1, g2, g3, fun q e2 t2 xs2 hq h2 => ?_, fun q hq => g5 q (fun hh => hq (by simp [hh]))⟩
      by_cases hqr : q ∈ rs
      · exact g4 q e2 t2 xs2 hqr h2
      · have : q = r := by simpa [hqr] using hq
        subst this
        exact absurd h2 (hn e2 t2 xs2)

theorem freezes_self (R : WRel C I objs w) (rs : List Nat) :
    Froz objs (putWr objs (freezes objs rs)) ∧ WRel C I (putWr objs (freezes objs rs)) w ∧ Keep I (Dom objs) w (badOf C I objs) I (Dom (putWr objs (freezes objs rs))) w (badOf C I (putWr objs (freezes objs rs))) ∧
      (∀ r e t xs, r ∈ rs → objs r = some (.row e t xs) → putWr objs (freezes objs rs) r = some (.frow t xs)) ∧ (∀ r, r ∉ rs → putWr objs (freezes objs rs) r = objs r) :=
  freezes_of rs objs objs (fun _ => .inl rfl) R

theorem putWr_append (objs : Nat → Option Obj) : ∀ (l m : List (Nat × Obj)), putWr objs (List.append l m) = putWr (putWr objs l) m
  | [], m => rfl
  | (i, o) :: l, m => putWr_append (upd objs i (some o)) l m

/-- What a leaf is, told as data, once the rows that it leads to are frozen. -/
theorem dOf_of {objs1 : Nat → Option Obj} (R1 : WRel C I objs1 w) (K : Keep I (Dom objs) w (badOf C I objs) I (Dom objs1) w (badOf C I objs1)) (hF : Froz objs objs1) {l : Leaf} {d : DLeaf} {rs : List Nat} {v : Value} (h : dOf objs l = some (d, rs))
    (hz : ∀ r e t xs, r ∈ rs → objs r = some (.row e t xs) → objs1 r = some (.frow t xs)) (hl : LRep I (Dom objs) w (badOf C I objs) l v) : DRep w (badOf C I objs1) d v := by
  unfold dOf at h
  split at h
  · simp at h
    obtain ⟨rfl, rfl⟩ := h
    exact DRep.mono K.ha _ _ hl
  · rename_i r
    split at h
    · rename_i e t xs hr
      simp at h
      obtain ⟨rfl, rfl⟩ := h
      have := R1.ok r _ (hz r e t xs (by simp) hr)
      rw [hl.2.1]
      exact this.2
    · rename_i t xs hr
      simp at h
      obtain ⟨rfl, rfl⟩ := h
      have h1 : objs1 r = some (.frow t xs) := by
        rcases hF r with h1 | ⟨e, t', xs', h1, h2⟩
        · exact h1.trans hr
        · rw [hr] at h1; cases h1
      have := R1.ok r _ h1
      rw [hl.2.1]
      exact this.2
    · cases h
  · cases h

theorem dOfs_of {objs1 : Nat → Option Obj} (R1 : WRel C I objs1 w) (K : Keep I (Dom objs) w (badOf C I objs) I (Dom objs1) w (badOf C I objs1)) (hF : Froz objs objs1) : ∀ {ls : List Leaf} {ds : List DLeaf} {rs : List Nat} {vs : List Value}, dOfs objs ls = some (ds, rs) →
    (∀ r e t xs, r ∈ rs → objs r = some (.row e t xs) → objs1 r = some (.frow t xs)) → F2 (LRep I (Dom objs) w (badOf C I objs)) ls vs → F2 (DRep w (badOf C I objs1)) ds vs
  | [], ds, rs, [], h, _, _ => by simp [dOfs] at h; obtain ⟨rfl, rfl⟩ := h; trivial
  | [], ds, rs, _ :: _, h, _, hf => hf.elim
  | l :: ls, ds, rs, [], h, _, hf => hf.elim
  | l :: ls, ds, rs, v :: vs, h, hz, hf => by
    simp only [dOfs] at h
    split at h
    · rename_i x a y b h1 h2
      simp only [Option.some.injEq, Prod.mk.injEq] at h
      obtain ⟨rfl, rfl⟩ := h
      exact ⟨dOf_of R1 K hF h1 (fun r e t xs hr => hz r e t xs (List.mem_append.2 (.inl hr))) hf.1, dOfs_of R1 K hF h2 (fun r e t xs hr => hz r e t xs (List.mem_append.2 (.inr hr))) hf.2⟩
    · cases h

theorem putN_eq {α : Type} (l : List α) (off : Nat) (vs : List α) : putN l off vs = l.take off ++ (vs ++ l.drop (off + vs.length)) := rfl

theorem putN_get {α : Type} {l vs : List α} {off : Nat} (h : off + vs.length ≤ l.length) (i : Nat) : (putN l off vs)[i]? = if off ≤ i ∧ i < off + vs.length then vs[i - off]? else l[i]? := by
  rw [putN_eq]
  have ht : (l.take off).length = off := by rw [List.length_take]; omega
  by_cases h1 : i < off
  · rw [List.getElem?_append_left (by omega), List.getElem?_take, if_pos h1, if_neg (by omega)]
  · rw [List.getElem?_append_right (by omega), ht]
    by_cases h2 : i < off + vs.length
    · rw [List.getElem?_append_left (by omega), if_pos (by omega)]
    · rw [List.getElem?_append_right (by omega), if_neg (by omega), List.getElem?_drop]
      congr 1
      omega
theorem putN_length {α : Type} {l vs : List α} {off : Nat} (h : off + vs.length ≤ l.length) : (putN l off vs).length = l.length := by
  rw [putN_eq]
  simp only [List.length_append, List.length_take, List.length_drop]
  omega
theorem F2.put {α β : Type} {R : α → β → Prop} {l l' : List α} {m m' : List β} (off : Nat) (h : F2 R l m) (h' : F2 R l' m') : F2 R (putN l off l') (putN m off m') := by
  rw [putN_eq, putN_eq, h'.length]
  exact (h.take off).append (h'.append (h.drop _))

/-- A store into a box of one's own. -/
theorem storeBox (R : WRel C I objs w) {t : TypeId} {b off : Nat} {ls : List Leaf} {av : AV} {x y : Value} (hb : objs b = some (.box ls)) (hx : VRep I (Dom objs) w (badOf C I objs) (lf1 (.bp b off)) x) (hy : AVRep I (Dom objs) w (badOf C I objs) av y)
    (hn : (avLeaves av).length = C.E.P.cellsOf t) (h0 : C.E.P.cellsOf t ≠ 0) (hl : off + (avLeaves av).length ≤ ls.length) :
    ∃ w', (Instr.storeAt t x y).run C.E.P w = .ok () w' ∧ StepOk C I objs w .undef [(b, .box (putN ls off (avLeaves av)))] undef w' := by
  obtain ⟨hd, g, o, hv, rfl⟩ := hx
  obtain ⟨hpos, g', o', c, e, vs, hv', hh, hf, hc⟩ := R.ok b _ hb
  rw [hv] at hv'
  injection hv' with hv'; injection hv' with hv'; injection hv' with hg ho
  subst hg; subst ho
  have hfy := avLeaves_of hy
  have hly := hfy.length
  have hlv := hf.length
  have hcsz : o + ls.length ≤ c.size := by
    have hlast : vs[ls.length - 1]? = some (vs.getD (ls.length - 1) undef) := getD_of undef (by omega)
    have := (Array.getElem?_eq_some_iff.1 (hc _ _ hlast)).1
    omega
  have hysz : y.cells.toList.length = y.cells.size := by simp
  obtain ⟨c', w', hr, h2, h3, h4, h5, h6, h7, h8, h9⟩ := storeVar_run C.E.P w t g (o + off) y c e (by omega) h0 hh (by omega) (F2.ones hfy)
  refine ⟨w', by simpa [Instr.storeAt, Instr.sureAddr] using hr, I, ?_⟩
  rw [putWr_one]
  have hU := R.upd (I' := I) (objs' := upd objs b (some (.box (putN ls off (avLeaves av))))) (w' := w') (fun g1 o1 => g1 = g ∧ o + off ≤ o1 ∧ o1 < o + off + (avLeaves av).length) (fun id => id = b)
    ⟨h5, h6, h7, by omega, fun k hk => by
      by_cases hkg : k = g
      · subst hkg
        refine .inr (.inr ⟨c, c', e, _, hh, h2, h3, fun j hj => ?_⟩)
        rw [h4 j, if_neg (fun hh => hj ⟨rfl, hh.1, by omega⟩)]
      · exact .inr (.inl (h9 k hkg))⟩
    (fun g1 o1 ⟨e1, e2, e3⟩ => ⟨b, _, rfl, hb, o, by rw [e1]; exact hv, by omega, by omega⟩)
    (fun _ _ => ⟨rfl, rfl⟩) (fun id hd => dom_upd hd) (fun id h => upd_other _ _ _ _ h)
    (fun id ob' h ho g1 o1 hcell => by
      subst h
      rw [upd_same] at ho
      obtain rfl := Option.some.inj ho
      obtain ⟨o2, hv2, hlo, hhi⟩ := hcell
      rw [putN_length hl] at hhi
      have hmut : cellsOf I id (.box ls) g1 o1 := ⟨o2, hv2, hlo, hhi⟩
      exact ⟨.inl ⟨id, _, rfl, hb, hmut⟩, by rw [h8]; exact R.lt g1 o1 ⟨id, _, hb, hmut⟩⟩)
    (fun id id' _ _ _ _ h h' _ _ _ _ => h.trans h'.symm)
    (fun K id ob' h ho => by
      subst h
      rw [upd_same] at ho
      obtain rfl := Option.some.inj ho
      refine ⟨by rw [putN_length hl]; exact hpos, g, o, c', e, putN vs off y.cells.toList, hv, h2, (hf.imp K.lrep).put off (hfy.imp K.lrep), fun i v hi => ?_⟩
      rw [putN_get (by omega)] at hi
      rw [h4 (o + i)]
      by_cases hin : off ≤ i ∧ i < off + y.cells.toList.length
      · rw [if_pos hin] at hi
        rw [if_pos (by omega), show o + i - (o + off) = i - off by omega]
        exact hi
      · rw [if_neg hin] at hi
        rw [if_neg (by omega)]
        exact hc i v hi)
  exact ⟨hU.1, hU.2, trivial⟩

end
end Go.Abs

/- A store into an element; places; new rows. -/
namespace Go.Abs
open Go

section
variable {C : Ctx} {I : Interp} {objs : Nat → Option Obj} {w : World}

theorem any_beq {rs : List Nat} {r : Nat} (h : rs.any (Nat.beq r) = false) : r ∉ rs := by
  intro hm
  have : rs.any (Nat.beq r) = true := List.any_eq_true.2 ⟨r, hm, Nat.beq_refl r⟩
  rw [h] at this
  cases this

theorem storeRow (R : WRel C I objs w) {t : TypeId} {r i off : Nat} {e : TypeId} {t' : Ty} {xs : List (El t')} {av : AV} {x y : Value} {ds : List DLeaf} {rs : List Nat} {z : El t'} {cc : List DLeaf} (hb : objs r = some (.row e t' xs))
    (hx : VRep I (Dom objs) w (badOf C I objs) (lf1 (.ep r i off)) x) (hy : AVRep I (Dom objs) w (badOf C I objs) av y)
    (hn : (avLeaves av).length = C.E.P.cellsOf t) (h0 : C.E.P.cellsOf t ≠ 0) (hds : dOfs objs (avLeaves av) = some (ds, rs)) (hrs : rs.any (Nat.beq r) = false)
    (hcut : cutN (leaves t' (xs.getD i (dflt t'))) off ds.length = some cc) (hof : ofLeaves t' (putN (leaves t' (xs.getD i (dflt t'))) off ds) = some (z, [])) :
    ∃ w', (Instr.storeAt t x y).run C.E.P w = .ok () w' ∧ StepOk C I objs w .undef (List.append (freezes objs rs) [(r, .row e t' (xs.set i z))]) undef w' := by
  obtain ⟨hF, R1, K1, hz1, hz2⟩ := freezes_self R rs
  have hb1 : putWr objs (freezes objs rs) r = some (.row e t' xs) := by rw [hz2 r (any_beq hrs)]; exact hb
  generalize hobjs1 : putWr objs (freezes objs rs) = objs1 at *
  have hfy := avLeaves_of hy
  have hly := hfy.length
  have hfd := dOfs_of R1 K1 hF hds hz1 hfy
  have hdl := hfd.length
  obtain ⟨hd, g, b, n, cap, hv, hi, rfl⟩ := hx
  obtain ⟨hsz, cells, hrow, ho⟩ := R1.ok r _ hb1
  have hn' : n = xs.length := by
    rcases ownsRow_shape ho with ⟨_, h2, h3⟩ | ⟨g2, b2, c2, h2, _⟩
    · rw [hv] at h2; injection h2 with _ h2; omega
    · rw [hv] at h2; injection h2
  subst hn'
  have hlen := hrow.length (CellsOk.length t')
  rcases ho.2 with ⟨_, h2, h3⟩ | ⟨g', b', cap', cur, hcap0, hv', hh, hc1, hc2, hcs, htk⟩
  · rw [hv] at h2; injection h2 with _ h2; omega
  rw [hv] at hv'
  injection hv' with hv' _ hcap; injection hv' with hv'; injection hv' with hg hbb
  subst hg; subst hcap; subst hbb
  have hcell : ∀ k, k < xs.length * nleaf t' → cells[k]? = cur[b + k]? := by
    intro k hk
    rw [← htk, List.getElem?_take, if_pos hk, List.getElem?_drop]
    simp
  have hge := hrow.get (CellsOk.length t') i _ (getD_of (dflt t') hi)
  have hbig : i * nleaf t' + nleaf t' ≤ xs.length * nleaf t' := by
    rw [← Nat.succ_mul]
    exact Nat.mul_le_mul_right _ hi
  have hcapb : xs.length * nleaf t' ≤ cap * nleaf t' := Nat.mul_le_mul_right _ hc1
  generalize hes : (cells.drop (i * nleaf t')).take (nleaf t') = es at hge
  have hesl : es.length = nleaf t' := CellsOk.length t' _ _ hge
  have hesg : ∀ k, k < nleaf t' → es[k]? = cells[i * nleaf t' + k]? := by
    intro k hk
    rw [← hes, List.getElem?_take, if_pos hk, List.getElem?_drop]
  have hlv := leaves_of t' _ _ hge
  obtain ⟨_, hccl, hcut2⟩ := cutN_of hcut
  have hle : off + ds.length ≤ nleaf t' := by
    rw [leaves_length] at hcut2
    exact hcut2
  have hput := hlv.put off hfd
  obtain ⟨c1, c2, hcc, hz, hrest⟩ := ofLeaves_of t' _ _ _ _ hof hput
  have hc2n : c2 = [] := by
    match c2, hrest with
    | [], _ => rfl
  subst hc2n
  rw [List.append_nil] at hcc
  subst hcc
  have hysz : y.cells.toList.length = y.cells.size := by simp
  obtain ⟨c', w', hr, g2, g3, g4, g5, g6, g7, g8, g9⟩ := storeVar_run C.E.P w t g (b + i * I.sz r + off) y cur e (by omega) h0 hh (by rw [hsz]; omega) (F2.ones hfy)
  refine ⟨w', by simpa [Instr.storeAt, Instr.sureAddr] using hr, I, ?_⟩
  have hset := hrow.set (CellsOk.length t') i z _ hi hz
  have hnew : cells.take (i * nleaf t') ++ putN es off y.cells.toList ++ cells.drop (i * nleaf t' + nleaf t') = putN cells (i * nleaf t') (putN es off y.cells.toList) := by
    rw [putN_eq cells, putN_length (by omega), hesl, List.append_assoc]
  rw [hnew] at hset
  have hU := R1.upd (I' := I) (objs' := upd objs1 r (some (.row e t' (xs.set i z)))) (w' := w') (fun g1 o1 => g1 = g ∧ b + i * I.sz r + off ≤ o1 ∧ o1 < b + i * I.sz r + off + y.cells.size) (fun id => id = r)
    ⟨g5, g6, g7, by omega, fun k hk => by
      by_cases hkg : k = g
      · subst hkg
        refine .inr (.inr ⟨cur, c', e, _, hh, g2, g3, fun j hj => ?_⟩)
        rw [g4 j, if_neg (fun hh => hj ⟨rfl, hh.1, by omega⟩)]
      · exact .inr (.inl (g9 k hkg))⟩
    (fun g1 o1 ⟨e1, e2, e3⟩ => ⟨r, _, rfl, hb1, b, xs.length, cap, hcap0, by subst e1; exact hv⟩)
    (fun _ _ => ⟨rfl, rfl⟩) (fun id hd => dom_upd hd) (fun id h => upd_other _ _ _ _ h)
    (fun id ob' h ho1 g1 o1 hcell1 => by
      subst h
      rw [upd_same] at ho1
      obtain rfl := Option.some.inj ho1
      have hmut : cellsOf I id (.row e t' xs) g1 o1 := hcell1
      exact ⟨.inl ⟨id, _, rfl, hb1, hmut⟩, by rw [g8]; exact R1.lt g1 o1 ⟨id, _, hb1, hmut⟩⟩)
    (fun id id' _ _ _ _ h h' _ _ _ _ => h.trans h'.symm)
    (fun K id ob' h ho1 => by
      subst h
      rw [upd_same] at ho1
      obtain rfl := Option.some.inj ho1
      refine ⟨hsz, _, hset.imp (fun x c => CellsOk.mono K.ha t' x c), ?_, .inr ⟨g, b, cap, c', hcap0, by rw [hv, List.length_set], g2, by rw [List.length_set]; exact hc1, hc2, by rw [g3]; exact hcs, ?_⟩⟩
      · rw [putN_length (by rw [putN_length (by omega)]; omega), hlen, List.length_set]
      · rw [List.length_set]
        apply List.ext_getElem?
        intro k
        have hinner : (putN es off y.cells.toList).length = nleaf t' := by rw [putN_length (by omega)]; exact hesl
        rw [putN_get (by omega), List.getElem?_take, hinner]
        by_cases hk : k < xs.length * nleaf t'
        · rw [if_pos hk, List.getElem?_drop, Array.getElem?_toList, g4 (b + k), hsz]
          by_cases hk2 : i * nleaf t' ≤ k ∧ k < i * nleaf t' + nleaf t'
          · rw [if_pos hk2, putN_get (by omega)]
            by_cases hk3 : off ≤ k - i * nleaf t' ∧ k - i * nleaf t' < off + y.cells.toList.length
            · rw [if_pos hk3, if_pos (by omega), show b + k - (b + i * nleaf t' + off) = k - i * nleaf t' - off by omega]
            · rw [if_neg hk3, if_neg (by omega), hesg _ (by omega), show i * nleaf t' + (k - i * nleaf t') = k by omega, hcell k hk]
          · rw [if_neg hk2, if_neg (by omega), hcell k hk]
        · rw [if_neg hk, if_neg (by omega)]
          exact (List.getElem?_eq_none (by omega)).symm)
  rw [putWr_append, hobjs1, putWr_one]
  exact ⟨hU.1, K1.trans hU.2, trivial⟩

theorem storeOut_of (R : WRel C I objs w) {t : TypeId} {a v : Val} {out : Out} {x y : Value} (h : storeOut objs C.E.P t a v = some out) (hx : VRep I (Dom objs) w (badOf C I objs) a x) (hy : VRep I (Dom objs) w (badOf C I objs) v y) :
    ∃ w', (Instr.storeAt t x y).run C.E.P w = .ok () w' ∧ StepOk C I objs w out.val out.wr undef w' := by
  unfold storeOut at h
  split at h
  · rename_i av
    cases hc : (Nat.beq (List.length (avLeaves av)) (C.E.P.cellsOf t) && Nat.ble 1 (C.E.P.cellsOf t)) with
    | false => rw [hc] at h; cases h
    | true =>
      rw [hc] at h
      simp only [cond_true] at h
      simp only [Bool.and_eq_true] at hc
      have hn : (avLeaves av).length = C.E.P.cellsOf t := Nat.eq_of_beq_eq_true hc.1
      have h0 : C.E.P.cellsOf t ≠ 0 := by have := Nat.le_of_ble_eq_true hc.2; omega
      split at h
      · rename_i b off
        split at h
        · rename_i ls hb
          split at h
          · rename_i cc hcut
            obtain rfl := Option.some.inj h
            obtain ⟨_, hcl, hle⟩ := cutN_of hcut
            exact storeBox R hb hx hy hn h0 hle
          · cases h
        · cases h
      · rename_i r i off
        split at h
        · rename_i e t' xs hb
          split at h
          · rename_i ds rs hds
            cases hr : rs.any (Nat.beq r) with
            | true => rw [hr] at h; cases h
            | false =>
              rw [hr] at h
              simp only [cond_false] at h
              split at h
              · rename_i cc hcut
                split at h
                · rename_i z hof
                  obtain rfl := Option.some.inj h
                  exact storeRow R hb hx hy hn h0 hds hr hcut hof
                · cases h
              · cases h
          · cases h
        · cases h
      · cases h
  · cases h

end
end Go.Abs
