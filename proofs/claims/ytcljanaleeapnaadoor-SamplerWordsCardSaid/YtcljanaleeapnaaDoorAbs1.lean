/- A pure reading of the loaded code: typed data, objects of the call's own, and what each operation makes of them. No world, no memory: definitions alone. -/
import GoSem.Claims
namespace Go.Abs
open Go

/-! ### Typed data -/
inductive Ty where
  | int (k : IntKind) | bool | str | slc (t : Ty) | pair (a b : Ty)
  deriving DecidableEq, Inhabited

@[reducible] def El : Ty → Type
  | .int _ => Int
  | .bool => Bool
  | .str => ByteArray
  | .slc t => List (El t)
  | .pair a b => El a × El b

def dflt : (t : Ty) → El t
  | .int _ => (0 : Int)
  | .bool => false
  | .str => (⟨#[]⟩ : ByteArray)
  | .slc t => ([] : List (El t))
  | .pair a b => (dflt a, dflt b)

def nleaf : Ty → Nat
  | .pair a b => nleaf a + nleaf b
  | _ => 1

/-- A leaf of data: one cell. 'v': the cell itself; 'dat': a slice that is read. -/
inductive DLeaf where
  | v (x : Value)
  | dat (t : Ty) (xs : List (El t))

def leaves : (t : Ty) → El t → List DLeaf
  | .int k, x => [.v (.int k x)]
  | .bool, x => [.v (.bool x)]
  | .str, x => [.v (.string x)]
  | .slc t, x => [.dat t x]
  | .pair a b, x => leaves a x.1 ++ leaves b x.2

def castL (t t' : Ty) (xs : List (El t)) : Option (List (El t')) :=
  if h : t = t' then some (h ▸ xs) else none

/-- Data out of its leaves; what is left. -/
def ofLeaves : (t : Ty) → List DLeaf → Option (El t × List DLeaf)
  | .int k, .v (.int k' n) :: r => if k = k' then some (n, r) else none
  | .bool, .v (.bool b) :: r => some (b, r)
  | .str, .v (.string s) :: r => some (s, r)
  | .slc t, .dat t' xs :: r => match castL t' t xs with | some ys => some (ys, r) | none => none
  | .slc t, .v (.slice none 0 0) :: r => some (([] : List (El t)), r)
  | .pair a b, l =>
    match ofLeaves a l with
    | some (x, r) => match ofLeaves b r with
      | some (y, r') => some ((x, y), r')
      | none => none
    | none => none
  | _, _ => none

/-- A leaf of the call: data, a row of one's own, places. -/
inductive Leaf where
  | d (x : DLeaf)
  | own (r : Nat)                  -- the slice that is row r
  | bp (b off : Nat)               -- an address in box b
  | ep (r : Nat) (i off : Nat)     -- an address in element i of row r
  | dp (cs : List DLeaf)           -- an address of cells that stay
  | fn (f : FuncId) (caps : List Nat)   -- a function, and the boxes that it has captured

inductive AV where
  | lf (l : Leaf)
  | ag (ls : List Leaf)

inductive Val where
  | undef
  | one (a : AV)
  | tup (l : List AV)
instance : Inhabited Val := ⟨.undef⟩

inductive Obj where
  | row (e : TypeId) (t : Ty) (xs : List (El t))     -- a row that may be written
  | frow (t : Ty) (xs : List (El t))    -- a row that stays as it is
  | box (ls : List Leaf)
  | fbox (ls : List DLeaf)              -- a box that stays as it is
  | gone

structure St where
  slots : Nat → Val
  objs : Nat → Option Obj
  next : Nat

abbrev sc (x : Value) : Val := .one (.lf (.d (.v x)))
abbrev lf1 (l : Leaf) : Val := .one (.lf l)
abbrev dv (x : Value) : Leaf := .d (.v x)

def upd {α : Type} (f : Nat → α) (i : Nat) (x : α) : Nat → α := fun j => bif Nat.beq j i then x else f j

/-! ### What an operation comes to -/
inductive Eff (α : Type) : Type 1 where
  | ret (a : α)
  | fail
  | grd (c : Bool) (k : Eff α)
  | br (c : Bool) (x y : Eff α)
  | call (I R : Type) (F : I → Option R) (i : I) (k : R → Eff α)

def Eff.cps {α ρ : Type} : Eff α → (α → Option ρ) → Option ρ
  | .ret a, k => k a
  | .fail, _ => none
  | .grd c e, k => bif c then e.cps k else none
  | .br c x y, k => bif c then x.cps k else y.cps k
  | .call _ _ F i f, k => (F i).bind fun r => (f r).cps k

def Eff.den {α : Type} : Eff α → Option α
  | .ret a => some a
  | .fail => none
  | .grd c e => bif c then e.den else none
  | .br c x y => bif c then x.den else y.den
  | .call _ _ F i f => (F i).bind fun r => (f r).den

theorem Eff.cps_den {α ρ : Type} (e : Eff α) (k : α → Option ρ) : e.cps k = e.den.bind k := by
  induction e with
  | ret a => rfl
  | fail => rfl
  | grd c e ih => cases c <;> simp [Eff.cps, Eff.den, ih]
  | br c x y ihx ihy => cases c <;> simp [Eff.cps, Eff.den, ihx, ihy]
  | call I R F i f ih =>
    simp only [Eff.cps, Eff.den]
    cases F i <;> simp [ih]

structure Out where
  val : Val
  rd : List Nat
  wr : List (Nat × Obj)

abbrev ret1 (v : Val) : Eff Out := .ret ⟨v, [], []⟩

/-! ### Shapes: how a state lies, but for its data -/
inductive LS where
  | sc (t : Ty)                -- a number, a bool or a string
  | dat (t : Ty)               -- a slice that is read
  | own (o : Nat)
  | bp (o off : Nat)
  | cst (x : Value)
  | fn (f : FuncId) (caps : List Nat)

inductive AS where
  | lf (l : LS)
  | ag (ls : List LS)

inductive OS where
  | row (e : TypeId) (t : Ty)
  | box (ls : List LS)
  | dead

structure Shape where
  slots : List (Nat × AS)
  objs : List OS

@[reducible] def LS.T : LS → Type
  | .sc t => El t
  | .dat t => List (El t)
  | _ => Unit
@[reducible] def TLs : List LS → Type
  | [] => Unit
  | l :: ls => l.T × TLs ls
@[reducible] def AS.T : AS → Type
  | .lf l => l.T
  | .ag ls => TLs ls
@[reducible] def TSlots : List (Nat × AS) → Type
  | [] => Unit
  | x :: xs => x.2.T × TSlots xs
@[reducible] def OS.T : OS → Type
  | .row _ t => List (El t)
  | .box ls => TLs ls
  | .dead => Unit
@[reducible] def TObjs : List OS → Type
  | [] => Unit
  | o :: os => o.T × TObjs os
@[reducible] def Tup (S : Shape) : Type := TSlots S.slots × TObjs S.objs

/-! the state out of a shape and its data; 'ids': the objects' numbers -/
def scLeaf : (t : Ty) → El t → DLeaf
  | .int k, x => .v (.int k x)
  | .bool, x => .v (.bool x)
  | .str, x => .v (.string x)
  | .slc t, x => .dat t x
  | .pair _ _, _ => .v (.tuple #[])

def LS.make (ids : Nat → Nat) : (l : LS) → l.T → Leaf
  | .sc t, x => .d (scLeaf t x)
  | .dat t, x => .d (.dat t x)
  | .own o, _ => .own (ids o)
  | .bp o off, _ => .bp (ids o) off
  | .cst v, _ => .d (.v v)
  | .fn f caps, _ => .fn f (caps.map ids)
def makeLs (ids : Nat → Nat) : (ls : List LS) → TLs ls → List Leaf
  | [], _ => []
  | l :: ls, x => l.make ids x.1 :: makeLs ids ls x.2
def AS.make (ids : Nat → Nat) : (a : AS) → a.T → AV
  | .lf l, x => .lf (l.make ids x)
  | .ag ls, x => .ag (makeLs ids ls x)
def makeSlots (ids : Nat → Nat) : (l : List (Nat × AS)) → TSlots l → List (Nat × AV)
  | [], _ => []
  | s :: ss, x => (s.1, s.2.make ids x.1) :: makeSlots ids ss x.2
def OS.make (ids : Nat → Nat) : (o : OS) → o.T → Option Obj
  | .row e t, x => some (.row e t x)
  | .box ls, x => some (.box (makeLs ids ls x))
  | .dead, _ => none
def makeObjs (ids : Nat → Nat) : (l : List OS) → TObjs l → List (Option Obj)
  | [], _ => []
  | o :: os, x => o.make ids x.1 :: makeObjs ids os x.2

def lookupSlot : List (Nat × AV) → Nat → Val
  | [], _ => .undef
  | (j, a) :: r, i => bif Nat.beq i j then .one a else lookupSlot r i
def getO {α : Type} : List (Option α) → Nat → Option α
  | [], _ => none
  | x :: _, 0 => x
  | _ :: r, i + 1 => getO r i

def ofC (S : Shape) (x : Tup S) : St :=
  ⟨lookupSlot (makeSlots id S.slots x.1), getO (makeObjs id S.objs x.2), S.objs.length⟩

/-! the data out of a state that has a shape -/
/-- What has been met: the objects (index in the shape; number in the state, 'none': a nil slice taken for a row); rows that are told as data. -/
structure Met where
  ids : List (Nat × Option Nat)
  seen : List Nat

def findId (o : Nat) : List (Nat × Option Nat) → Option (Option Nat)
  | [] => none
  | (a, b) :: r => bif Nat.beq a o then some b else findId o r
def isId (n : Nat) : Option Nat → Bool
  | some m => Nat.beq m n
  | none => false
def Met.tie (m : Met) (o n : Nat) : Option Met :=
  match findId o m.ids with
  | some x => bif isId n x then some m else none
  | none => bif m.ids.any (fun p => isId n p.2) then none else some { m with ids := (o, some n) :: m.ids }
def Met.tieNil (m : Met) (o : Nat) : Option Met :=
  match findId o m.ids with
  | some _ => none
  | none => some { m with ids := (o, none) :: m.ids }

/-- A row's (or a frozen row's) data. -/
def rowData (get : Nat → Option Obj) (r : Nat) (t : Ty) : Option (List (El t)) :=
  match get r with
  | some (.row _ t' xs) => castL t' t xs
  | some (.frow t' xs) => castL t' t xs
  | _ => none

def isNilSlice : Value → Bool
  | .slice none 0 0 => true
  | _ => false
def nilKind : Value → Option Nat
  | .slice none 0 0 => some 0
  | .pointer none => some 1
  | .nilIface => some 2
  | .nilFunc => some 3
  | .map none => some 4
  | _ => none
def sameNil (a b : Value) : Bool :=
  match nilKind a, nilKind b with
  | some i, some j => Nat.beq i j
  | _, _ => false

def elOfD (t : Ty) (l : DLeaf) : Option (El t) :=
  match ofLeaves t [l] with
  | some (x, []) => some x
  | _ => none

def tieAll (m : Met) : List Nat → List Nat → Option Met
  | [], [] => some m
  | o :: os, n :: ns => match m.tie o n with | some m' => tieAll m' os ns | none => none
  | _, _ => none

def single : Ty → Bool
  | .pair _ _ => false
  | _ => true

def LS.take (get : Nat → Option Obj) (l : LS) (a : Leaf) (m : Met) : Option (l.T × Met) :=
  match l, a with
  | .sc t, .d x => bif single t then (match elOfD t x with | some y => some (y, m) | none => none) else none
  | .dat t, .d x => (match elOfD (.slc t) x with | some y => some (y, m) | none => none)
  | .dat t, .own n => (match rowData get n t with | some y => some (y, { m with seen := n :: m.seen }) | none => none)
  | .own o, .own n => (match m.tie o n with | some m' => some ((), m') | none => none)
  | .own o, .d (.v x) => bif isNilSlice x then (match m.tieNil o with | some m' => some ((), m') | none => none) else none
  | .bp o off, .bp n off' => bif Nat.beq off off' then (match m.tie o n with | some m' => some ((), m') | none => none) else none
  | .cst v, .d (.v x) => bif sameNil v x then some ((), m) else none
  | .fn f caps, .fn g ns => bif Nat.beq f g then (match tieAll m caps ns with | some m' => some ((), m') | none => none) else none
  | _, _ => none
def takeLs (get : Nat → Option Obj) : (ls : List LS) → List Leaf → Met → Option (TLs ls × Met)
  | [], [], m => some ((), m)
  | l :: ls, a :: as, m =>
    match l.take get a m with
    | some (x, m') => (match takeLs get ls as m' with | some (y, m'') => some ((x, y), m'') | none => none)
    | none => none
  | _, _, _ => none
def AS.take (get : Nat → Option Obj) (s : AS) (a : AV) (m : Met) : Option (s.T × Met) :=
  match s, a with
  | .lf l, .lf a => l.take get a m
  | .ag ls, .ag as => takeLs get ls as m
  | _, _ => none
def takeSlots (get : Nat → Option Obj) (sl : Nat → Val) : (l : List (Nat × AS)) → Met → Option (TSlots l × Met)
  | [], m => some ((), m)
  | s :: ss, m =>
    match sl s.1 with
    | .one a =>
      match s.2.take get a m with
      | some (x, m') => (match takeSlots get sl ss m' with | some (y, m'') => some ((x, y), m'') | none => none)
      | none => none
    | _ => none
def OS.take (get : Nat → Option Obj) (s : OS) (i : Option (Option Nat)) (m : Met) : Option (s.T × Met) :=
  match s, i with
  | .row _ _, some none => some ([], m)
  | .row e t, some (some n) =>
    match get n with
    | some (.row e' t' xs) => bif Nat.beq e e' then (match castL t' t xs with | some y => some (y, m) | none => none) else none
    | _ => none
  | .box ls, some (some n) =>
    match get n with
    | some (.box as) => takeLs get ls as m
    | _ => none
  | .dead, _ => some ((), m)
  | _, _ => none
def takeObjs (get : Nat → Option Obj) : (l : List OS) → (o : Nat) → Met → Option (TObjs l × Met)
  | [], _, m => some ((), m)
  | s :: ss, o, m =>
    match s.take get (findId o m.ids) m with
    | some (x, m') => (match takeObjs get ss (o + 1) m' with | some (y, m'') => some ((x, y), m'') | none => none)
    | none => none

/-- No row is both told as data and held as a row of one's own. -/
def Met.apart (m : Met) : Bool := m.seen.all fun n => !(m.ids.any fun p => isId n p.2)
def metBase (n0 : Nat) : List (Nat × Option Nat) :=
  match n0 with
  | 0 => []
  | n + 1 => (n, some n) :: metBase n

/-- Every object that was met is there in the shape. -/
def liveO : List OS → Nat → Bool
  | [], _ => false
  | .dead :: _, 0 => false
  | _ :: _, 0 => true
  | _ :: r, i + 1 => liveO r i
def allLive (l : List OS) : Nat → Bool
  | 0 => true
  | n + 1 => liveO l n && allLive l n
def Met.live (m : Met) (l : List OS) : Bool := m.ids.all fun p => liveO l p.1

def takeS (S : Shape) (n0 : Nat) (get : Nat → Option Obj) (sl : Nat → Val) : Option (Tup S × Met) :=
  match takeSlots get sl S.slots ⟨metBase n0, []⟩ with
  | some (x, m) =>
    match takeObjs get S.objs 0 m with
    | some (y, m') => bif m'.apart && m'.live S.objs then some ((x, y), m') else none
    | none => none
  | none => none

/-! ### Procedures: functions, and pieces of code -/
inductive Ex where
  | nrm | ex (id : Nat) | rt

/-- A function: what it takes (parameters in the slots 0, 1, ..; the first 'n0' objects stay the caller's), what it hands back (results in the slots 0, 1, ..). -/
structure Proc where
  nargs : Nat
  inS : Shape
  outS : Shape
  n0 : Nat
  R : Type
  F : Tup inS → Option R
  post : R → Tup outS
  un : Tup outS → R

/-- A way out of a piece. -/
structure Way where
  ex : Ex
  S : Shape
  R : Type
  post : R → Tup S
  un : Tup S → R

@[reducible] def SumT : List Way → Type
  | [] => Empty
  | [a] => a.R
  | a :: b :: r => a.R ⊕ SumT (b :: r)
structure LProc where
  inS : Shape
  outs : List Way
  F : Tup inS → Option (SumT outs)

/-- Where a piece ends. -/
def outK {ρ : Type} : (l : List Way) → SumT l → (Ex → St → Option ρ) → Option ρ
  | [], x, _ => x.elim
  | [a], x, k => k a.ex (ofC a.S (a.post x))
  | a :: b :: r, x, k => Sum.elim (fun y => k a.ex (ofC a.S (a.post y))) (fun z => outK (b :: r) z k) x

structure Env where
  P : Program
  ty : TypeId → Option Ty
  glob : Nat → Option (List DLeaf)
  proc : FuncId → Option Proc
  lproc : Nat → Option LProc
  n0 : Nat
  ntmps : Nat

end Go.Abs
