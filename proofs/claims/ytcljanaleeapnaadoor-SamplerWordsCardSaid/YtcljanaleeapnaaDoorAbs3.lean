/- A body of code read as a function on typed data and objects: definitions alone. -/
import Derived.Test.YtcljanaleeapnaaDoorAbs2
namespace Go.Abs
open Go

/-- What is told beside the code: which pieces are taken by procedures of their own, how often a loop is laid out. -/
inductive Ann where
  | z
  | s (a b : Ann)
  | b (a : Ann)
  | un (n : Nat) (a : Ann)
  | sub (n : Nat)

def opBase : Nat := 32

def putVal (N : Nat) (sl : Nat → Val) (d : Option Tmp) (v : Val) : Option (Nat → Val) :=
  match d with
  | some i => bif Nat.blt i N then some (upd sl i v) else none
  | none => some sl
def putWr (objs : Nat → Option Obj) : List (Nat × Obj) → (Nat → Option Obj)
  | [] => objs
  | (i, o) :: r => putWr (upd objs i (some o)) r

/-- One line of a region's log: the operation, what it read, what it wrote. -/
structure Line where
  op : Nat
  rd : List Nat
  wr : List Nat

def tmpsOf (o : Oper) : List Nat :=
  let os := (o.op.operands.toList.filterMap fun | .tmp t => some t | _ => none)
  match o.dst with
  | some d => d :: os
  | none => os
def dstOf (ops : Array Oper) (j : Nat) : Option Nat := (getL ops.toList j).bind (·.dst)
def usesOf (ops : Array Oper) (o : Oper) : List Nat :=
  match o.guard with
  | some (j, _) => (match dstOf ops j with | some d => d :: tmpsOf o | none => tmpsOf o)
  | none => tmpsOf o

def meetL (a b : List Nat) : Bool := a.any fun x => b.any fun y => Nat.beq x y

/-- Two operations that may stand in either order, as far as the temporaries go. -/
def tmpsApart (ops : Array Oper) (i j : Nat) : Bool :=
  match getL ops.toList i, getL ops.toList j with
  | some a, some b => !(match a.dst with | some d => (usesOf ops b).any (Nat.beq d) | none => false) && !(match b.dst with | some d => (usesOf ops a).any (Nat.beq d) | none => false)
  | _, _ => false

/-- Which operations stand in front of each one, by the edges that always bind. -/
def maskOf (acc : List Nat) : List Edge → Nat
  | [] => 0
  | e :: r => bif Region.binds .any e then Nat.lor (Nat.lor (Nat.pow 2 e.on) (match getL acc e.on with | some m => m | none => 0)) (maskOf acc r) else maskOf acc r
def befs (acc : List Nat) : List Oper → List Nat
  | [] => acc
  | o :: r => befs (List.append acc [maskOf acc o.after.toList]) r
def tiedTo (ops : Array Oper) (i j : Nat) : Bool := match getL (befs [] ops.toList) j with | some m => Nat.testBit m i | none => false

/-- Edges lead back in the text. -/
def afterOk : Nat → List Oper → Bool
  | _, [] => true
  | i, o :: r => o.after.toList.all (fun e => !(Region.binds .any e) || Nat.blt e.on i) && afterOk (i + 1) r

/-- Every two operations stand in order, or apart: temporaries. -/
def orderOk (ops : Array Oper) : Bool :=
  afterOk 0 ops.toList && (List.range ops.size).all fun j => (List.range j).all fun i => tiedTo ops i j || tmpsApart ops i j

def apartL (k l : Line) : Bool := !(meetL l.wr k.rd) && (!(meetL l.wr k.wr) && !(meetL k.wr l.rd))
def logOk (ops : Array Oper) : List Line → Bool
  | [] => true
  | l :: r => (r.all fun k => tiedTo ops k.op l.op || apartL k l) && logOk ops r

def peOps {ρ : Type} (E : Env) (ops : Array Oper) (fr0 : Nat) (k : St → List Line → Option ρ) : List (Nat × Oper) → St → List Line → Option ρ
  | [], st, log => k st log
  | (i, o) :: rest, st, log =>
    let skip (sl : Nat → Val) : Option ρ :=
      match putVal E.ntmps sl o.dst .undef with
      | some s => peOps E ops fr0 k rest { st with slots := s } log
      | none => none
    let go (sl : Nat → Val) : Option ρ :=
      (opE E sl st.objs (fr0 + opBase * i) o).cps fun out =>
        match putVal E.ntmps sl o.dst out.val with
        | some s => peOps E ops fr0 k rest { st with slots := s, objs := putWr st.objs out.wr } (⟨i, out.rd, List.map (·.1) out.wr⟩ :: log)
        | none => none
    match o.guard with
    | none => go st.slots
    | some (j, want) =>
      match dstOf ops j with
      | some d =>
        match st.slots d with
        | .one (.lf (.d (.v (.bool b)))) =>
          bif b then (bif want then go (upd st.slots d (sc (.bool true))) else skip (upd st.slots d (sc (.bool true))))
          else (bif want then skip (upd st.slots d (sc (.bool false))) else go (upd st.slots d (sc (.bool false))))
        | _ => none
      | none => none

def numOps : Nat → List Oper → List (Nat × Oper)
  | _, [] => []
  | i, o :: r => (i, o) :: numOps (i + 1) r

def peRegion {ρ : Type} (E : Env) (ops : Array Oper) (draw : Bool) (k : St → Option ρ) (st : St) : Option ρ :=
  bif draw && !(orderOk ops) then none else
  peOps E ops st.next (fun st' log => bif draw then (bif logOk ops log then k st' else none) else k st') (numOps 0 ops.toList) { st with next := st.next + opBase * ops.size } []

def iterK {ρ : Type} (body : (Ex → St → Option ρ) → St → Option ρ) (k : Ex → St → Option ρ) : Nat → St → Option ρ
  | 0, _ => none
  | n + 1, st => body (fun x st' => match x with | .nrm => iterK body k n st' | x => k x st') st

/-- A test: the temporary that is tested is known from then on. -/
def condK {ρ : Type} (c : Operand) (st : St) (v : Val) (kx ky : St → Option ρ) : Option ρ :=
  match v with
  | .one (.lf (.d (.v (.bool b)))) =>
    match c with
    | .tmp d => bif b then kx { st with slots := upd st.slots d (sc (.bool true)) } else ky { st with slots := upd st.slots d (sc (.bool false)) }
    | _ => bif b then kx st else ky st
  | _ => none

def pe {ρ : Type} (E : Env) : Code → Ann → (Ex → St → Option ρ) → St → Option ρ
  | c, .sub n, k, st =>
    match E.lproc n with
    | some p =>
      match takeS p.inS E.n0 st.objs st.slots with
      | some (x, _) => (p.F x).bind fun y => outK p.outs y k
      | none => none
    | none => none
  | .skip, _, k, st => k .nrm st
  | .region _ ops draw, _, k, st => peRegion E ops draw (k .nrm) st
  | .seq x y, a, k, st =>
    let l := match a with | .s p _ => p | _ => .z
    let r := match a with | .s _ q => q | _ => .z
    pe E x l (fun e st' => match e with | .nrm => pe E y r k st' | e => k e st') st
  | .cond c x y, a, k, st =>
    let l := match a with | .s p _ => p | _ => .z
    let r := match a with | .s _ q => q | _ => .z
    condK c st (evalO E st.slots c) (pe E x l k) (pe E y r k)
  | .block id x, a, k, st =>
    let p := match a with | .b p => p | _ => .z
    pe E x p (fun e st' => match e with | .ex j => (bif Nat.beq j id then k .nrm st' else k (.ex j) st') | e => k e st') st
  | .loop x, .un n a, k, st => iterK (fun k' st' => pe E x a k' st') k n st
  | .exit id, _, k, st => k (.ex id) st
  | .ret, _, k, st => k .rt st
  | _, _, _, _ => none


def exEq : Ex → Ex → Bool
  | .nrm, .nrm => true
  | .rt, .rt => true
  | .ex i, .ex j => Nat.beq i j
  | _, _ => false

/-- The end of a piece: the first way out with this exit and shape. -/
def endL (n0 : Nat) : (outs : List Way) → Ex → St → Option (SumT outs)
  | [], _, _ => none
  | [a], e, st =>
    bif exEq a.ex e then (match takeS a.S n0 st.objs st.slots with | some (x, _) => some (a.un x) | none => none) else none
  | a :: b :: r, e, st =>
    bif exEq a.ex e then
      match takeS a.S n0 st.objs st.slots with
      | some (x, _) => some (.inl (a.un x))
      | none => (match endL n0 (b :: r) e st with | some y => some (.inr y) | none => none)
    else (match endL n0 (b :: r) e st with | some y => some (.inr y) | none => none)

/-- What a function hands back, in the slots 0, 1, ... -/
def retSlots (E : Env) (st : St) : List ResultVar → Option (List Val)
  | [] => some []
  | .tmp t :: r => (match retSlots E st r with | some l => some (st.slots t :: l) | none => none)
  | .cell a t :: r =>
    match allOk st.objs E.P t (st.slots a), retSlots E st r with
    | some (v, _), some l => some (.one v :: l)
    | _, _ => none

def endF (E : Env) (rs : List ResultVar) (S : Shape) (e : Ex) (st : St) : Option (Tup S) :=
  match e with
  | .ex _ => none
  | _ =>
    match retSlots E st rs with
    | some l => (match takeS S E.n0 st.objs (numbered 0 l) with | some (x, _) => some x | none => none)
    | none => none

/-- A whole body. -/
def peFn (E : Env) (fn : Func) (a : Ann) (p : Proc) (x : Tup p.inS) : Option p.R :=
  match fn.body with
  | some c => pe E c a (fun e st => match endF E fn.results.toList p.outS e st with | some y => some (p.un y) | none => none) (ofC p.inS x)
  | none => none

/-! ### Where in a body a piece stands -/
inductive Way1 where
  | l | r | b     -- of a sequence or a test: left, right; the body of a block or a loop
def codeAt : Code → List Way1 → Option Code
  | c, [] => some c
  | .seq x _, .l :: w => codeAt x w
  | .seq _ y, .r :: w => codeAt y w
  | .cond _ x _, .l :: w => codeAt x w
  | .cond _ _ y, .r :: w => codeAt y w
  | .block _ x, .b :: w => codeAt x w
  | .loop x, .b :: w => codeAt x w
  | _, _ => none

/-- A piece that is no loop. -/
def peL (E : Env) (c : Code) (a : Ann) (p : LProc) (x : Tup p.inS) : Option (SumT p.outs) :=
  pe E c a (fun e st => endL E.n0 p.outs e st) (ofC p.inS x)

/-- One round of a loop: on to the next round, or out. -/
def peRound (E : Env) (c : Code) (a : Ann) (I : Type) (inS : Shape) (un : Tup inS → I) (outs : List Way) (x : Tup inS) : Option (I ⊕ SumT outs) :=
  pe E c a (fun e st => match e with
    | .nrm => (match takeS inS E.n0 st.objs st.slots with | some (y, _) => some (.inl (un y)) | none => none)
    | e => (match endL E.n0 outs e st with | some y => some (.inr y) | none => none)) (ofC inS x)

end Go.Abs
