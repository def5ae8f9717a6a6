/- What each operation of the loaded code makes of typed data and objects: definitions alone. -/
import Derived.Test.YtcljanaleeapnaaDoorAbs1
import Derived.Laws.Sem
namespace Go.Abs
open Go

/-! ### Numbers, strings -/
def ibits (op : BinOp) (k : IntKind) (x y : Int) : Int :=
  let a := BitVec.ofInt k.bits x
  let b := BitVec.ofInt k.bits y
  match op with
  | .and => k.wrap (a &&& b).toNat
  | .or => k.wrap (a ||| b).toNat
  | .xor => k.wrap (a ^^^ b).toNat
  | _ => k.wrap (a &&& ~~~b).toNat

def shlI (k : IntKind) (x y : Int) : Int := k.wrap (x * 2 ^ (min y.toNat k.bits))
def shrI (k : IntKind) (x y : Int) : Int := x.fdiv (2 ^ (min y.toNat k.bits))
def eqS (x y : ByteArray) : Bool := x.toList == y.toList
def ltS (x y : ByteArray) : Bool := Op.bytesLess x.toList y.toList
def catOk (x y : ByteArray) : Bool := decide (((x.size + y.size : Nat) : Int) ≤ 9223372036854775807)
/-- Byte i of a string. -/
def btI (s : ByteArray) (i : Int) : Int := ((s.data.getD i.toNat 0).toNat : Int)

def intOp (op : BinOp) (k : IntKind) (a b : Int) : Eff Value :=
  match op with
  | .add => .ret (.int k (k.wrap (a + b)))
  | .sub => .ret (.int k (k.wrap (a - b)))
  | .mul => .ret (.int k (k.wrap (a * b)))
  | .quo => .grd (b != 0) (.ret (.int k (k.wrap (a.tdiv b))))
  | .rem => .grd (b != 0) (.ret (.int k (a.tmod b)))
  | .and | .or | .xor | .andNot => .ret (.int k (ibits op k a b))
  | .eql => .ret (.bool (a == b))
  | .neq => .ret (.bool (a != b))
  | .lss => .ret (.bool (a < b))
  | .leq => .ret (.bool (a ≤ b))
  | .gtr => .ret (.bool (a > b))
  | .geq => .ret (.bool (a ≥ b))
  | _ => .fail

def strOp (op : BinOp) (a b : ByteArray) : Eff Value :=
  match op with
  | .add => .grd (catOk a b) (.ret (.string (a ++ b)))
  | .eql => .ret (.bool (eqS a b))
  | .neq => .ret (.bool !(eqS a b))
  | .lss => .ret (.bool (ltS a b))
  | .leq => .ret (.bool (ltS a b || eqS a b))
  | .gtr => .ret (.bool !(ltS a b || eqS a b))
  | .geq => .ret (.bool !(ltS a b))
  | _ => .fail

def binV (tb : Bool) (op : BinOp) (x y : Value) : Eff Value :=
  match op, x, y with
  | .shl, .int k a, .int _ b => .grd (decide (0 ≤ b)) (.ret (.int k (shlI k a b)))
  | .shr, .int k a, .int _ b => .grd (decide (0 ≤ b)) (.ret (.int k (shrI k a b)))
  | op, .int k a, .int k' b => if k = k' then intOp op k a b else .fail
  | op, .string a, .string b => strOp op a b
  | .eql, .bool a, .bool b => bif tb then .ret (.bool (a == b)) else .fail
  | .neq, .bool a, .bool b => bif tb then .ret (.bool !(a == b)) else .fail
  | _, _, _ => .fail

def unV (op : UnOp) (x : Value) : Eff Value :=
  match op, x with
  | .neg, .int k n => .ret (.int k (k.wrap (0 - n)))
  | .xor, .int k n => .ret (.int k (ibits .xor k (if k.signed then -1 else k.max) n))
  | .not, .bool b => .ret (.bool !b)
  | _, _ => .fail

/-! ### Memory -/
def isBoolT (P : Program) (t : TypeId) : Bool :=
  match P.underlying t with
  | some .bool => true
  | _ => false
def isAggT (P : Program) (t : TypeId) : Bool :=
  match P.underlying t with
  | some (.struct _) | some (.array _ _) => true
  | _ => false

def asVal (agg : Bool) (ls : List Leaf) : Option AV :=
  match agg, ls with
  | true, ls => some (.ag ls)
  | false, [l] => some (.lf l)
  | _, _ => none
def avLeaves : AV → List Leaf
  | .lf l => [l]
  | .ag ls => ls

def getL {α : Type} : List α → Nat → Option α
  | [], _ => none
  | x :: _, 0 => some x
  | _ :: r, i + 1 => getL r i
/-- The cells 'off', .., 'off + n - 1'; none if they aren't there. -/
def cutN {α : Type} (l : List α) (off n : Nat) : Option (List α) :=
  bif Nat.ble (off + n) (List.length l) then some (List.take n (List.drop off l)) else none
def putN {α : Type} (l : List α) (off : Nat) (vs : List α) : List α := List.append (List.take off l) (List.append vs (List.drop (off + List.length vs) l))
/-! '==' of structs and arrays, by the type -/
def eqFs (P : Program) (f : TypeId → List Leaf → List Leaf → Option Bool) (xs ys : List Leaf) : List Field → Option Bool
  | [] => some true
  | g :: r =>
    bif g.name == "_" then none else
    match cutN xs g.offset (P.cellsOf g.type), cutN ys g.offset (P.cellsOf g.type) with
    | some a, some b =>
      match f g.type a b, eqFs P f xs ys r with
      | some p, some q => some (p && q)
      | _, _ => none
    | _, _ => none
def eqEs (f : List Leaf → List Leaf → Option Bool) (sz : Nat) (xs ys : List Leaf) : Nat → Nat → Option Bool
  | _, 0 => some true
  | i, n + 1 =>
    match cutN xs (i * sz) sz, cutN ys (i * sz) sz with
    | some a, some b =>
      match f a b, eqEs f sz xs ys (i + 1) n with
      | some p, some q => some (p && q)
      | _, _ => none
    | _, _ => none
def eqT (P : Program) : Nat → TypeId → List Leaf → List Leaf → Option Bool
  | 0, _, _, _ => none
  | d + 1, t, xs, ys =>
    match P.underlying t with
    | some .bool => (match xs, ys with
      | [.d (.v (.bool a))], [.d (.v (.bool b))] => some (a == b)
      | _, _ => none)
    | some (.int _) => (match xs, ys with
      | [.d (.v (.int k a))], [.d (.v (.int k' b))] => if k = k' then some (a == b) else none
      | _, _ => none)
    | some .string => (match xs, ys with
      | [.d (.v (.string a))], [.d (.v (.string b))] => some (eqS a b)
      | _, _ => none)
    | some (.struct fs) => bif P.stoodInHeld t then none else eqFs P (eqT P d) xs ys fs.toList
    | some (.array n e) => bif (P.info? e).isSome then eqEs (eqT P d e) (P.cellsOf e) xs ys 0 n else none
    | _ => none

/-- A leaf as data: a row of one's own is told as it is now. -/
def dOf (get : Nat → Option Obj) : Leaf → Option (DLeaf × List Nat)
  | .d x => some (x, [])
  | .own r => match get r with
    | some (.row _ t xs) => some (.dat t xs, [r])
    | some (.frow t xs) => some (.dat t xs, [r])
    | _ => none
  | _ => none
def dOfs (get : Nat → Option Obj) : List Leaf → Option (List DLeaf × List Nat)
  | [] => some ([], [])
  | l :: r =>
    match dOf get l, dOfs get r with
    | some (x, a), some (y, b) => some (x :: y, List.append a b)
    | _, _ => none
/-- These rows stay as they are from now on. -/
def freezes (get : Nat → Option Obj) : List Nat → List (Nat × Obj)
  | [] => []
  | r :: l => match get r with
    | some (.row _ t xs) => (r, .frow t xs) :: freezes get l
    | _ => freezes get l

/-- No object has had this number. -/
def isFree (get : Nat → Option Obj) (i : Nat) : Bool := match get i with | none => true | some _ => false

/-- A slice's data: its element type and its list; the rows that were read. -/
inductive SD where
  | nil
  | dat (t : Ty) (xs : List (El t))
def sliceOf (get : Nat → Option Obj) : Leaf → Option (SD × List Nat)
  | .d (.v x) => bif isNilSlice x then some (.nil, []) else none
  | .d (.dat t xs) => some (.dat t xs, [])
  | .own r => match get r with
    | some (.row _ t xs) => some (.dat t xs, [r])
    | some (.frow t xs) => some (.dat t xs, [r])
    | _ => none
  | _ => none

def loadAv (P : Program) (t : TypeId) (ls : List Leaf) (off : Nat) : Option AV :=
  bif (P.underlying t).isSome then
    match cutN ls off (P.cellsOf t) with
    | some c => asVal (isAggT P t) c
    | none => none
  else none

def allOk (get : Nat → Option Obj) (P : Program) (t : TypeId) : Val → Option (AV × List Nat)
  | .one (.lf (.bp b off)) =>
    match get b with
    | some (.box ls) => (loadAv P t ls off).map (·, [b])
    | some (.fbox ls) => (loadAv P t (List.map .d ls) off).map (·, [b])
    | _ => none
  | .one (.lf (.ep r i off)) =>
    match get r with
    | some (.row _ t' xs) => (loadAv P t (List.map .d (leaves t' (xs.getD i (dflt t')))) off).map (·, [r])
    | some (.frow t' xs) => (loadAv P t (List.map .d (leaves t' (xs.getD i (dflt t')))) off).map (·, [r])
    | _ => none
  | .one (.lf (.dp cs)) => (loadAv P t (List.map .d cs) 0).map (·, [])
  | _ => none

def storeOut (get : Nat → Option Obj) (P : Program) (t : TypeId) (a : Val) (v : Val) : Option Out :=
  match v with
  | .one av =>
    bif Nat.beq (List.length (avLeaves av)) (P.cellsOf t) && Nat.ble 1 (P.cellsOf t) then
      match a with
      | .one (.lf (.bp b off)) =>
        match get b with
        | some (.box ls) =>
          match cutN ls off (List.length (avLeaves av)) with
          | some _ => some ⟨.undef, [b], [(b, .box (putN ls off (avLeaves av)))]⟩
          | none => none
        | _ => none
      | .one (.lf (.ep r i off)) =>
        match get r with
        | some (.row e t' xs) =>
          match dOfs get (avLeaves av) with
          | some (ds, rs) =>
            bif rs.any (Nat.beq r) then none else
            match cutN (leaves t' (xs.getD i (dflt t'))) off (List.length ds) with
            | some _ =>
              match ofLeaves t' (putN (leaves t' (xs.getD i (dflt t'))) off ds) with
              | some (x, []) => some ⟨.undef, r :: rs, List.append (freezes get rs) [(r, .row e t' (xs.set i x))]⟩
              | _ => none
            | none => none
          | none => none
        | _ => none
      | _ => none
    else none
  | _ => none

/-! ### Structs, arrays, literals -/
def avOfVal : Val → Option AV
  | .one a => some a
  | _ => none

def fillN (place : Nat → Option (Nat × Nat)) : List (Nat × AV) → List Leaf → Option (List Leaf)
  | [], ls => some ls
  | (i, a) :: rest, ls =>
    match place i with
    | some (off, size) =>
      bif Nat.beq (List.length (avLeaves a)) size then
        match cutN ls off size with
        | some _ => fillN place rest (putN ls off (avLeaves a))
        | none => none
      else none
    | none => none

def zeroD (P : Program) (t : TypeId) : Option (List DLeaf) :=
  match P.info? t with
  | some i => match i.zero with
    | some z => bif z.cells.toList.all Value.oneCell' then some (List.map .v z.cells.toList) else none
    | none => none
  | none => none
def zeroLeaves (P : Program) (t : TypeId) : Option (List Leaf) :=
  match zeroD P t with
  | some z => some (List.map .d z)
  | none => none

def fieldPl (P : Program) (t : TypeId) (f : Nat) : Option (Nat × Nat × TypeId) :=
  match P.underlying t with
  | some (.struct fs) => match getL fs.toList f with
    | some f => some (f.offset, P.cellsOf f.type, f.type)
    | none => none
  | _ => none

def partsOf (ev : Operand → Val) : List (Nat × Operand) → Option (List (Nat × AV))
  | [] => some []
  | (i, x) :: r =>
    match avOfVal (ev x), partsOf ev r with
    | some a, some l => some ((i, a) :: l)
    | _, _ => none

def buildAv (P : Program) (ev : Operand → Val) (t : TypeId) (parts : List (Nat × Operand)) : Option AV :=
  match zeroLeaves P t, partsOf ev parts with
  | some z, some ps =>
    match P.underlying t with
    | some (.struct fs) => bif fs.toList.all (fun f => (P.info? f.type).isSome) then (fillN (fun i => (fieldPl P t i).map fun p => (p.1, p.2.1)) ps z).map .ag else none
    | some (.array _ e) => bif (P.info? e).isSome then (fillN (fun i => some (i * P.cellsOf e, P.cellsOf e)) ps z).map .ag else none
    | _ => none
  | _, _ => none

def repN {α : Type} (l : List α) : Nat → List α
  | 0 => []
  | n + 1 => List.append l (repN l n)
/-- n elements out of their leaves. -/
def elemsOf (t : Ty) : Nat → List DLeaf → Option (List (El t))
  | 0, [] => some []
  | n + 1, l => match ofLeaves t l with
    | some (x, r) => (match elemsOf t n r with | some xs => some (x :: xs) | none => none)
    | none => none
  | _, _ => none

/-- Is the zero value of this type known, and of the right size? -/
def zeroFits (P : Program) (e : TypeId) : Bool :=
  match P.info? e with
  | some i => (match i.zero with | some z => Nat.beq z.cells.size i.size | none => false)
  | none => false

def litOut (get : Nat → Option Obj) (E : Env) (ev : Operand → Val) (fr : Nat) (t : TypeId) (len : Nat) (parts : List (Nat × Operand)) : Option Out :=
  match E.P.underlying t with
  | some (.slice e) =>
    match E.ty e, zeroLeaves E.P e, partsOf ev parts with
    | some ty, some z, some ps =>
      bif Nat.beq (nleaf ty) (E.P.cellsOf e) && zeroFits E.P e && Nat.ble (len * E.P.cellsOf e) 16777216 then
        match fillN (fun i => some (i * E.P.cellsOf e, E.P.cellsOf e)) ps (repN z len) with
        | some ls => match dOfs get ls with
          | some (ds, rs) => match elemsOf ty len ds with
            | some xs => bif isFree get fr then some ⟨lf1 (.own fr), fr :: rs, List.append (freezes get rs) [(fr, .row e ty xs)]⟩ else none
            | none => none
          | none => none
        | none => none
      else none
    | _, _, _ => none
  | _ => none

/-! ### Slices -/
def limOf (P : Program) (e : TypeId) : Nat := 140737488355328 / P.bytesOf e

def sliceElem (P : Program) (t : TypeId) : Option TypeId :=
  match P.underlying t with
  | some (.slice e) => some e
  | _ => none

/-- 'append': the row s, followed by the elements of x. -/
def appendOut (get : Nat → Option Obj) (P : Program) (fr : Nat) (t : TypeId) (s x : Leaf) : Eff Out :=
  match sliceElem P t with
  | some e =>
    match s, sliceOf get x with
    | .d (.v v), some (.dat t' ys, rs) =>
      bif isNilSlice v && Nat.beq (nleaf t') (P.cellsOf e) && isFree get fr && zeroFits P e then
        .grd (decide (ys.length < limOf P e)) (.ret ⟨lf1 (.own fr), fr :: rs, [(fr, .row e t' ys)]⟩)
      else .fail
    | .d (.v v), some (.nil, _) => bif isNilSlice v && zeroFits P e then .ret ⟨lf1 (.d (.v v)), [], []⟩ else .fail
    | .own r, some (.nil, _) => (match get r with | some (.row _ _ _) => bif zeroFits P e then .ret ⟨lf1 (.own r), [r], []⟩ else .fail | _ => .fail)
    | .own r, some (.dat t' ys, rs) =>
      match get r with
      | some (.row e' t xs) =>
        match castL t' t ys with
        | some ys' =>
          bif Nat.beq e e' && Nat.beq (nleaf t) (P.cellsOf e) && !(rs.any (Nat.beq r)) && isFree get fr && zeroFits P e then
            .grd (decide (xs.length + ys'.length < limOf P e)) (.ret ⟨lf1 (.own fr), fr :: r :: rs, [(r, .gone), (fr, .row e t (xs ++ ys'))]⟩)
          else .fail
        | none => .fail
      | _ => .fail
    | _, _ => .fail
  | none => .fail

def makeOut (get : Nat → Option Obj) (E : Env) (fr : Nat) (t : TypeId) (n : Int) : Eff Out :=
  match sliceElem E.P t with
  | some e =>
    match E.ty e, zeroD E.P e with
    | some ty, some z =>
      match elemsOf ty 1 z with
      | some [x] =>
        bif Nat.beq (nleaf ty) (E.P.cellsOf e) && Nat.ble 1 (E.P.cellsOf e) && isFree get fr then
          .grd (decide (0 ≤ n)) (.grd (decide (n.toNat ≤ 140737488355328 / E.P.bytesOf e)) (.ret ⟨lf1 (.own fr), [fr], [(fr, .row e ty (List.replicate n.toNat x))]⟩))
        else .fail
      | _ => .fail
    | _, _ => .fail
  | none => .fail

def optInt (ev : Operand → Val) : Option Operand → Option (Option Int)
  | none => some none
  | some x => match ev x with
    | .one (.lf (.d (.v (.int _ n)))) => some (some n)
    | _ => none

def cutList {α : Type} (xs : List α) (lo hi : Option Int) : List α :=
  match lo, hi with
  | none, none => xs
  | some l, none => xs.drop l.toNat
  | none, some h => xs.take h.toNat
  | some l, some h => (xs.take h.toNat).drop l.toNat
def cutGrd {α : Type} (n : Int) (lo hi : Option Int) (e : Eff α) : Eff α :=
  match lo, hi with
  | none, none => e
  | some l, none => .grd (decide (0 ≤ l)) (.grd (decide (l ≤ n)) e)
  | none, some h => .grd (decide (0 ≤ h)) (.grd (decide (h ≤ n)) e)
  | some l, some h => .grd (decide (0 ≤ l)) (.grd (decide (l ≤ h)) (.grd (decide (h ≤ n)) e))
def cutStr (s : ByteArray) (lo hi : Option Int) : ByteArray :=
  s.extract (match lo with | some l => l.toNat | none => 0) (match hi with | some h => h.toNat | none => s.size)

def dLeaves : List Leaf → Option (List DLeaf)
  | [] => some []
  | .d x :: r => (match dLeaves r with | some l => some (x :: l) | none => none)
  | _ :: _ => none

def arrayOf (P : Program) (t : TypeId) : Option (Nat × TypeId) :=
  match P.underlying t with
  | some (.array n e) => some (n, e)
  | some (.pointer a) => (match P.underlying a with | some (.array n e) => some (n, e) | _ => none)
  | _ => none

/-- Are the elements of this slice type of that many cells? -/
def elemFits (P : Program) (t : TypeId) (ty : Ty) : Bool := match sliceElem P t with | some e => Nat.beq (nleaf ty) (P.cellsOf e) | none => false
def isStrT (P : Program) (t : TypeId) : Bool := match P.underlying t with | some .string => true | _ => false

def sliceOut (get : Nat → Option Obj) (E : Env) (t : TypeId) (x : Val) (lo hi : Option Int) : Eff Out :=
  match x with
  | .one (.lf (.d (.v (.string s)))) => bif isStrT E.P t then cutGrd (s.size : Int) lo hi (ret1 (sc (.string (cutStr s lo hi)))) else .fail
  | .one (.lf (.d (.dat ty xs))) => bif elemFits E.P t ty then cutGrd (xs.length : Int) lo hi (ret1 (lf1 (.d (.dat ty (cutList xs lo hi))))) else .fail
  | .one (.lf (.own r)) =>
    match get r with
    | some (.row _ ty xs) => bif elemFits E.P t ty then cutGrd (xs.length : Int) lo hi (.ret ⟨lf1 (.d (.dat ty (cutList xs lo hi))), [r], [(r, .frow ty xs)]⟩) else .fail
    | some (.frow ty xs) => bif elemFits E.P t ty then cutGrd (xs.length : Int) lo hi (.ret ⟨lf1 (.d (.dat ty (cutList xs lo hi))), [r], []⟩) else .fail
    | _ => .fail
  | .one (.lf (.bp b 0)) =>
    match arrayOf E.P t with
    | some (n, e) =>
      match E.ty e, get b with
      | some ty, some (.box ls) =>
        match dLeaves ls with
        | some ds => match elemsOf ty n ds with
          | some xs =>
            bif Nat.beq (nleaf ty) (E.P.cellsOf e) then
              cutGrd (n : Int) lo hi (.ret ⟨lf1 (.d (.dat ty (cutList xs lo hi))), [b], [(b, .fbox ds)]⟩)
            else .fail
          | none => .fail
        | none => .fail
      | _, _ => .fail
    | none => .fail
  | _ => .fail

/-- One of the n places, by the index. -/
def selE {α : Type} (i : Int) (f : Nat → Option α) : Nat → Nat → Eff α
  | _, 0 => .fail
  | j, n + 1 => .br (i == (j : Int)) (match f j with | some a => .ret a | none => .fail) (selE i f (j + 1) n)

def intsOf (k : IntKind) : List DLeaf → Option (List Int)
  | [] => some []
  | .v (.int k' n) :: r => if k' = k then (match intsOf k r with | some l => some (n :: l) | none => none) else none
  | _ => none
def strsOf : List DLeaf → Option (List ByteArray)
  | [] => some []
  | .v (.string s) :: r => (match strsOf r with | some l => some (s :: l) | none => none)
  | _ => none

/-- An array's length and element type; the elements have cells. -/
def arrElem (P : Program) (t : TypeId) : Option (Nat × TypeId) :=
  match P.underlying t with
  | some (.array n e) => bif Nat.ble 1 (P.cellsOf e) then some (n, e) else none
  | _ => none

def idxDat (P : Program) (t : TypeId) (ty : Ty) (xs : List (El ty)) (i : Int) (rd : List Nat) : Eff Out :=
  bif elemFits P t ty then
    .grd (decide (0 ≤ i)) (.grd (decide (i < (xs.length : Int))) (.ret ⟨lf1 (.dp (leaves ty (xs.getD i.toNat (dflt ty)))), rd, []⟩))
  else .fail

/-- Element i of a table of numbers that stays. -/
def idxTab (n : Nat) (e : TypeId) (sz : Nat) (cs : List DLeaf) (i : Int) : Eff Out :=
  match cs with
  | .v (.int k _) :: _ =>
    match intsOf k (List.take n cs) with
    | some ns => bif Nat.beq sz 1 && Nat.beq (List.length ns) n then
        .grd (decide (0 ≤ i)) (.grd (decide (i < (n : Int))) (ret1 (lf1 (.dp [.v (.int k (ns.getD i.toNat 0))]))))
      else selE i (fun j => some ⟨lf1 (.dp (List.drop (j * sz) cs)), [], []⟩) 0 n
    | none => selE i (fun j => some ⟨lf1 (.dp (List.drop (j * sz) cs)), [], []⟩) 0 n
  | _ => selE i (fun j => some ⟨lf1 (.dp (List.drop (j * sz) cs)), [], []⟩) 0 n

def idxE (get : Nat → Option Obj) (E : Env) (t : TypeId) (x : Val) (i : Int) : Eff Out :=
  match x with
  | .one (.lf (.d (.dat ty xs))) => idxDat E.P t ty xs i []
  | .one (.lf (.own r)) =>
    match get r with
    | some (.row _ ty xs) =>
      bif elemFits E.P t ty then
        .grd (decide (0 ≤ i)) (.grd (decide (i < (xs.length : Int))) (.ret ⟨lf1 (.ep r i.toNat 0), [r], []⟩))
      else .fail
    | some (.frow ty xs) => idxDat E.P t ty xs i [r]
    | _ => .fail
  | .one (.lf (.bp b off)) =>
    match arrElem E.P t with
    | some (n, e) => selE i (fun j => some ⟨lf1 (.bp b (off + j * E.P.cellsOf e)), [], []⟩) 0 n
    | none => .fail
  | .one (.lf (.ep r k off)) =>
    match arrElem E.P t with
    | some (n, e) => selE i (fun j => some ⟨lf1 (.ep r k (off + j * E.P.cellsOf e)), [], []⟩) 0 n
    | none => .fail
  | .one (.lf (.dp cs)) =>
    match arrElem E.P t with
    | some (n, e) => idxTab n e (E.P.cellsOf e) cs i
    | none => .fail
  | _ => .fail

def fieldE (P : Program) (t : TypeId) (x : Val) (f : Nat) : Option Val :=
  match fieldPl P t f with
  | some (off, n, _) =>
    bif Nat.beq n 0 then none else
    match x with
    | .one (.lf (.bp b o)) => some (lf1 (.bp b (o + off)))
    | .one (.lf (.ep r i o)) => some (lf1 (.ep r i (o + off)))
    | .one (.lf (.dp cs)) => some (lf1 (.dp (List.drop off cs)))
    | _ => none
  | none => none

def indexV (P : Program) (t : TypeId) (x : Val) (i : Int) : Eff Out :=
  match x with
  | .one (.lf (.d (.v (.string s)))) => bif isStrT P t then .grd (decide (0 ≤ i)) (.grd (decide (i < (s.size : Int))) (ret1 (sc (.int .u8 (btI s i))))) else .fail
  | .one (.ag ls) =>
    match arrElem P t with
    | some (n, e) =>
      match ls with
      | .d (.v (.string _)) :: _ =>
        match dLeaves ls with
        | some ds => match strsOf ds with
          | some ss => bif Nat.beq (P.cellsOf e) 1 && Nat.beq (List.length ss) n && !(isAggT P e) && (P.underlying e).isSome then
              .grd (decide (0 ≤ i)) (.grd (decide (i < (n : Int))) (ret1 (sc (.string (ss.getD i.toNat ⟨#[]⟩)))))
            else .fail
          | none => .fail
        | none => .fail
      | .d (.v (.int k _)) :: _ =>
        match dLeaves ls with
        | some ds => match intsOf k ds with
          | some ns => bif Nat.beq (P.cellsOf e) 1 && Nat.beq (List.length ns) n && !(isAggT P e) && (P.underlying e).isSome then
              .grd (decide (0 ≤ i)) (.grd (decide (i < (n : Int))) (ret1 (sc (.int k (ns.getD i.toNat 0)))))
            else .fail
          | none => .fail
        | none => .fail
      | _ => bif (P.underlying e).isSome then selE i (fun j => match cutN ls (j * P.cellsOf e) (P.cellsOf e) with
          | some c => (asVal (isAggT P e) c).map fun a => ⟨.one a, [], []⟩
          | none => none) 0 n else .fail
    | none => .fail
  | _ => .fail

/-! ### Calls -/
def sliceLen (get : Nat → Option Obj) : Leaf → Option (Nat × List Nat)
  | .d (.v x) => bif isNilSlice x then some (0, []) else none
  | .d (.dat _ xs) => some (xs.length, [])
  | .own r => match get r with
    | some (.row _ _ xs) => some (xs.length, [r])
    | some (.frow _ xs) => some (xs.length, [r])
    | _ => none
  | _ => none

def lenOut (get : Nat → Option Obj) (P : Program) (t : TypeId) (x : Val) : Option Out :=
  match P.underlying t with
  | some .string => (match x with | .one (.lf (.d (.v (.string s)))) => some ⟨sc (.int .i64 s.size), [], []⟩ | _ => none)
  | some (.array n _) => some ⟨sc (.int .i64 n), [], []⟩
  | some (.slice _) => (match x with
    | .one (.lf l) => (match sliceLen get l with | some (n, rs) => some ⟨sc (.int .i64 n), rs, []⟩ | none => none)
    | _ => none)
  | _ => none

def maxV (x y : Value) : Option Value :=
  match x, y with
  | .int k a, .int _ b => some (.int k (bif decide (b > a) then b else a))
  | _, _ => none
def minV (x y : Value) : Option Value :=
  match x, y with
  | .int k a, .int _ b => some (.int k (bif decide (b < a) then b else a))
  | _, _ => none
def foldV (f : Value → Value → Option Value) : Value → List Val → Option Value
  | x, [] => some x
  | x, .one (.lf (.d (.v y))) :: r => (match f x y with | some z => foldV f z r | none => none)
  | _, _ => none

def copyOut (get : Nat → Option Obj) (P : Program) (t : TypeId) (s x : Leaf) : Option Out :=
  match sliceElem P t, s, sliceOf get x with
  | some e, .own r, some (.dat t' ys, rs) =>
    match get r with
    | some (.row e' t xs) =>
      match castL t' t ys with
      | some ys' =>
        bif Nat.beq (nleaf t) (P.cellsOf e) && !(rs.any (Nat.beq r)) then
          some ⟨sc (.int .i64 (Nat.min ys'.length xs.length : Nat)), r :: rs, [(r, .row e' t (ys'.take xs.length ++ xs.drop ys'.length))]⟩
        else none
      | none => none
    | _ => none
  | _, _, _ => none

def builtinE (get : Nat → Option Obj) (E : Env) (fr : Nat) (b : Builtin) (ts : List TypeId) (args : List Val) : Eff Out :=
  match b, ts, args with
  | .len, t :: _, [x] => (match lenOut get E.P t x with | some o => .ret o | none => .fail)
  | .append, t :: u :: _, [.one (.lf s), .one (.lf x)] =>
    (bif Nat.beq t u then appendOut get E.P fr t s x else .fail)
  | .max, _, .one (.lf (.d (.v x))) :: r => (match foldV maxV x r with | some v => ret1 (sc v) | none => .fail)
  | .min, _, .one (.lf (.d (.v x))) :: r => (match foldV minV x r with | some v => ret1 (sc v) | none => .fail)
  | _, _, _ => .fail

def numbered : Nat → List Val → Nat → Val
  | _, [], _ => .undef
  | i, v :: r, j => bif Nat.beq i j then v else numbered (i + 1) r j

def reach (m : Met) : List Nat :=
  match m with
  | ⟨ids, seen⟩ => List.append (idsOf ids) seen
where
  idsOf : List (Nat × Option Nat) → List Nat
    | [] => []
    | (_, some n) :: r => n :: idsOf r
    | (_, none) :: r => idsOf r

/-- The number that a called function's object o has at the caller: its own if it came in, else a new one. -/
def backId (n0 : Nat) (ids : List (Nat × Option Nat)) (fr o : Nat) : Nat :=
  bif Nat.blt o n0 then (match findId o ids with | some (some n) => n | _ => fr + o) else fr + o

def hasDat : List LS → Bool
  | [] => false
  | .dat _ :: _ => true
  | .sc (.slc _) :: _ => true
  | _ :: r => hasDat r
def slotsDat : List (Nat × AS) → Bool
  | [] => false
  | (_, .lf l) :: r => hasDat [l] || slotsDat r
  | (_, .ag ls) :: r => hasDat ls || slotsDat r
def isDatT : Ty → Bool
  | .int _ => false
  | .bool => false
  | .str => false
  | _ => true
def objsDat : List OS → Bool
  | [] => false
  | .row _ t :: r => isDatT t || objsDat r
  | .box ls :: r => hasDat ls || objsDat r
  | .dead :: r => objsDat r

def results (l : List (Nat × AV)) : Val :=
  match l with
  | [(_, a)] => .one a
  | l => .tup (List.map (·.2) l)

/-- What is left of the objects that were handed over and don't come back. -/
def gone (n0 : Nat) : List (Nat × Option Nat) → List (Nat × Obj)
  | [] => []
  | (o, some n) :: r => bif Nat.blt o n0 then gone n0 r else (n, .gone) :: gone n0 r
  | (_, none) :: r => gone n0 r
def backObjs (f : Nat → Nat) : Nat → List (Option Obj) → List (Nat × Obj)
  | _, [] => []
  | o, some x :: r => (f o, x) :: backObjs f (o + 1) r
  | o, none :: r => (f o, .gone) :: backObjs f (o + 1) r

/-- The numbers 'fr', .., 'fr + k - 1'. -/
def newIds (fr : Nat) : Nat → List Nat
  | 0 => []
  | k + 1 => (fr + k) :: newIds fr k
def freeAll (get : Nat → Option Obj) (fr k : Nat) : Bool := (newIds fr k).all (isFree get)
/-- What is tied is there, and tied once. -/
def tiesOk (get : Nat → Option Obj) (all : List (Nat × Option Nat)) : List (Nat × Option Nat) → Bool
  | [] => true
  | (o, some n) :: r => !(isFree get n) && (match findId o all with | some x => isId n x | none => false) && tiesOk get all r
  | (_, none) :: r => tiesOk get all r

def callE (get : Nat → Option Obj) (fr : Nat) (p : Proc) (args : List Val) : Eff Out :=
  match takeS p.inS 0 get (numbered 0 args) with
  | some (x, m) =>
    bif !(freeAll get fr p.outS.objs.length && (Nat.beq (List.length args) p.nargs && (allLive p.inS.objs p.n0 && (Nat.ble p.n0 p.outS.objs.length && tiesOk get m.ids m.ids)))) then .fail else
    .call (Tup p.inS) p.R p.F x fun r =>
      let y := p.post r
      .ret ⟨results (makeSlots (backId p.n0 m.ids fr) p.outS.slots y.1), List.append (newIds fr p.outS.objs.length) (reach m),
        List.append (bif slotsDat p.outS.slots || objsDat p.outS.objs then freezes get m.seen else [])
          (List.append (gone p.n0 m.ids) (backObjs (backId p.n0 m.ids fr) 0 (makeObjs (backId p.n0 m.ids fr) p.outS.objs y.2)))⟩
  | none => .fail

def constV : Value → Val
  | .agg cs => bif cs.toList.all Value.oneCell' then .one (.ag (List.map (fun v => .d (.v v)) cs.toList)) else .undef
  | .tuple _ => .undef
  | v => sc v

def evalO (E : Env) (sl : Nat → Val) : Operand → Val
  | .tmp t => sl t
  | .const c => constV c
  | .global g => (match E.glob g with | some cs => lf1 (.dp cs) | none => .undef)
  | .func f => lf1 (.fn f [])

def capsOf (ev : Operand → Val) : List Operand → Option (List Nat)
  | [] => some []
  | x :: r => match ev x, capsOf ev r with
    | .one (.lf (.bp b 0)), some l => some (b :: l)
    | _, _ => none

def selV {α : Type} : List α → Nat → Option α
  | [], _ => none
  | x :: _, 0 => some x
  | _ :: r, i + 1 => selV r i

def pickE (b : Bool) (x y : Val) : Eff Out :=
  match x, y with
  | .one (.lf (.d (.v (.bool p)))), .one (.lf (.d (.v (.bool q)))) => ret1 (sc (.bool (bif b then p else q)))
  | .one (.lf (.d (.v (.int k p)))), .one (.lf (.d (.v (.int k' q)))) => if k = k' then ret1 (sc (.int k (bif b then p else q))) else .fail
  | x, y => .br b (ret1 x) (ret1 y)

def opE (E : Env) (sl : Nat → Val) (get : Nat → Option Obj) (fr : Nat) (o : Oper) : Eff Out :=
  let ev := evalO E sl
  let opt (x : Option Out) : Eff Out := match x with | some r => .ret r | none => .fail
  let optV (x : Option Val) : Eff Out := match x with | some r => ret1 r | none => .fail
  match o.op with
  | .move x | .assign x => ret1 (ev x)
  | .pick c a b => (match ev c with | .one (.lf (.d (.v (.bool t)))) => pickE t (ev a) (ev b) | _ => .fail)
  | .alloc t => (match zeroLeaves E.P t with | some z => bif Nat.beq (List.length z) 0 || !(isFree get fr) then .fail else .ret ⟨lf1 (.bp fr 0), [fr], [(fr, .box z)]⟩ | none => .fail)
  | .box _ x => (match ev x with | .one a => bif Nat.beq (List.length (avLeaves a)) 0 || !(isFree get fr) then .fail else .ret ⟨lf1 (.bp fr 0), [fr], [(fr, .box (avLeaves a))]⟩ | _ => .fail)
  | .build t parts => optV ((buildAv E.P ev t parts.toList).map .one)
  | .buildSlice t len parts => opt (litOut get E ev fr t len parts.toList)
  | .load t a => (match allOk get E.P t (ev a) with | some (v, rs) => .ret ⟨.one v, rs, []⟩ | none => .fail)
  | .store t a v => opt (storeOut get E.P t (ev a) (ev v))
  | .nilCheck x => (match ev x with
    | .one (.lf (.bp b off)) => ret1 (lf1 (.bp b off))
    | .one (.lf (.ep r i off)) => ret1 (lf1 (.ep r i off))
    | .one (.lf (.dp cs)) => ret1 (lf1 (.dp cs))
    | _ => .fail)
  | .binOp op t x y _ => (match ev x, ev y with
    | .one (.lf (.d (.v a))), .one (.lf (.d (.v b))) => (match binV (isBoolT E.P t) op a b with
      | .ret v => ret1 (sc v)
      | .grd c (.ret v) => .grd c (ret1 (sc v))
      | _ => .fail)
    | .one (.ag a), .one (.ag b) =>
      bif E.P.eqGuardType E.P.depth t || !(isAggT E.P t) then .fail else (match op, eqT E.P 20 t a b with
      | .eql, some q => ret1 (sc (.bool q))
      | .neq, some q => ret1 (sc (.bool !q))
      | _, _ => .fail)
    | _, _ => .fail)
  | .unOp op _ x => (match ev x with
    | .one (.lf (.d (.v a))) => (match unV op a with | .ret v => ret1 (sc v) | _ => .fail)
    | _ => .fail)
  | .convert s t x => (match ev x with
    | .one (.lf (.d (.v (.int _ n)))) => (match E.P.underlying s, E.P.underlying t with
      | some (.int _), some (.int k) => ret1 (sc (.int k (k.wrap n)))
      | _, _ => .fail)
    | .one (.lf (.d (.v (.string b)))) => (match E.P.underlying s, E.P.underlying t with
      | some .string, some .string => ret1 (sc (.string b))
      | _, _ => .fail)
    | _ => .fail)
  | .makeFunc (.func f) first caps =>
    bif first.isEmpty then (match capsOf ev caps.toList with | some l => ret1 (lf1 (.fn f l)) | none => .fail) else .fail
  | .makeSlice t l c => (match l, c, ev l with
    | .tmp i, .tmp j, .one (.lf (.d (.v (.int _ n)))) => bif Nat.beq i j then makeOut get E fr t n else .fail
    | .const _, .const (.int .i64 m), .one (.lf (.d (.v (.int .i64 n)))) => bif m == n then makeOut get E fr t n else .fail
    | _, _, _ => .fail)
  | .slice t x lo hi none => (match optInt ev lo, optInt ev hi with
    | some l, some h => sliceOut get E t (ev x) l h
    | _, _ => .fail)
  | .fieldAddr t x f => optV (fieldE E.P t (ev x) f)
  | .field t x f => (match ev x, fieldPl E.P t f with
    | .one (.ag ls), some (off, n, ft) => (match (bif (E.P.underlying ft).isSome then cutN ls off n else none) with | some c => optV ((asVal (isAggT E.P ft) c).map .one) | none => .fail)
    | _, _ => .fail)
  | .indexAddr t x i => (match ev i with
    | .one (.lf (.d (.v (.int _ n)))) => idxE get E t (ev x) n
    | _ => .fail)
  | .index t x i => (match ev i with
    | .one (.lf (.d (.v (.int _ n)))) => indexV E.P t (ev x) n
    | _ => .fail)
  | .extract t i => (match ev t with
    | .tup l => (match selV l i with | some a => ret1 (.one a) | none => .fail)
    | _ => .fail)
  | .call c => (match c.callee with
    | .builtin b => builtinE get E fr b c.argTypes.toList (List.map ev c.args.toList)
    | .value f => (match ev f with
      | .one (.lf (.fn g caps)) => (match E.proc g with
        | some p => callE get fr p (List.append (List.map ev c.args.toList) (List.map (fun b => lf1 (.bp b 0)) caps))
        | none => .fail)
      | _ => .fail)
    | _ => .fail)
  | _ => .fail

end Go.Abs
