import Derived.Calls
import Derived.Orders
import Derived.Laws.AppendOwn
import Derived.Laws.MakeOwn
import Derived.Laws.StructEq
import Derived.Laws.Tables
/- A deterministic evaluator over tree values for the code of a translation: the definitions. (The proofs that it tells what the machine does stand in the texts behind this one.) -/
set_option linter.unusedVariables false
namespace Go.Ilv
open Go

/-- What a slot or a cell holds, seen by the evaluator. 'lit': a slice that nobody writes any more; 'ref': a slice into an object of the evaluator's own; 'nils': a slice without capacity; 'cptr': a pointer to a place that nobody writes any more, with the cells from there on. -/
inductive V where
  | bool (b : Bool)
  | int (k : IntKind) (n : Int)
  | str (s : ByteArray)
  | agg (cs : List V)
  | lit (xs : List V)
  | nils
  | ref (id ver sz off len : Nat)
  | ptr (id ver idx off : Nat)
  | cptr (cs : List V)
  | pnil
  | fn (f : FuncId) (cap : List V)
  | tup (vs : List V)
  | undef
  deriving Inhabited

def V.cells : V → List V
  | .agg cs => cs
  | v => [v]

/-- The value of one cell. -/
def V.leaf : V → Bool
  | .agg _ | .tup _ | .undef => false
  | _ => true

/-- A value that a variable can hold. -/
def V.storable : V → Bool
  | .tup _ | .undef => false
  | _ => true

/-- No object is named outside slices that nobody writes. -/
def V.flat : V → Bool
  | .agg cs => cs.all fun c => match c with
    | .ref .. | .ptr .. | .fn .. | .agg _ | .tup _ | .undef => false
    | _ => true
  | .ref .. | .ptr .. | .fn .. | .tup _ | .undef => false
  | _ => true

mutual
def V.beq : V → V → Bool
  | .bool a, .bool b => a == b
  | .int k a, .int l b => decide (k = l) && decide (a = b)
  | .str a, .str b => decide (a = b)
  | .agg a, .agg b => V.beqL a b
  | .lit a, .lit b => V.beqL a b
  | .nils, .nils => true
  | .ref a b c d f, .ref a' b' c' d' f' => decide (a = a') && decide (b = b') && decide (c = c') && decide (d = d') && decide (f = f')
  | .ptr a b c d, .ptr a' b' c' d' => decide (a = a') && decide (b = b') && decide (c = c') && decide (d = d')
  | .cptr a, .cptr b => V.beqL a b
  | .pnil, .pnil => true
  | .fn f a, .fn g b => decide (f = g) && V.beqL a b
  | .tup a, .tup b => V.beqL a b
  | .undef, .undef => true
  | _, _ => false
def V.beqL : List V → List V → Bool
  | [], [] => true
  | a :: l, b :: r => V.beq a b && V.beqL l r
  | _, _ => false
end

/-- Lists of pairs, by ascending key. -/
def aget {α : Type} : List (Nat × α) → Nat → Option α
  | [], _ => none
  | (k, v) :: r, i => if i = k then some v else aget r i
def aset {α : Type} : List (Nat × α) → Nat → α → List (Nat × α)
  | [], i, x => [(i, x)]
  | (k, v) :: r, i, x => if i = k then (k, x) :: r else if i < k then (i, x) :: (k, v) :: r else (k, v) :: aset r i x
def adel {α : Type} (l : List (Nat × α)) (i : Nat) : List (Nat × α) := l.filter fun x => !(x.1 == i)

/-- An object of the evaluator's own: rows of 'sz' cells. 'var': a variable (it goes with its function), else the array behind a slice. -/
structure Obj where
  sz : Nat
  ver : Nat
  var : Bool
  rows : List (List V)
  deriving Inhabited

structure St where
  nxt : Nat
  objs : List (Nat × Obj)

def St.empty : St := ⟨0, []⟩
def St.get (s : St) (i : Nat) : Option Obj := aget s.objs i
def St.set (s : St) (i : Nat) (o : Obj) : St := { s with objs := aset s.objs i o }
def St.del (s : St) (i : Nat) : St := { s with objs := adel s.objs i }
abbrev Env := List (Nat × V)

/-- What the evaluator knows of a type. -/
inductive K where
  | int (k : IntKind)
  | bool
  | str
  | ptr (e : TypeId)
  | slice (e : TypeId)
  | struct (fs : List (Nat × TypeId))
  | arr (n : Nat) (e : TypeId)
  | other
structure Ty where
  kind : K
  size : Nat
  bytes : Nat
  zero : List V
def K.agg : K → Bool
  | .struct _ | .arr .. => true
  | _ => false

/-- What the evaluator knows of a function. 'pure': it is called over a store of its own, and its result is told without objects; 'frz': the slots whose slice is told as one that nobody writes; 'live i': what is kept behind region i; 'conf i': the pairs of unordered operations of region i of which one may write. -/
structure FnI where
  fn : Func
  pure : Bool
  keep : Bool
  frz : List Nat
  live : List (Nat × List Nat)
  conf : List (Nat × List (Nat × Nat))

structure Cfg where
  ty : TypeId → Option Ty
  fn : FuncId → Option FnI
  glob : Nat → Option (List V)
  /-- The structs whose values may be held against each other: their cells are plain. -/
  eqs : TypeId → Bool
  /-- Functions that are told by what they come to. -/
  intr : FuncId → Option (List V → St → Option (V × St))

section ops
variable (C : Cfg)

mutual
def ofConst : Value → Option V
  | .bool b => some (.bool b)
  | .int k n => some (.int k n)
  | .string s => some (.str s)
  | .slice none 0 0 => some .nils
  | .pointer none => some .pnil
  | .agg ⟨cs⟩ => (ofConstL cs).map .agg
  | _ => none
def ofConstL : List Value → Option (List V)
  | [] => some []
  | v :: r => match ofConst v, ofConstL r with
    | some x, some l => if x.leaf then some (x :: l) else none
    | _, _ => none
end

def opnd (e : Env) : Operand → Option V
  | .tmp t => aget e t
  | .const v => ofConst v
  | .global g => (C.glob g).map .cptr
  | .func f => some (.fn f [])

def ofCells (agg : Bool) (cs : List V) : Option V :=
  if agg then some (.agg cs) else match cs with
    | [v] => some v
    | _ => none

/-- n cells from a place on. -/
def rd (s : St) : V → Nat → Option (List V)
  | .cptr cs, n => if n ≤ cs.length then some (cs.take n) else none
  | .ptr id ver idx off, n =>
    match s.get id with
    | some o => if o.ver = ver then match o.rows[idx]? with
        | some r => if off + n ≤ r.length then some ((r.drop off).take n) else none
        | none => none
      else none
    | none => none
  | _, _ => none

/-- The object whose place a pointer leads to. -/
def V.base : V → Option Nat
  | .ptr id .. => some id
  | _ => none

def wr (s : St) : V → List V → Option St
  | .ptr id ver idx off, cs =>
    match s.get id with
    | some o => if o.ver = ver then match o.rows[idx]? with
        | some r => if off + cs.length ≤ r.length then
            some (s.set id { o with rows := o.rows.set idx (r.take off ++ cs ++ r.drop (off + cs.length)) }) else none
        | none => none
      else none
    | none => none
  | _, _ => none

def cmpInt (op : BinOp) (x y : Int) : Option Bool :=
  match op with
  | .eql => some (decide (x = y)) | .neq => some (!decide (x = y)) | .lss => some (decide (x < y))
  | .leq => some (decide (x ≤ y)) | .gtr => some (decide (x > y)) | .geq => some (decide (x ≥ y))
  | _ => none
def bitInt (op : BinOp) (k : IntKind) (x y : Int) : Option Int :=
  let a := BitVec.ofInt k.bits x
  let b := BitVec.ofInt k.bits y
  match op with
  | .and => some (k.wrap (a &&& b).toNat) | .or => some (k.wrap (a ||| b).toNat)
  | .xor => some (k.wrap (a ^^^ b).toNat) | .andNot => some (k.wrap (a &&& ~~~b).toNat)
  | _ => none
def arith (op : BinOp) (k : IntKind) (x y : Int) : Option V :=
  match op with
  | .add => some (.int k (k.wrap (x + y)))
  | .sub => some (.int k (k.wrap (x - y)))
  | .mul => some (.int k (k.wrap (x * y)))
  | .quo => if y = 0 then none else some (.int k (k.wrap (x.tdiv y)))
  | .rem => if y = 0 then none else some (.int k (x.tmod y))
  | .and | .or | .xor | .andNot => (bitInt op k x y).map (.int k)
  | .eql | .neq | .lss | .leq | .gtr | .geq => (cmpInt op x y).map .bool
  | _ => none
def strOp (op : BinOp) (x y : ByteArray) : Option V :=
  match op with
  | .add => if ((x.size + y.size : Nat) : Int) > IntKind.i64.max then none else some (.str (x ++ y))
  | .eql => some (.bool (x.toList == y.toList))
  | .neq => some (.bool !(x.toList == y.toList))
  | .lss => some (.bool (Op.bytesLess x.toList y.toList))
  | .leq => some (.bool (Op.bytesLess x.toList y.toList || x.toList == y.toList))
  | .gtr => some (.bool !(Op.bytesLess x.toList y.toList || x.toList == y.toList))
  | .geq => some (.bool !(Op.bytesLess x.toList y.toList))
  | _ => none
/-- '==' on plain cells. -/
def eqCell : K → V → V → Option Bool
  | .bool, .bool a, .bool b => some (a == b)
  | .int _, .int k a, .int l b => if k = l then some (a == b) else none
  | .str, .str a, .str b => some (a.toList == b.toList)
  | _, _, _ => none
def eqCells : List (Nat × TypeId) → List V → List V → Option Bool
  | [], [], [] => some true
  | (_, t) :: fs, a :: l, b :: r => match C.ty t with
    | some y => match eqCell y.kind a b, eqCells fs l r with
      | some x, some z => some (x && z)
      | _, _ => none
    | none => none
  | _, _, _ => none
def eqV (t : TypeId) (x y : V) : Option Bool :=
  match C.ty t with
  | none => none
  | some ty => match ty.kind, x, y with
    | .bool, .bool a, .bool b => some (a == b)
    | .ptr _, .pnil, .pnil => some true
    | .ptr _, .pnil, .ptr .. | .ptr _, .ptr .., .pnil | .ptr _, .pnil, .cptr _ | .ptr _, .cptr _, .pnil => some false
    | .struct fs, .agg a, .agg b => if C.eqs t then eqCells C fs a b else none
    | _, _, _ => none
def bin (op : BinOp) (t : TypeId) (x y : V) : Option V :=
  match x, y with
  | .int k a, .int l b =>
    match op with
    | .shl => if b < 0 then none else some (.int k (k.wrap (a * 2 ^ (min b.toNat k.bits))))
    | .shr => if b < 0 then none else some (.int k (a.fdiv (2 ^ (min b.toNat k.bits))))
    | _ => if k = l then arith op k a b else none
  | .str a, .str b => strOp op a b
  | x, y => match op with
    | .eql => (eqV C t x y).map .bool
    | .neq => (eqV C t x y).map fun b => .bool !b
    | _ => none
/-- The source's bare nil of a slice type. -/
def isNilS : Operand → Bool
  | .const (.slice none 0 0) => true
  | _ => false
def V.full : V → Bool
  | .lit (_ :: _) => true
  | .ref _ _ _ _ n => decide (0 < n)
  | _ => false
/-- A slice that has elements, held against nil. -/
def nilCmp (op : BinOp) (t : TypeId) (x : V) : Option V :=
  match C.ty t with
  | some { kind := .slice _, .. } =>
    if x.full then match op with
      | .eql => some (.bool false)
      | .neq => some (.bool true)
      | _ => none
    else none
  | _ => none
def un (op : UnOp) (x : V) : Option V :=
  match op, x with
  | .neg, .int k n => some (.int k (k.wrap (0 - n)))
  | .xor, .int k n => (bitInt .xor k (if k.signed then -1 else k.max) n).map (.int k)
  | .not, .bool b => some (.bool !b)
  | _, _ => none

def sizeOfT (t : TypeId) : Option Nat := (C.ty t).map (·.size)

def fieldAddr (t : TypeId) (x : V) (f : Nat) : Option V :=
  match C.ty t with
  | some { kind := .struct fs, .. } => match fs[f]? with
    | some (off, ft) => match C.ty ft with
      | some y => if y.size = 0 then none else match x with
        | .cptr cs => some (.cptr (cs.drop off))
        | .ptr id ver idx o => some (.ptr id ver idx (o + off))
        | _ => none
      | none => none
    | none => none
  | _ => none

def indexAddr (t : TypeId) (x i : V) : Option V :=
  match C.ty t, i with
  | some { kind := .slice e, .. }, .int _ n => match C.ty e with
    | some y => match x with
      | .lit xs => if 0 ≤ n then match xs[n.toNat]? with
          | some v => if v.cells.length = y.size then some (.cptr v.cells) else none
          | none => none
        else none
      | .ref id ver sz off len => if 0 ≤ n ∧ n < len ∧ sz = y.size then some (.ptr id ver (off + n.toNat) 0) else none
      | _ => none
    | none => none
  | some { kind := .arr m e, .. }, .int _ n => match C.ty e with
    | some y => if 0 ≤ n ∧ n < m then match x with
        | .cptr cs => some (.cptr (cs.drop (n.toNat * y.size)))
        | .ptr id ver idx o => some (.ptr id ver idx (o + n.toNat * y.size))
        | _ => none
      else none
    | none => none
  | _, _ => none

def part (t : TypeId) (cs : List V) (off : Nat) : Option V :=
  match C.ty t with
  | some y => if off + y.size ≤ cs.length then ofCells y.kind.agg ((cs.drop off).take y.size) else none
  | none => none

def index (t : TypeId) (x i : V) : Option V :=
  match C.ty t, x, i with
  | some { kind := .str, .. }, .str s, .int _ n => if 0 ≤ n then match s[n.toNat]? with
      | some b => some (.int .u8 b.toNat)
      | none => none
    else none
  | some { kind := .arr m e, .. }, .agg cs, .int _ n => if 0 ≤ n ∧ n < m then match C.ty e with
      | some y => part C e cs (n.toNat * y.size)
      | none => none
    else none
  | _, _, _ => none

def field (t : TypeId) (x : V) (f : Nat) : Option V :=
  match C.ty t, x with
  | some { kind := .struct fs, .. }, .agg cs => match fs[f]? with
    | some (off, ft) => part C ft cs off
    | none => none
  | _, _ => none

/-- A bound: the number, at most m. -/
def bound (x : Option V) (d m : Nat) : Option Nat :=
  match x with
  | none => some d
  | some (.int _ n) => if 0 ≤ n ∧ n ≤ m then some n.toNat else none
  | _ => none
def sliceOp (t : TypeId) (x : V) (lo hi mx : Option V) : Option V :=
  if mx.isSome && hi.isNone then none else
  match C.ty t with
  | some y => match y.kind, x with
    | .str, .str s => match mx, bound hi s.size s.size with
      | none, some h => match bound lo 0 h with
        | some l => some (.str (s.extract l h))
        | none => none
      | _, _ => none
    | .slice e, .lit xs => match C.ty e with
      | some y => match bound mx xs.length xs.length with
        | some m => match bound hi xs.length m with
          | some h => match bound lo 0 h with
            | some l => if xs.all fun x => decide (x.cells.length = y.size) then some (.lit ((xs.take h).drop l)) else none
            | none => none
          | none => none
        | none => none
      | none => none
    | .slice e, .ref id ver sz off len => match C.ty e with
      | some y => match bound mx len len with
        | some m => match bound hi len m with
          | some h => match bound lo 0 h with
            | some l => if sz = y.size then some (.ref id ver sz (off + l) (h - l)) else none
            | none => none
          | none => none
        | none => none
      | none => none
    | .slice e, .nils => match C.ty e with
      | some _ => match bound mx 0 0 with
        | some m => match bound hi 0 m with
          | some h => match bound lo 0 h with
            | some _ => some .nils
            | none => none
          | none => none
        | none => none
      | none => none
    | _, _ => none
  | none => none

/-- Put cells into cells. -/
def splice (cs : List V) (off : Nat) (xs : List V) : List V := cs.take off ++ xs ++ cs.drop (off + xs.length)
def buildFill (fs : List (Nat × TypeId)) (cs : List V) : List (Nat × V) → Option (List V)
  | [] => some cs
  | (i, v) :: r => match fs[i]? with
    | some (off, ft) => match C.ty ft with
      | some y => if v.storable && decide (v.cells.length = y.size) && decide (off + v.cells.length ≤ cs.length) then buildFill fs (splice cs off v.cells) r else none
      | none => none
    | none => none
def build (t : TypeId) (parts : List (Nat × V)) : Option V :=
  match C.ty t with
  | some y => match y.kind with
    | .struct fs => (buildFill C fs y.zero parts).map .agg
    | _ => none
  | none => none

def newObj (s : St) (id : Nat) (o : Obj) : St := s.set id o

/-- What an operation without a call of a Go function does: the value and what becomes of the store. 'id': the number for a new object. -/
inductive Eff where
  | none
  | set (id : Nat) (o : Obj)

def Eff.on : Eff → St → St
  | .none, s => s
  | .set id o, s => s.set id o

/-- An empty slice is told in one way alone where nobody writes. -/
def V.norm1 : V → V
  | .nils => .lit []
  | v => v
def V.norm : V → V
  | .agg cs => .agg (cs.map V.norm1)
  | v => v.norm1
/-- A new slice: one that nobody writes, or one into an object. -/
def sliceOfRows (frz : Bool) (id : Nat) (sz : Nat) (xs : List V) : Option (V × Eff) :=
  if xs.all fun v => v.storable && decide (v.cells.length = sz) then
    if frz then if xs.all V.flat then some (.lit (xs.map V.norm), .none) else none
    else some (.ref id 0 sz 0 xs.length, .set id ⟨sz, 0, false, xs.map V.cells⟩)
  else none

def partsIn (n : Nat) : List (Nat × V) → Bool
  | [] => true
  | (i, _) :: r => decide (i = n) && partsIn (n + 1) r

/-- A row as a value. -/
def rowV : List V → V
  | [v] => v
  | r => .agg r
def elems (s : St) : V → Option (List V)
  | .lit xs => some xs
  | .nils => some []
  | .ref id ver sz off len => match s.get id with
    | some o => if o.ver = ver then if off + len ≤ o.rows.length then some (((o.rows.drop off).take len).map rowV) else none else none
    | none => none
  | _ => none

/-- Room for so many bytes is asked for. -/
def roomOk (n bytes : Nat) : Bool := decide (n ≤ 35184372088832) && decide (n * bytes ≤ 35184372088832)

def appendOp (frz : Bool) (s : St) (id : Nat) (e : TypeId) (x y : V) : Option (V × Eff) :=
  match C.ty e, elems s y with
  | some ty, some ys =>
    if ty.size = 0 then none else
    match x with
    | .nils => if ys.isEmpty then some (.nils, .none) else if roomOk ys.length ty.bytes then sliceOfRows frz id ty.size ys else none
    | .ref rid ver sz off len => if frz then none else match s.get rid with
      | some o => if o.ver = ver ∧ o.sz = ty.size ∧ sz = ty.size ∧ off + len ≤ o.rows.length ∧ roomOk (len + ys.length) ty.bytes = true ∧ (ys.all fun v => v.storable && decide (v.cells.length = ty.size)) = true then
          some (.ref rid (ver + 1) sz 0 (len + ys.length), .set rid { o with ver := ver + 1, rows := (o.rows.drop off).take len ++ ys.map V.cells }) else none
      | none => none
    | _ => none
  | _, _ => none

def lenOp (t : TypeId) (x : V) : Option V :=
  match C.ty t with
  | some y => match y.kind, x with
    | .str, .str s => some (.int .i64 s.size)
    | .slice _, .lit xs => some (.int .i64 xs.length)
    | .slice _, .nils => some (.int .i64 0)
    | .slice _, .ref _ _ _ _ len => some (.int .i64 len)
    | .arr n _, _ => some (.int .i64 n)
    | _, _ => none
  | none => none

def capOp (t : TypeId) (x : V) : Option V :=
  match C.ty t with
  | some y => match y.kind, x with
    | .slice _, .nils => some (.int .i64 0)
    | _, _ => none
  | none => none

def foldInt (f : Int → Int → Int) (k : IntKind) : Int → List V → Option V
  | n, [] => some (.int k n)
  | n, .int l m :: r => if k = l then foldInt f k (f n m) r else none
  | _, _ => none
def foldMax (f : Int → Int → Int) : List V → Option V
  | .int k n :: r => foldInt f k n r
  | _ => none

def opnds (e : Env) : List Operand → Option (List V)
  | [] => some []
  | x :: r => match opnd C e x, opnds e r with
    | some v, some l => some (v :: l)
    | _, _ => none
def oopnd (e : Env) : Option Operand → Option (Option V)
  | none => some none
  | some x => match opnd C e x with
    | some v => some (some v)
    | none => none
def popnds (e : Env) : List (Nat × Operand) → Option (List (Nat × V))
  | [] => some []
  | (i, x) :: r => match opnd C e x, popnds e r with
    | some v, some l => some ((i, v) :: l)
    | _, _ => none

/-- An operation that calls no Go function. -/
def prim (frz : Bool) (e : Env) (s : St) (id : Nat) (op : Op) : Option (V × Eff) :=
  let q (v : Option V) : Option (V × Eff) := v.map fun v => (v, .none)
  match op with
  | .move x | .assign x => q (opnd C e x)
  | .pick c a b => match opnd C e c, opnd C e a, opnd C e b with
    | some (.bool t), some x, some y => some (if t then x else y, .none)
    | some (.bool true), some x, none => some (x, .none)
    | some (.bool false), none, some y => some (y, .none)
    | _, _, _ => none
  | .alloc t => match C.ty t with
    | some y => if y.size = 0 then none else some (.ptr id 0 0 0, .set id ⟨y.size, 0, true, [y.zero]⟩)
    | none => none
  | .box t x => match C.ty t, opnd C e x with
    | some y, some v => if y.size = 0 then none else if v.storable && decide (v.cells.length = y.size) then some (.ptr id 0 0 0, .set id ⟨y.size, 0, true, [v.cells]⟩) else none
    | _, _ => none
  | .build t ps => match popnds C e ps.toList with
    | some l => q (build C t l)
    | none => none
  | .buildSlice t n ps => match C.ty t, popnds C e ps.toList with
    | some { kind := .slice et, .. }, some l => match C.ty et with
      | some y => if n = 0 then (if l.isEmpty then some (.nils, .none) else none) else
        if y.size = 0 then none else
        if decide (l.length = n) && partsIn 0 l && decide (n * y.size ≤ 16777216) then sliceOfRows frz id y.size (l.map (·.2)) else none
      | none => none
    | _, _ => none
  | .load t x => match C.ty t, opnd C e x with
    | some y, some p => match rd s p y.size with
      | some cs => q (ofCells y.kind.agg cs)
      | none => none
    | _, _ => none
  | .store t p x => match C.ty t, opnd C e p, opnd C e x with
    | some y, some (.ptr i ver idx off), some v =>
      if v.storable && decide (v.cells.length = y.size) then
        match s.get i with
        | some o => if o.ver = ver then match o.rows[idx]? with
            | some r => if off + v.cells.length ≤ r.length then some (.undef, .set i { o with rows := o.rows.set idx (splice r off v.cells) }) else none
            | none => none
          else none
        | none => none
      else none
    | _, _, _ => none
  | .nilCheck x => match opnd C e x with
    | some (.ptr a b c d) => some (.ptr a b c d, .none)
    | some (.cptr cs) => some (.cptr cs, .none)
    | some (.fn f c) => some (.fn f c, .none)
    | _ => none
  | .binOp op t x y _ => match opnd C e x, opnd C e y with
    | some a, some b => q (if isNilS y then nilCmp C op t a else bin C op t a b)
    | _, _ => none
  | .unOp op _ x => match opnd C e x with
    | some a => q (un op a)
    | none => none
  | .convert a b x => match C.ty a, C.ty b, opnd C e x with
    | some _, some { kind := .int k, .. }, some (.int _ n) => some (.int k (k.wrap n), .none)
    | some _, some { kind := .str, .. }, some (.str s) => some (.str s, .none)
    | _, _, _ => none
  | .makeFunc (.func f) first cap => if first.isEmpty then match opnds C e cap.toList with
      | some l => some (.fn f l, .none)
      | none => none
    else none
  | .makeSlice t l c => match C.ty t, opnd C e l, opnd C e c with
    | some { kind := .slice et, .. }, some (.int _ n), some (.int _ m) => match C.ty et with
      | some y => if y.size ≠ 0 ∧ 0 ≤ n ∧ n ≤ m ∧ roomOk m.toNat y.bytes = true then
          match ofCells y.kind.agg y.zero with
          | some z => sliceOfRows frz id y.size (List.replicate n.toNat z)
          | none => none
        else none
      | none => none
    | _, _, _ => none
  | .slice t x lo hi mx => match opnd C e x, oopnd C e lo, oopnd C e hi, oopnd C e mx with
    | some v, some a, some b, some c => q (sliceOp C t v a b c)
    | _, _, _, _ => none
  | .fieldAddr t x f => match opnd C e x with
    | some p => q (fieldAddr C t p f)
    | none => none
  | .field t x f => match opnd C e x with
    | some v => q (field C t v f)
    | none => none
  | .indexAddr t x i => match opnd C e x, opnd C e i with
    | some v, some n => q (indexAddr C t v n)
    | _, _ => none
  | .index t x i => match opnd C e x, opnd C e i with
    | some v, some n => q (index C t v n)
    | _, _ => none
  | .extract x i => match opnd C e x with
    | some (.tup vs) => q vs[i]?
    | _ => none
  | .call { callee := .builtin b, args, argTypes } => match b with
    | .len => match argTypes.toList, opnds C e args.toList with
      | [t], some [x] => q (lenOp C t x)
      | _, _ => none
    | .append => match argTypes.toList, opnds C e args.toList with
      | [t, u], some [x, y] => match C.ty t, C.ty u with
        | some { kind := .slice et, .. }, some { kind := .slice _, .. } => if t = u then appendOp C frz s id et x y else none
        | _, _ => none
      | _, _ => none
    | .max => match opnds C e args.toList with
      | some l => q (foldMax (fun a b => if b > a then b else a) l)
      | none => none
    | .min => match opnds C e args.toList with
      | some l => q (foldMax (fun a b => if b < a then b else a) l)
      | none => none
    | .cap => match argTypes.toList, opnds C e args.toList with
      | [t], some [x] => q (capOp C t x)
      | _, _ => none
    | _ => none
  | _ => none

end ops

/-- No memory is named. -/
def V.bare : V → Bool
  | .bool _ | .int .. | .str _ | .nils | .pnil | .lit [] => true
  | _ => false
def V.scalar1 : V → Bool
  | .agg cs => cs.all V.bare
  | v => v.bare
def V.scalar : V → Bool
  | .tup vs => vs.all V.scalar1
  | v => v.scalar1

def allSome {α β : Type} (f : α → Option β) : List α → Option (List β)
  | [] => some []
  | x :: r => match f x, allSome f r with
    | some y, some l => some (y :: l)
    | _, _ => none

/-- A value told without objects. -/
def reify (s : St) : Nat → V → Option V
  | 0, _ => none
  | n + 1, v => match v with
    | .ref id ver sz off len => match elems s (.ref id ver sz off len) with
      | some xs => match allSome (reify s n) xs with
        | some ys => some (.lit ys)
        | none => none
      | none => none
    | .agg cs => match allSome (reify s n) cs with
      | some ys => some (.agg ys)
      | none => none
    | .tup cs => match allSome (reify s n) cs with
      | some ys => some (.tup ys)
      | none => none
    | .ptr .. | .fn .. | .undef => none
    | .nils => some (.lit [])
    | v => some v

abbrev Callee := FuncId → List V → St → Option (V × St)

section control
variable (C : Cfg) (cal : Callee)

def callV (pure : Bool) (f : FuncId) (args : List V) (s : St) : Option (V × St) :=
  if pure then match allSome (reify s 40) args with
    | some as => match cal f as St.empty with
      | some (r, s') => match reify s' 40 r with
        | some r' => if args.all V.flat || r'.scalar then some (r', s) else none
        | none => none
      | none => none
    | none => none
  else cal f args s

def putE (e : Env) (dst : Option Nat) (v : V) : Env :=
  match dst with
  | some d => aset e d v
  | none => e

/-- Is an operation wanted? none: it can't be told. -/
def wantedE (ops : Array Oper) (o : Oper) (e : Env) : Option Bool :=
  match o.guard with
  | none => some true
  | some (g, want) => match (ops[g]?).bind (·.dst) with
    | none => none
    | some d => match aget e d with
      | some (.bool b) => some (b == want)
      | some .undef => some false
      | _ => none

/-- What an operation touched. -/
inductive Foot where
  | cells (rd wr : List Nat)
  | call (before after : St)
  | top
  deriving Inhabited

def idOf : V → List Nat
  | .ptr id .. | .ref id .. => [id]
  | _ => []
def footOf (e : Env) (id : Nat) (o : Oper) (s s' : St) (eff : Eff) : Foot :=
  let w := match eff with
    | .none => []
    | .set i _ => [i]
  match o.op with
  | .load _ x => .cells (match opnd C e x with
    | some v => idOf v
    | none => []) w
  | .store _ x _ => .cells (match opnd C e x with
    | some v => idOf v
    | none => []) w
  | .call { callee := .builtin .append, args, .. } => .cells (match opnds C e args.toList with
    | some l => l.flatMap idOf
    | none => []) w
  | .call { callee := .value _, .. } => .call s s'
  | _ => .cells [] w

def frzOf (fi : FnI) (o : Oper) : Bool := match o.dst with
  | some d => fi.frz.contains d
  | none => false

/-- An operation: the value, the store behind it, and what it touched. -/
def act (fi : FnI) (id : Nat) (o : Oper) (e : Env) (s : St) : Option (V × St × Bool × Foot) :=
  match o.op with
  | .call { callee := .value f, args, .. } => match opnd C e f, opnds C e args.toList with
    | some (.fn g cap), some as => match C.fn g with
      | some gi => match callV cal gi.pure g (as ++ cap) s with
        | some (r, s') => some (r, s', false, if gi.pure then (if (as ++ cap).all V.flat then .cells [] [] else .top) else .call s s')
        | none => none
      | none => none
    | _, _ => none
  | op => match prim C (frzOf fi o) e s id op with
    | some (v, eff) => some (v, eff.on s, (match eff with
      | .set i _ => i == id
      | .none => false), footOf C e id o s s eff)
    | none => none

def stepOp (fi : FnI) (ops : Array Oper) (id : Nat) (i : Nat) (e : Env) (s : St) : Option (Env × St × Bool × Foot) :=
  match ops[i]? with
  | none => some (e, s, false, .cells [] [])
  | some o => match wantedE ops o e with
    | some true => match act C cal fi id o e s with
      | some (v, s', b, ft) => some (putE e o.dst v, s', b, ft)
      | none => none
    | some false => some (putE e o.dst .undef, s, false, .cells [] [])
    | none => none

def runSeq (fi : FnI) (ops : Array Oper) : List Nat → Env → St → Option (Env × St)
  | [], e, s => some (e, s)
  | i :: r, e, s => match stepOp C cal fi ops s.nxt i e s with
    | some (e', s', b, _) => runSeq fi ops r e' (if b then { s' with nxt := s'.nxt + 1 } else s')
    | none => none

/-- The operations of a region of open order, their new objects' numbers by their places. -/
def runDraw (fi : FnI) (ops : Array Oper) (n0 : Nat) : List Nat → Env → St → Option (Env × St)
  | [], e, s => some (e, s)
  | i :: r, e, s => match stepOp C cal fi ops (n0 + i) i e s with
    | some (e', s', _, _) => runDraw fi ops n0 r e' s'
    | none => none
def feet (fi : FnI) (ops : Array Oper) (n0 : Nat) : List Nat → Env → St → List (Nat × Foot)
  | [], _, _ => []
  | i :: r, e, s => match stepOp C cal fi ops (n0 + i) i e s with
    | some (e', s', _, ft) => (i, ft) :: feet fi ops n0 r e' s'
    | none => []
end control

def apartL (a b : List Nat) : Bool := a.all fun x => !b.contains x
def sameObj (a b : Option Obj) : Bool :=
  match a, b with
  | none, none => true
  | some a, some b => decide (a.sz = b.sz) && decide (a.ver = b.ver) && (a.var == b.var) && V.beqL (a.rows.map .agg) (b.rows.map .agg)
  | _, _ => false
def Foot.indep : Foot → Foot → Bool
  | .cells r w, .cells r' w' => apartL w r' && apartL w w' && apartL w' r
  | .cells r [], .call s s' | .call s s', .cells r [] => r.all fun i => sameObj (s.get i) (s'.get i)
  | _, _ => false
def footAt (l : List (Nat × Foot)) (i : Nat) : Foot := (aget l i).getD .top

/-- Does an operation make an object of the evaluator's own? -/
def makes (fi : FnI) (o : Oper) : Bool :=
  match o.op with
  | .box .. | .alloc _ => true
  | .makeSlice .. | .buildSlice .. | .call { callee := .builtin .append, .. } => !frzOf fi o
  | _ => false
def touches (o : Oper) : Bool :=
  match o.op with
  | .box .. | .alloc _ | .makeSlice .. | .buildSlice .. | .load .. | .store .. | .call { callee := .builtin .append, .. } | .call { callee := .value _, .. } => true
  | _ => false
def writes (C : Cfg) (fi : FnI) (o : Oper) : Bool :=
  match o.op with
  | .box .. | .alloc _ | .store .. => true
  | .makeSlice .. | .buildSlice .. | .call { callee := .builtin .append, .. } => !frzOf fi o
  | .call { callee := .value (.func g), .. } => match C.fn g with
    | some gi => !gi.pure
    | none => true
  | .call { callee := .value _, .. } => true
  | _ => false

/-- A call of a Go function? -/
def goCall (o : Oper) : Bool := match o.op with
  | .call { callee := .value _, .. } => true
  | _ => false
/-- Does an operation use up numbers of objects? -/
def bumps (C : Cfg) (fi : FnI) (o : Oper) : Bool := makes fi o || (goCall o && writes C fi o)

section control
variable (C : Cfg) (cal : Callee)
def runReg (fi : FnI) (id : Nat) (ops : Array Oper) (draw : Bool) (e : Env) (s : St) : Option (Env × St) :=
  if draw then
    let s0 : St := if ops.any (bumps C fi) then { s with nxt := s.nxt + ops.size } else s
    let ok : Bool := match aget fi.conf id with
      | none => true
      | some l => let fs := feet C cal fi ops s.nxt (List.range ops.size) e s0
        l.all fun p => (footAt fs p.1).indep (footAt fs p.2)
    if ok then runDraw C cal fi ops s.nxt (List.range ops.size) e s0 else none
  else runSeq C cal fi ops (List.range ops.size) e s

def keepE (l : List Nat) (e : Env) : Env := l.filterMap fun t => (aget e t).map fun v => (t, v)
def liveE (fi : FnI) (id : Nat) (e : Env) : Env :=
  match aget fi.live id with
  | some l => keepE l e
  | none => e

inductive Ex where
  | normal
  | exit (id : Nat)
  | ret

def exec (fi : FnI) : Nat → Code → Env → St → Option (Ex × Env × St)
  | 0, _, _, _ => none
  | n + 1, c, e, s => match c with
    | .skip => some (.normal, e, s)
    | .region id ops draw => match runReg C cal fi id ops draw e s with
      | some (e', s') => some (.normal, liveE fi id e', s')
      | none => none
    | .seq a b => match exec fi n a e s with
      | some (.normal, e', s') => exec fi n b e' s'
      | r => r
    | .cond x a b => match opnd C e x with
      | some (.bool t) => exec fi n (if t then a else b) e s
      | _ => none
    | .block id b => match exec fi n b e s with
      | some (.exit j, e', s') => if j = id then some (.normal, e', s') else some (.exit j, e', s')
      | r => r
    | .loop b => match exec fi n b e s with
      | some (.normal, e', s') => exec fi n (.loop b) e' s'
      | r => r
    | .exit id => some (.exit id, e, s)
    | .ret => some (.ret, e, s)
    | _ => none

def resV (e : Env) (s : St) : ResultVar → Option V
  | .tmp t => aget e t
  | .cell a t => match aget e a, C.ty t with
    | some p, some y => match rd s p y.size with
      | some cs => ofCells y.kind.agg cs
      | none => none
    | _, _ => none
def results (fi : FnI) (e : Env) (s : St) : Option V :=
  match allSome (resV C e s) fi.fn.results.toList with
  | some [v] => some v
  | some l => some (.tup l)
  | none => none

def St.kills (s : St) (base i : Nat) : Bool := decide (base ≤ i) && (match aget s.objs i with
  | some o => o.var
  | none => false)
def St.killVars (s : St) (base : Nat) : St := { s with objs := s.objs.filter fun x => !(s.kills base x.1) }

def enumE : Nat → List V → Env
  | _, [] => []
  | n, v :: r => (n, v) :: enumE (n + 1) r

def body (fi : FnI) (n : Nat) (args : List V) (s : St) : Option (V × St) :=
  match fi.fn.body with
  | none => none
  | some b => match exec C cal fi n b (enumE 0 args) s with
    | some (.exit _, _, _) | none => none
    | some (_, e, s') => match results C fi e s' with
      | some r => some (r, if fi.keep then s' else s'.killVars s.nxt)
      | none => none
end control

def call (C : Cfg) : Nat → Callee
  | 0 => fun _ _ _ => none
  | n + 1 => fun f args s => match C.intr f with
    | some g => g args s
    | none => match C.fn f with
      | some fi => body C (call C n) fi n args s
      | none => none

/-- The static look at a region. -/
def waits (ops : Array Oper) : Array Nat := Region.before ops
def regOk (C : Cfg) (fi : FnI) (id : Nat) (ops : Array Oper) (draw : Bool) : Bool :=
  (ops.all fun o => match o.dst with
    | some d => decide (d < fi.fn.ntmps)
    | none => true) &&
  (!draw || (
    let b := waits ops
    let cf := (aget fi.conf id).getD []
    (ops.toList.zipIdx.all fun (o, j) => o.after.all fun x => !Region.binds .any x || decide (x.on < j)) &&
    ops.toList.zipIdx.all fun (oj, j) => ops.toList.zipIdx.all fun (oi, i) => !decide (i < j) || (b.getD j 0).testBit i ||
      (Oper.apart ops oi oj && (!(touches oi && touches oj && (writes C fi oi || writes C fi oj)) || cf.contains (i, j)))))
def codeOk (C : Cfg) (fi : FnI) : Code → Bool
  | .region id ops draw => regOk C fi id ops draw
  | .seq a b | .cond _ a b => codeOk C fi a && codeOk C fi b
  | .block _ b | .loop b | .scope b => codeOk C fi b
  | _ => true
end Go.Ilv

/- How the evaluator's values and store stand to the machine's: the relation, and that it is kept. -/
set_option linter.unusedVariables false
namespace Go.Ilv
open Go

/-! ### lists of pairs -/
theorem aget_aset_self {α : Type} (l : List (Nat × α)) (i : Nat) (x : α) : aget (aset l i x) i = some x := by
  induction l with
  | nil => simp [aset, aget]
  | cons p r ih =>
    obtain ⟨k, v⟩ := p
    simp only [aset]
    split
    · rename_i h; subst h; simp [aget]
    · split
      · simp [aget]
      · rename_i h _; simp [aget, h, ih]
theorem aget_aset_ne {α : Type} (l : List (Nat × α)) {i j : Nat} (x : α) (h : j ≠ i) : aget (aset l i x) j = aget l j := by
  induction l with
  | nil => simp [aset, aget, h]
  | cons p r ih =>
    obtain ⟨k, v⟩ := p
    simp only [aset]
    split
    · rename_i h'; subst h'; simp [aget, h]
    · split
      · simp [aget, h]
      · simp [aget, ih]
theorem aget_filter {α : Type} (l : List (Nat × α)) (p : Nat × α → Bool) (i : Nat) (x : α) (hn : aget (l.filter p) i = some x) : ∃ y, aget l i = some y := by
  induction l with
  | nil => simp [aget] at hn
  | cons q r ih =>
    obtain ⟨k, v⟩ := q
    simp only [aget]
    split
    · exact ⟨_, rfl⟩
    · rename_i h
      simp only [List.filter_cons] at hn
      split at hn
      · simp only [aget, h, if_false] at hn; exact ih hn
      · exact ih hn
theorem aset_comm {α : Type} (l : List (Nat × α)) {i j : Nat} (x y : α) (h : i ≠ j) : aset (aset l i x) j y = aset (aset l j y) i x := by
  induction l with
  | nil =>
    simp only [aset]
    rcases Nat.lt_or_gt_of_ne h with h' | h'
    · have : ¬ j < i := by omega
      simp [h, Ne.symm h, h', this]
    · have : ¬ i < j := by omega
      simp [h, Ne.symm h, h', this]
  | cons p r ih =>
    obtain ⟨k, v⟩ := p
    rcases Nat.lt_trichotomy i k with h1 | h1 | h1 <;> rcases Nat.lt_trichotomy j k with h2 | h2 | h2
    all_goals
      have e1 : (i = k) = decide (i = k) := by simp
      rcases Nat.lt_or_gt_of_ne h with h3 | h3
      all_goals
        first
          | omega
          | (have n1 := Nat.ne_of_lt h1; have n2 := Nat.ne_of_lt h2; have n3 := Nat.ne_of_lt h3
             have m1 := Nat.lt_asymm h1; have m2 := Nat.lt_asymm h2; have m3 := Nat.lt_asymm h3
             simp [aset, h1, h2, h3, n1, n2, n3, Ne.symm n1, Ne.symm n2, Ne.symm n3, m1, m2, m3, ih]; done)
          | (subst h1; have n2 := Nat.ne_of_lt h2; have m2 := Nat.lt_asymm h2
             simp [aset, h2, n2, Ne.symm n2, m2]; done)
          | (subst h2; have n1 := Nat.ne_of_lt h1; have m1 := Nat.lt_asymm h1
             simp [aset, h1, n1, Ne.symm n1, m1]; done)
          | (have n1 := Nat.ne_of_gt h1; have n2 := Nat.ne_of_lt h2
             have m1 := Nat.lt_asymm h1; have m2 := Nat.lt_asymm h2
             simp [aset, *])

theorem St.get_set_self (s : St) (i : Nat) (o : Obj) : (s.set i o).get i = some o := aget_aset_self _ _ _
theorem St.get_set_ne (s : St) {i j : Nat} (o : Obj) (h : j ≠ i) : (s.set i o).get j = s.get j := aget_aset_ne _ _ h

/-! ### values without objects -/
mutual
def V.noIds : V → Bool
  | .agg cs => V.noIdsL cs
  | .lit xs => V.noIdsL xs
  | .cptr cs => V.noIdsL cs
  | .tup vs => V.noIdsL vs
  | .ref .. | .ptr .. | .fn .. | .undef => false
  | _ => true
def V.noIdsL : List V → Bool
  | [] => true
  | v :: r => v.noIds && V.noIdsL r
end
theorem V.noIdsL_mem {l : List V} (h : V.noIdsL l = true) : ∀ x ∈ l, x.noIds = true := by
  induction l with
  | nil => simp
  | cons v r ih =>
    simp only [V.noIdsL, Bool.and_eq_true] at h
    intro x hx
    rcases List.mem_cons.1 hx with rfl | hx
    · exact h.1
    · exact ih h.2 x hx
theorem V.noIdsL_of {l : List V} (h : ∀ x ∈ l, x.noIds = true) : V.noIdsL l = true := by
  induction l with
  | nil => rfl
  | cons v r ih => simp only [V.noIdsL, Bool.and_eq_true]; exact ⟨h v (by simp), ih fun x hx => h x (by simp [hx])⟩

theorem V.noIds_cells {x : V} (h : x.noIds = true) : ∀ c ∈ x.cells, c.noIds = true := by
  by_cases ha : ∃ cs, x = .agg cs
  · obtain ⟨cs, rfl⟩ := ha
    rw [V.noIds] at h
    exact V.noIdsL_mem h
  · have : x.cells = [x] := by cases x <;> first | rfl | exact absurd ⟨_, rfl⟩ ha
    rw [this]
    intro c hc
    obtain rfl := List.mem_singleton.1 hc
    exact h
theorem V.leaf_cells {x : V} (h : x.leaf = true) : x.cells = [x] := by cases x <;> first | rfl | (simp [V.leaf] at h)
theorem V.leaf_or {x : V} (h : x.storable = true) : x.leaf = true ∨ ∃ cs, x = .agg cs := by
  cases x <;> first | (exact .inr ⟨_, rfl⟩) | (simp [V.storable] at h; done) | exact .inl rfl

/-- Where an object lies: 'cap' rows of 'sz' cells from 'base' on. -/
structure Terr where
  blk : Nat
  base : Nat
  sz : Nat
  cap : Nat
  ver : Nat

/-- 'φ': where the living objects lie. 'al': the numbers that have been given. 'X': blocks that nothing here speaks of. -/
structure Ctx where
  φ : Nat → Option Terr
  al : Nat → Prop
  X : Nat → Prop

/-- A block that is there, and that nobody writes. -/
def fz (K : Ctx) (n : Nat) (b : Nat) : Prop := b < n ∧ ¬ K.X b ∧ ∀ id T, K.φ id = some T → T.blk ≠ b

inductive VRel (K : Ctx) (w : World) : V → Value → Prop
  | bool (b : Bool) : VRel K w (.bool b) (.bool b)
  | int (k : IntKind) (n : Int) : VRel K w (.int k n) (.int k n)
  | str (s : ByteArray) : VRel K w (.str s) (.string s)
  | agg (cs : List V) (us : List Value) (hl : cs.length = us.length) (hf : ∀ c ∈ cs, c.leaf = true)
      (h : ∀ (i : Nat) (c : V) (u : Value), cs[i]? = some c → us[i]? = some u → VRel K w c u) : VRel K w (.agg cs) (.agg us.toArray)
  | nils (a : Option Addr) : VRel K w .nils (.slice a 0 0)
  | lit0 (a : Option Addr) (cap : Nat) : VRel K w (.lit []) (.slice a 0 cap)
  | lit (xs : List V) (b o sz cap : Nat) (vals : Nat → Nat → Value) (hb : fz K w.heap.size b) (hc : xs.length ≤ cap)
      (hx : ∀ x ∈ xs, x.cells.length = sz ∧ x.storable = true ∧ x.noIds = true)
      (hcell : ∀ (i : Nat) (x : V) (j : Nat) (c : V), xs[i]? = some x → x.cells[j]? = some c → c.leaf = true ∧ w.cell? ⟨b, o + i * sz + j, none⟩ = some (vals i j))
      (hrel : ∀ (i : Nat) (x : V) (j : Nat) (c : V), xs[i]? = some x → x.cells[j]? = some c → VRel K w c (vals i j)) : VRel K w (.lit xs) (.slice (some ⟨b, o, none⟩) xs.length cap)
  | ref (id ver sz off len : Nat) (T : Terr) (a : Option Addr) (cap : Nat) (hT : K.φ id = some T) (hal : K.al id) (hv : T.ver = ver) (hz : T.sz = sz) (hl : len ≤ cap) (hc : off + cap ≤ T.cap)
      (ha : a = some ⟨T.blk, T.base + off * T.sz, none⟩ ∨ cap = 0) : VRel K w (.ref id ver sz off len) (.slice a len cap)
  | refd (id ver sz off len : Nat) (a : Option Addr) (cap : Nat) (hal : K.al id) (hd : ∀ T, K.φ id = some T → ver < T.ver) (hl : len ≤ cap) (ha : 0 < len → ∃ ad, a = some ad) : VRel K w (.ref id ver sz off len) (.slice a len cap)
  | ptr (id ver idx off : Nat) (T : Terr) (hT : K.φ id = some T) (hal : K.al id) (hv : T.ver = ver) : VRel K w (.ptr id ver idx off) (.pointer (some ⟨T.blk, T.base + idx * T.sz + off, none⟩))
  | ptrd (id ver idx off : Nat) (a : Addr) (hal : K.al id) (hd : ∀ T, K.φ id = some T → ver < T.ver) : VRel K w (.ptr id ver idx off) (.pointer (some a))
  | cptr (cs : List V) (b o : Nat) (vals : Nat → Value) (hb : fz K w.heap.size b) (hn : ∀ c ∈ cs, c.leaf = true ∧ c.noIds = true)
      (hcell : ∀ (j : Nat) (c : V), cs[j]? = some c → w.cell? ⟨b, o + j, none⟩ = some (vals j))
      (hrel : ∀ (j : Nat) (c : V), cs[j]? = some c → VRel K w c (vals j)) : VRel K w (.cptr cs) (.pointer (some ⟨b, o, none⟩))
  | pnil : VRel K w .pnil (.pointer none)
  | fn (f : FuncId) (cap : List V) (us : List Value) (hl : cap.length = us.length)
      (h : ∀ (i : Nat) (c : V) (u : Value), cap[i]? = some c → us[i]? = some u → VRel K w c u) : VRel K w (.fn f cap) (.func (.func f) #[] us.toArray)
  | tup (vs : List V) (us : List Value) (hl : vs.length = us.length)
      (h : ∀ (i : Nat) (c : V) (u : Value), vs[i]? = some c → us[i]? = some u → VRel K w c u) : VRel K w (.tup vs) (.tuple us.toArray)
  | undef : VRel K w .undef Go.undef

/-- From (K, w) to (K', w'): numbers that were given stay given, an object that has gone does not come back, and a block that no object lies in stays as it is. -/
structure Stp (K : Ctx) (w : World) (K' : Ctx) (w' : World) : Prop where
  X : K'.X = K.X
  al : ∀ id, K.al id → K'.al id
  φ : ∀ id, K.al id → ∀ T', K'.φ id = some T' → ∃ T, K.φ id = some T ∧ (T' = T ∨ T.ver < T'.ver)
  size : w.heap.size ≤ w'.heap.size
  os : w'.os = w.os
  tape : w'.tape = w.tape
  output : w'.output = w.output
  un : ∀ b, b < w.heap.size → (∀ id T, K.φ id = some T → T.blk ≠ b) → w'.heap[b]? = w.heap[b]? ∧ ∀ id T, K'.φ id = some T → T.blk ≠ b

theorem Stp.refl (K : Ctx) (w : World) : Stp K w K w :=
  ⟨rfl, fun _ h => h, fun _ _ T' h => ⟨T', h, .inl rfl⟩, Nat.le_refl _, rfl, rfl, rfl, fun _ _ h => ⟨rfl, h⟩⟩
theorem Stp.trans {K1 K2 K3 : Ctx} {w1 w2 w3 : World} (h : Stp K1 w1 K2 w2) (g : Stp K2 w2 K3 w3) : Stp K1 w1 K3 w3 where
  X := g.X.trans h.X
  al := fun id hi => g.al id (h.al id hi)
  φ := fun id hi T3 h3 => by
    obtain ⟨T2, h2, e2⟩ := g.φ id (h.al id hi) T3 h3
    obtain ⟨T1, h1, e1⟩ := h.φ id hi T2 h2
    refine ⟨T1, h1, ?_⟩
    rcases e2 with rfl | e2 <;> rcases e1 with rfl | e1
    · exact .inl rfl
    · exact .inr e1
    · exact .inr e2
    · exact .inr (Nat.lt_trans e1 e2)
  size := Nat.le_trans h.size g.size
  os := g.os.trans h.os
  tape := g.tape.trans h.tape
  output := g.output.trans h.output
  un := fun b hb hn => by
    obtain ⟨e1, n1⟩ := h.un b hb hn
    obtain ⟨e2, n2⟩ := g.un b (Nat.lt_of_lt_of_le hb h.size) n1
    exact ⟨e2.trans e1, n2⟩

theorem fz.step {K K' : Ctx} {w w' : World} (h : Stp K w K' w') {b : Nat} (hf : fz K w.heap.size b) : fz K' w'.heap.size b ∧ w'.heap[b]? = w.heap[b]? := by
  obtain ⟨h1, h2, h3⟩ := hf
  obtain ⟨e, n⟩ := h.un b h1 h3
  exact ⟨⟨Nat.lt_of_lt_of_le h1 h.size, by rw [h.X]; exact h2, n⟩, e⟩

theorem cell_of_heap {w w' : World} {b : Nat} (h : w'.heap[b]? = w.heap[b]?) (o : Nat) : w'.cell? ⟨b, o, none⟩ = w.cell? ⟨b, o, none⟩ :=
  World.cell?_of_block (w := w) (a := ⟨b, o, none⟩) h

theorem VRel.mono {K K' : Ctx} {w w' : World} (hs : Stp K w K' w') {x : V} {v : Value} (h : VRel K w x v) : VRel K' w' x v := by
  induction h with
  | bool b => exact .bool b
  | int k n => exact .int k n
  | str s => exact .str s
  | agg cs us hl hf _ ih => exact .agg cs us hl hf ih
  | nils a => exact .nils a
  | lit0 a cap => exact .lit0 a cap
  | lit xs b o sz cap vals hb hc hx hcell _ ih =>
    obtain ⟨hb', he⟩ := hb.step hs
    exact .lit xs b o sz cap vals hb' hc hx (fun i x j c h1 h2 => ⟨(hcell i x j c h1 h2).1, by rw [cell_of_heap he]; exact (hcell i x j c h1 h2).2⟩) ih
  | ref id ver sz off len T a cap hT hal hv hz hl hc ha =>
    have hs0 : 0 < len → ∃ ad, a = some ad := fun h0 => by
      rcases ha with rfl | rfl
      · exact ⟨_, rfl⟩
      · omega
    cases hT' : K'.φ id with
    | none => exact .refd id ver sz off len a cap (hs.al id hal) (by simp [hT']) hl hs0
    | some T' =>
      obtain ⟨T0, h0, e⟩ := hs.φ id hal T' hT'
      rw [hT] at h0
      obtain rfl := Option.some.inj h0
      rcases e with rfl | e
      · exact .ref id ver sz off len _ a cap hT' (hs.al id hal) hv hz hl hc ha
      · exact .refd id ver sz off len a cap (hs.al id hal) (fun T2 h2 => by rw [hT'] at h2; obtain rfl := Option.some.inj h2; omega) hl hs0
  | refd id ver sz off len a cap hal hd hl hs0 =>
    refine .refd id ver sz off len a cap (hs.al id hal) (fun T' hT' => ?_) hl hs0
    obtain ⟨T0, h0, e⟩ := hs.φ id hal T' hT'
    have := hd T0 h0
    rcases e with rfl | e <;> omega
  | ptr id ver idx off T hT hal hv =>
    cases hT' : K'.φ id with
    | none => exact .ptrd id ver idx off _ (hs.al id hal) (by simp [hT'])
    | some T' =>
      obtain ⟨T0, h0, e⟩ := hs.φ id hal T' hT'
      rw [hT] at h0
      obtain rfl := Option.some.inj h0
      rcases e with rfl | e
      · exact .ptr id ver idx off _ hT' (hs.al id hal) hv
      · exact .ptrd id ver idx off _ (hs.al id hal) (fun T2 h2 => by rw [hT'] at h2; obtain rfl := Option.some.inj h2; omega)
  | ptrd id ver idx off a hal hd =>
    refine .ptrd id ver idx off a (hs.al id hal) fun T' hT' => ?_
    obtain ⟨T0, h0, e⟩ := hs.φ id hal T' hT'
    have := hd T0 h0
    rcases e with rfl | e <;> omega
  | cptr cs b o vals hb hn hcell _ ih =>
    obtain ⟨hb', he⟩ := hb.step hs
    exact .cptr cs b o vals hb' hn (fun j c h1 => by rw [cell_of_heap he]; exact hcell j c h1) ih
  | pnil => exact .pnil
  | fn f cap us hl _ ih => exact .fn f cap us hl ih
  | tup vs us hl _ ih => exact .tup vs us hl ih
  | undef => exact .undef

/-- A value without objects stands as well in any context of whose written blocks it names none. -/
theorem VRel.transfer {K K' : Ctx} {w : World} (hf : ∀ b, fz K w.heap.size b → fz K' w.heap.size b) {x : V} {v : Value} (h : VRel K w x v) (hn : x.noIds = true) : VRel K' w x v := by
  induction h with
  | bool b => exact .bool b
  | int k n => exact .int k n
  | str s => exact .str s
  | agg cs us hl hfl _ ih => exact .agg cs us hl hfl fun i c u h1 h2 => ih i c u h1 h2 (V.noIdsL_mem (by simpa [V.noIds] using hn) c (List.mem_of_getElem? h1))
  | nils a => exact .nils a
  | lit0 a cap => exact .lit0 a cap
  | lit xs b o sz cap vals hb hc hx hcell _ ih =>
    refine .lit xs b o sz cap vals (hf b hb) hc hx hcell fun i x j c h1 h2 => ih i x j c h1 h2 ?_
    have hxn := (hx x (List.mem_of_getElem? h1)).2.2
    exact V.noIds_cells hxn c (List.mem_of_getElem? h2)
  | ref => simp [V.noIds] at hn
  | refd => simp [V.noIds] at hn
  | ptr => simp [V.noIds] at hn
  | ptrd => simp [V.noIds] at hn
  | cptr cs b o vals hb hnn hcell _ ih => exact .cptr cs b o vals (hf b hb) hnn hcell fun j c h1 => ih j c h1 (hnn c (List.mem_of_getElem? h1)).2
  | pnil => exact .pnil
  | fn => simp [V.noIds] at hn
  | tup vs us hl _ ih => exact .tup vs us hl fun i c u h1 h2 => ih i c u h1 h2 (V.noIdsL_mem (by simpa [V.noIds] using hn) c (List.mem_of_getElem? h1))
  | undef => exact .undef

/-- A leaf stands for a value of one cell. -/
theorem VRel.one {K : Ctx} {w : World} {x : V} {v : Value} (h : VRel K w x v) (hl : x.leaf = true) : v.oneCell' = true ∧ v.cells = #[v] := by
  cases h <;> first | (simp [V.leaf] at hl; done) | exact ⟨rfl, rfl⟩

/-- The cells of a value, one by one. -/
def CRel (K : Ctx) (w : World) (cs : List V) (us : List Value) : Prop :=
  cs.length = us.length ∧ (∀ c ∈ cs, c.leaf = true) ∧ ∀ (i : Nat) (c : V) (u : Value), cs[i]? = some c → us[i]? = some u → VRel K w c u
theorem VRel.cells {K : Ctx} {w : World} {x : V} {v : Value} (h : VRel K w x v) (hs : x.storable = true) : CRel K w x.cells v.cells.toList := by
  rcases V.leaf_or hs with hl | ⟨cs, rfl⟩
  · have h1 := (h.one hl).2
    rw [V.leaf_cells hl, h1]
    refine ⟨rfl, by simpa using hl, fun i c u e1 e2 => ?_⟩
    cases i with
    | zero => simp at e1 e2; subst e1; subst e2; exact h
    | succ i => simp at e1
  · cases h with
    | agg cs us hl hf h => exact ⟨by simpa [V.cells, Value.cells] using hl, by simpa [V.cells] using hf, by simpa [V.cells, Value.cells] using h⟩
theorem CRel.one {K : Ctx} {w : World} {cs : List V} {us : List Value} (h : CRel K w cs us) : ∀ u ∈ us, u.oneCell' = true := by
  intro u hu
  obtain ⟨i, hi, rfl⟩ := List.getElem_of_mem hu
  have hi' : i < cs.length := by rw [h.1]; exact hi
  exact ((h.2.2 i _ _ (List.getElem?_eq_getElem hi') (List.getElem?_eq_getElem hi)).one (h.2.1 _ (List.getElem_mem _))).1
theorem CRel.mono {K K' : Ctx} {w w' : World} (hs : Stp K w K' w') {cs : List V} {us : List Value} (h : CRel K w cs us) : CRel K' w' cs us :=
  ⟨h.1, h.2.1, fun i c u h1 h2 => (h.2.2 i c u h1 h2).mono hs⟩
/-- Back from cells. -/
theorem VRel.ofCells {K : Ctx} {w : World} {agg : Bool} {cs : List V} {us : List Value} (h : CRel K w cs us) {x : V} (hx : ofCells agg cs = some x) :
    ∃ v, VRel K w x v ∧ (agg = true → v = .agg us.toArray) ∧ (agg = false → us = [v]) := by
  unfold Ilv.ofCells at hx
  cases agg with
  | true => simp at hx; subst hx; exact ⟨_, .agg cs us h.1 h.2.1 h.2.2, by simp, by simp⟩
  | false =>
    simp at hx
    match cs, us, h, hx with
    | [c], [u], h, hx => simp at hx; subst hx; exact ⟨u, h.2.2 0 c u rfl rfl, by simp, by simp⟩
    | [], _, _, hx => simp at hx
    | _ :: _ :: _, _, _, hx => simp at hx
    | [_], [], h, _ => exact absurd h.1 (by simp)
    | [_], _ :: _ :: _, h, _ => exact absurd h.1 (by simp)

/-- An object and where it lies. -/
structure ORel (K : Ctx) (w : World) (o : Obj) (T : Terr) : Prop where
  sz : T.sz = o.sz
  ver : T.ver = o.ver
  pos : 0 < o.sz
  cap : o.rows.length ≤ T.cap
  row : ∃ c et, w.heap[T.blk]? = some (.cells c et (0, 0)) ∧ T.base + T.cap * o.sz ≤ c.size ∧
    ∀ (i : Nat) (r : List V), o.rows[i]? = some r → r.length = o.sz ∧ ∀ (j : Nat) (x : V), r[j]? = some x → x.leaf = true ∧ ∃ u, c[T.base + i * o.sz + j]? = some u ∧ VRel K w x u

structure RelW (gl : Nat → Option (List V)) (K : Ctx) (s : St) (w : World) : Prop where
  obj : ∀ id o, s.get id = some o → ∃ T, K.φ id = some T ∧ ORel K w o T
  dom : ∀ id T, K.φ id = some T → ∃ o, s.get id = some o
  al : ∀ id T, K.φ id = some T → K.al id
  inj : ∀ id id' T T', K.φ id = some T → K.φ id' = some T' → T.blk = T'.blk → id = id'
  X : ∀ id T, K.φ id = some T → ¬ K.X T.blk
  Xlt : ∀ b, K.X b → b < w.heap.size
  glob : ∀ g cs, gl g = some cs → VRel K w (.cptr cs) (.pointer (some ⟨g, 0, none⟩))

theorem RelW.blk_lt {gl : Nat → Option (List V)} {K : Ctx} {s : St} {w : World} (h : RelW gl K s w) {id : Nat} {T : Terr} (hT : K.φ id = some T) : T.blk < w.heap.size := by
  obtain ⟨o, ho⟩ := h.dom id T hT
  obtain ⟨T', hT', hr⟩ := h.obj id o ho
  rw [hT] at hT'
  obtain rfl := Option.some.inj hT'
  obtain ⟨c, et, hh, _⟩ := hr.row
  exact (Array.getElem?_eq_some_iff.1 hh).1

def ERel (K : Ctx) (w : World) (e : Env) (a : Act) : Prop := ∀ t x, aget e t = some x → ∃ v, a.tmps[t]? = some v ∧ VRel K w x v
theorem ERel.mono {K K' : Ctx} {w w' : World} (hs : Stp K w K' w') {e : Env} {a : Act} (h : ERel K w e a) : ERel K' w' e a :=
  fun t x hx => let ⟨v, h1, h2⟩ := h t x hx; ⟨v, h1, h2.mono hs⟩
end Go.Ilv

/- The operations that call no Go function: what the evaluator says is what the machine does. First: those that leave the store as it is. -/
set_option linter.unusedVariables false
namespace Go.Ilv
open Go

def KOk (P : Program) (d : TypeDesc) : K → Prop
  | .int k => d = .int k
  | .bool => d = .bool
  | .str => d = .string
  | .ptr e => d = .pointer e
  | .slice e => d = .slice e
  | .struct fs => ∃ fields : Array Field, d = .struct fields ∧ fs = (fields.toList.map fun f => (f.offset, f.type)) ∧ ∀ f ∈ fields.toList, ((P.info? f.type).isSome) = true
  | .arr n e => d = .array n e
  | .other => (∀ f, d ≠ .struct f) ∧ ∀ n e, d ≠ .array n e

/-- A constant's cells. -/
def ZRel (cs : List V) (us : List Value) : Prop := ∀ (K : Ctx) (w : World), CRel K w cs us

structure TyOk (P : Program) (t : TypeId) (y : Ty) : Prop where
  ex : ∃ i d z, P.info? t = some i ∧ i.size = y.size ∧ i.bytes = y.bytes ∧ P.underlying t = some d ∧ KOk P d y.kind ∧ i.zero = some z ∧ z.cells.size = i.size ∧ ZRel y.zero z.cells.toList ∧
    (y.kind.agg = true → z = .agg z.cells)

def EqOk (C : Cfg) (P : Program) (t : TypeId) : Prop :=
  P.eqGuardType P.depth t = false ∧ ∀ (w : World) (K : Ctx) (y : Ty) (fs : List (Nat × TypeId)) (a b : List V) (us vs : List Value) (r : Bool), C.ty t = some y → y.kind = .struct fs → CRel K w a us → CRel K w b vs → eqCells C fs a b = some r →
    (Op.equalIn 10000 t (.agg us.toArray) (.agg vs.toArray)).run P w = .ok r w

structure CfgOk (C : Cfg) (P : Program) : Prop where
  ty : ∀ t y, C.ty t = some y → TyOk P t y
  fn : ∀ f fi, C.fn f = some fi → P.funcs[f]? = some fi.fn ∧ fi.fn.name ≠ "runtime.NumGoroutine" ∧ ∃ b, fi.fn.body = some b ∧ codeOk C fi b = true
  eqs : ∀ t, C.eqs t = true → EqOk C P t
  mixed : P.follows .mixedOrders = true

section
variable {P : Program} {w : World} {t : TypeId} {i : TypeInfo} {d : TypeDesc} {z : Value}
theorem r_ty (h : P.info? t = some i) : (typeInfo t).run P w = .ok i w := by simp [typeInfo, h]
theorem r_size (h : P.info? t = some i) : (sizeOf t).run P w = .ok i.size w := by simp [sizeOf, r_ty h]
theorem r_zero (h : P.info? t = some i) (hz : i.zero = some z) : (zeroValue t).run P w = .ok z w := by simp [zeroValue, r_ty h, hz]
theorem r_under (h : P.underlying t = some d) : (underlying t).run P w = .ok d w := run_underlying h w
theorem r_isAgg {k : K} (h : P.underlying t = some d) (hk : KOk P d k) : (isAgg t).run P w = .ok k.agg w := by
  simp only [isAgg, Sem.run_bind, r_under h, Result.andThen_ok]
  cases k <;> simp only [KOk] at hk
  case struct fs => obtain ⟨f, rfl, _⟩ := hk; rfl
  case other =>
    cases d <;> first | rfl | exact absurd rfl (hk.1 _) | exact absurd rfl (hk.2 _ _)
  all_goals (subst hk; rfl)
end

theorem addr_add (b o n : Nat) : (⟨b, o, none⟩ : Addr).add n = ⟨b, o + n, none⟩ := Addr.add_lit b o n

mutual
theorem ofConst_rel {K : Ctx} {w : World} : ∀ (v : Value) (x : V), ofConst v = some x → VRel K w x v
  | .bool b, x, h => by simp [ofConst] at h; subst h; exact .bool b
  | .int k n, x, h => by simp [ofConst] at h; subst h; exact .int k n
  | .string s, x, h => by simp [ofConst] at h; subst h; exact .str s
  | .slice a l c, x, h => by
    unfold ofConst at h
    split at h <;> simp_all
    subst h; exact .nils _
  | .pointer a, x, h => by
    unfold ofConst at h
    split at h <;> simp_all
    subst h; exact .pnil
  | .agg ⟨cs⟩, x, h => by
    unfold ofConst at h
    cases hc : ofConstL cs with
    | none => simp [hc] at h
    | some l =>
      simp [hc] at h
      subst h
      obtain ⟨h1, h2, h3⟩ := ofConstL_rel (K := K) (w := w) cs l hc
      exact .agg l cs h1 h2 h3
  | .float _ _, x, h | .complex _ _ _, x, h | .map _, x, h | .chan _, x, h | .func _ _ _, x, h | .nilFunc, x, h | .iface _ _, x, h | .nilIface, x, h | .tuple _, x, h => by
    unfold ofConst at h; simp at h
theorem ofConstL_rel {K : Ctx} {w : World} : ∀ (us : List Value) (l : List V), ofConstL us = some l → CRel K w l us
  | [], l, h => by simp [ofConstL] at h; subst h; exact ⟨rfl, by simp, by simp⟩
  | v :: r, l, h => by
    simp only [ofConstL] at h
    split at h
    · rename_i x l' h1 h2
      split at h
      · rename_i hl
        simp at h
        subst h
        have hx := ofConst_rel (K := K) (w := w) v x h1
        obtain ⟨g1, g2, g3⟩ := ofConstL_rel (K := K) (w := w) r l' h2
        refine ⟨by simp [g1], by simpa [hl] using g2, fun i c u e1 e2 => ?_⟩
        cases i with
        | zero => simp at e1 e2; subst e1; subst e2; exact hx
        | succ i => exact g3 i c u (by simpa using e1) (by simpa using e2)
      · simp at h
    · simp at h
end

section
variable {C : Cfg} {P : Program} {gl : Nat → Option (List V)} {K : Ctx} {s : St} {w : World} {e : Env} {a : Act}

theorem opnd_rel (hk : RelW C.glob K s w) (he : ERel K w e a) {x : Operand} {v : V} (h : opnd C e x = some v) : VRel K w v (a.eval x) := by
  cases x with
  | tmp t =>
    obtain ⟨u, h1, h2⟩ := he t v h
    simpa [Act.eval, h1] using h2
  | const c => exact ofConst_rel c v h
  | global g =>
    simp only [opnd, Option.map_eq_some_iff] at h
    obtain ⟨cs, h1, rfl⟩ := h
    exact hk.glob g cs h1
  | func f =>
    simp only [opnd, Option.some.injEq] at h
    subst h
    exact .fn f [] [] rfl (by simp)

/-- Values one by one. -/
def LRel (K : Ctx) (w : World) (xs : List V) (us : List Value) : Prop :=
  xs.length = us.length ∧ ∀ (i : Nat) (c : V) (u : Value), xs[i]? = some c → us[i]? = some u → VRel K w c u
theorem LRel.cons {x : V} {u : Value} {xs : List V} {us : List Value} (h : VRel K w x u) (hs : LRel K w xs us) : LRel K w (x :: xs) (u :: us) := by
  refine ⟨by simp [hs.1], fun i c v e1 e2 => ?_⟩
  cases i with
  | zero => simp at e1 e2; subst e1; subst e2; exact h
  | succ i => exact hs.2 i c v (by simpa using e1) (by simpa using e2)
theorem LRel.nil : LRel K w [] [] := ⟨rfl, by simp⟩
theorem LRel.head {x : V} {u : Value} {xs : List V} {us : List Value} (h : LRel K w (x :: xs) (u :: us)) : VRel K w x u := h.2 0 x u rfl rfl
theorem LRel.tail {x : V} {u : Value} {xs : List V} {us : List Value} (h : LRel K w (x :: xs) (u :: us)) : LRel K w xs us :=
  ⟨by simpa using h.1, fun i c v e1 e2 => h.2 (i + 1) c v (by simpa using e1) (by simpa using e2)⟩
theorem LRel.mono {K' : Ctx} {w' : World} (hs : Stp K w K' w') {xs : List V} {us : List Value} (h : LRel K w xs us) : LRel K' w' xs us :=
  ⟨h.1, fun i c u h1 h2 => (h.2 i c u h1 h2).mono hs⟩
theorem LRel.append {xs ys : List V} {us vs : List Value} (h : LRel K w xs us) (g : LRel K w ys vs) : LRel K w (xs ++ ys) (us ++ vs) := by
  refine ⟨by simp [h.1, g.1], fun i c u e1 e2 => ?_⟩
  by_cases hi : i < xs.length
  · rw [List.getElem?_append_left hi] at e1
    rw [List.getElem?_append_left (by rw [← h.1]; exact hi)] at e2
    exact h.2 i c u e1 e2
  · rw [List.getElem?_append_right (by omega)] at e1
    rw [List.getElem?_append_right (by rw [← h.1]; omega), ← h.1] at e2
    exact g.2 _ c u e1 e2

theorem opnds_rel (hk : RelW C.glob K s w) (he : ERel K w e a) : ∀ {l : List Operand} {vs : List V}, opnds C e l = some vs → LRel K w vs (l.map a.eval)
  | [], vs, h => by simp [opnds] at h; subst h; exact .nil
  | x :: r, vs, h => by
    simp only [opnds] at h
    split at h
    · rename_i v l' h1 h2
      simp at h; subst h
      exact .cons (opnd_rel hk he h1) (opnds_rel hk he h2)
    · simp at h

/-- Cells of memory, from an address on. -/
def At (w : World) (b o : Nat) (us : List Value) : Prop := ∀ (j : Nat) (u : Value), us[j]? = some u → w.cell? ⟨b, o + j, none⟩ = some u

theorem r_loadVar {t : TypeId} {y : Ty} (hy : TyOk P t y) {b o : Nat} {us : List Value} (hus : At w b o us) (hl : us.length = y.size) :
    (y.kind.agg = true → (loadVar t ⟨b, o, none⟩).run P w = .ok (.agg us.toArray) w) ∧
    (y.kind.agg = false → ∀ u, us = [u] → (loadVar t ⟨b, o, none⟩).run P w = .ok u w) := by
  obtain ⟨i, d, z, h1, h2, h3, h4, h5, h6, h7, h8, h9⟩ := hy.ex
  have hc : ∀ j v, us[j]? = some v → w.cell? ((⟨b, o, none⟩ : Addr).add j) = some v := fun j v hj => by rw [addr_add]; exact hus j v hj
  have hrun := run_loadCells_list (P := P) w ⟨b, o, none⟩ us hc
  constructor
  · intro ha
    simp only [loadVar, Sem.run_bind, r_isAgg h4 h5, ha, Result.andThen_ok, if_true, r_size h1, h2, ← hl, hrun, Sem.run_pure]
  · intro ha u hu
    subst hu
    have := hus 0 u rfl
    simp only [Nat.add_zero] at this
    simp only [loadVar, Sem.run_bind, r_isAgg h4 h5, ha, Result.andThen_ok, Bool.false_eq_true, if_false, run_load, this]

/-- What the evaluator reads at a place is what lies there. -/
theorem rd_rel (hk : RelW gl K s w) {p : V} {u : Value} (hp : VRel K w p u) {n : Nat} {cs : List V} (h : rd s p n = some cs) :
    ∃ b o us, u = .pointer (some ⟨b, o, none⟩) ∧ us.length = n ∧ CRel K w cs us ∧ At w b o us := by
  cases p with
  | cptr xs =>
    simp only [rd] at h
    split at h
    · rename_i hn
      simp at h; subst h
      cases hp with
      | cptr _ b o vals hb hnn hcell hrel =>
        refine ⟨b, o, (List.range n).map vals, rfl, by simp, ⟨by simp [hn], fun c hc => (hnn c (List.mem_of_mem_take hc)).1, fun i c u e1 e2 => ?_⟩, fun j u e => ?_⟩
        · rw [List.getElem?_take] at e1
          split at e1
          · rename_i hi
            simp [hi] at e2
            subst e2
            exact hrel i c e1
          · cases e1
        · have hj : j < n := by
            have := (List.getElem?_eq_some_iff.1 e).1
            simpa using this
          simp [hj] at e
          subst e
          exact hcell j _ (List.getElem?_eq_getElem (by omega))
    · simp at h
  | ptr id ver idx off =>
    simp only [rd] at h
    split at h
    · rename_i ob hob
      split at h
      · rename_i hver
        split at h
        · rename_i r hr
          split at h
          · rename_i hlen
            simp at h; subst h
            obtain ⟨T, hT, ho⟩ := hk.obj id ob hob
            obtain ⟨c, et, hh, hsz, hrow⟩ := ho.row
            obtain ⟨hrl, hcells⟩ := hrow idx r hr
            cases hp with
            | ptrd _ _ _ _ a hal hd => exact absurd (hd T hT) (by rw [ho.ver, hver]; omega)
            | ptr _ _ _ _ T' hT' hal hv =>
              rw [hT] at hT'
              obtain rfl := Option.some.inj hT'
              have hget : ∀ j, j < n → ∃ x, r[off + j]? = some x ∧ ∃ u, c[T.base + idx * ob.sz + (off + j)]? = some u ∧ x.leaf = true ∧ VRel K w x u := by
                intro j hj
                have hlt : off + j < r.length := by omega
                obtain ⟨h1, u, h2, h3⟩ := hcells (off + j) _ (List.getElem?_eq_getElem hlt)
                exact ⟨_, List.getElem?_eq_getElem hlt, u, h2, h1, h3⟩
              refine ⟨T.blk, T.base + idx * T.sz + off, (List.range n).map fun j => (c[T.base + idx * ob.sz + (off + j)]?).getD Go.undef, rfl, by simp, ⟨by simp; omega, fun x hx => ?_, fun i x u e1 e2 => ?_⟩, fun j u e => ?_⟩
              · obtain ⟨j, hj, rfl⟩ := List.getElem_of_mem hx
                have hj' : j < n := by simp at hj; omega
                obtain ⟨x, h1, u, h2, h3, h4⟩ := hget j hj'
                have : ((r.drop off).take n)[j] = x := by
                  have h5 : ((r.drop off).take n)[j]? = some x := by rw [List.getElem?_take, if_pos hj', List.getElem?_drop]; exact h1
                  rw [List.getElem?_eq_getElem hj] at h5
                  exact Option.some.inj h5
                rw [this]; exact h3
              · rw [List.getElem?_take] at e1
                split at e1
                · rename_i hi
                  rw [List.getElem?_drop] at e1
                  obtain ⟨x', h1, u', h2, h3, h4⟩ := hget i hi
                  rw [h1] at e1
                  obtain rfl := Option.some.inj e1
                  simp [hi, h2] at e2
                  subst e2
                  exact h4
                · cases e1
              · have hj : j < n := by
                  have := (List.getElem?_eq_some_iff.1 e).1
                  simpa using this
                obtain ⟨x', h1, u', h2, h3, h4⟩ := hget j hj
                simp [hj, h2] at e
                subst e
                rw [cell_of_row w T.blk _ c et _ hh, ho.sz]
                rw [← h2]
                congr 1
                omega
          · simp at h
        · simp at h
      · simp at h
    · simp at h
  | _ => simp [rd] at h
end
end Go.Ilv

/- The operations that leave the store as it is. -/
set_option linter.unusedVariables false
set_option linter.unusedSimpArgs false
namespace Go.Ilv
open Go

section
variable {C : Cfg} {P : Program} {gl : Nat → Option (List V)} {K : Ctx} {s : St} {w : World} {e : Env} {a : Act}

theorem run_boolEq (t : TypeId) (a b : Bool) (h : P.underlying t = some .bool) : (Op.equal t (.bool a) (.bool b)).run P w = .ok (a == b) w :=
  run_equalIn_bool' w 9999 t a b h

theorem r_eqNN (d : Nat) (t el : TypeId) (h : P.underlying t = some (.pointer el)) (a : Option Addr) : (Op.equalIn (d + 1) t (.pointer none) (.pointer a)).run P w = .ok a.isNone w := by
  simp [Op.equalIn, r_under h]
theorem r_eqPN (d : Nat) (t el : TypeId) (h : P.underlying t = some (.pointer el)) (a : Addr) : (Op.equalIn (d + 1) t (.pointer (some a)) (.pointer none)).run P w = .ok false w := by
  simp [Op.equalIn, r_under h]

theorem eqV_rel (hC : CfgOk C P) {t : TypeId} {x y : V} {u v : Value} {r : Bool} (hx : VRel K w x u) (hy : VRel K w y v) (h : eqV C t x y = some r) (ox oy : Operand) (op : BinOp) :
    (eqGuard op t ox oy u v).run P w = .ok () w ∧ (Op.equal t u v).run P w = .ok r w := by
  unfold eqV at h
  split at h
  · cases h
  · rename_i ty hty
    obtain ⟨i, d, z, h1, h2, h3, h4, h5, h6, h7, h8, h9⟩ := (hC.ty t ty hty).ex
    split at h
    · rename_i k x y p q hk
      simp at h; subst h
      rw [hk] at h5
      simp only [KOk] at h5
      subst h5
      cases hx; cases hy
      exact ⟨by simp [eqGuard_at_bool], run_boolEq t p q h4⟩
    · rename_i k x y el hk
      simp at h; subst h
      rw [hk] at h5; simp only [KOk] at h5; subst h5
      cases hx; cases hy
      exact ⟨by simp [eqGuard_at_pointer], r_eqNN 9999 t _ h4 _⟩
    · rename_i k x y el _ _ _ _ hk
      simp at h; subst h
      rw [hk] at h5; simp only [KOk] at h5; subst h5
      cases hx
      cases hy <;> exact ⟨by simp [eqGuard_at_pointer], r_eqNN 9999 t _ h4 _⟩
    · rename_i k x y el _ _ _ _ hk
      simp at h; subst h
      rw [hk] at h5; simp only [KOk] at h5; subst h5
      cases hy
      cases hx <;> exact ⟨by simp [eqGuard_at_pointer], r_eqPN 9999 t _ h4 _⟩
    · rename_i k x y el _ hk
      simp at h; subst h
      rw [hk] at h5; simp only [KOk] at h5; subst h5
      cases hx
      cases hy <;> exact ⟨by simp [eqGuard_at_pointer], r_eqNN 9999 t _ h4 _⟩
    · rename_i k x y el _ hk
      simp at h; subst h
      rw [hk] at h5; simp only [KOk] at h5; subst h5
      cases hy
      cases hx <;> exact ⟨by simp [eqGuard_at_pointer], r_eqPN 9999 t _ h4 _⟩
    · rename_i k x y fs p q hk
      split at h
      · rename_i he
        obtain ⟨g1, g2⟩ := hC.eqs t he
        cases hx with
        | agg _ us hl hf hh =>
          cases hy with
          | agg _ vs hl' hf' hh' =>
            refine ⟨by simp [run_eqGuard_agg, g1], ?_⟩
            exact g2 w K ty fs p q us vs r hty hk ⟨hl, hf, hh⟩ ⟨hl', hf', hh'⟩ h
      · cases h
    · cases h

theorem r_eqSN (d : Nat) (t el : TypeId) (h : P.underlying t = some (.slice el)) (ad : Addr) (n c : Nat) : (Op.equalIn (d + 1) t (.slice (some ad) n c) (.slice none 0 0)).run P w = .ok false w := by
  simp [Op.equalIn, r_under h]
theorem nilCmp_rel (hC : CfgOk C P) {op : BinOp} {t : TypeId} {x v : V} {u : Value} (hx : VRel K w x u) (h : nilCmp C op t x = some v) (ox oy : Operand) :
    ∃ r, (eqGuard op t ox oy u (.slice none 0 0)).run P w = .ok () w ∧ (binOp op t u (.slice none 0 0)).run P w = .ok r w ∧ VRel K w v r := by
  unfold nilCmp at h
  split at h
  · rename_i el sz by_ zr hty
    obtain ⟨i, d, z, h1, h2, h3, h4, h5, h6, h7, h8, h9⟩ := (hC.ty t _ hty).ex
    simp only [KOk] at h5
    subst h5
    have hu : ∃ ad n c, x.full = true → u = .slice (some ad) n c := by
      cases hx with
      | lit0 a cap => exact ⟨⟨0, 0, none⟩, 0, 0, fun h => by cases h⟩
      | lit _ b o sz cap vals hb hc hx hcell hrel => exact ⟨_, _, _, fun _ => rfl⟩
      | ref id ver sz off len T a cap hT hal hv hz hl hc ha =>
        by_cases hn : 0 < len
        · rcases ha with rfl | rfl
          · exact ⟨_, _, _, fun _ => rfl⟩
          · omega
        · exact ⟨⟨0, 0, none⟩, 0, 0, fun h => absurd (of_decide_eq_true h) hn⟩
      | refd id ver sz off len a cap hal hd hl ha =>
        by_cases hn : 0 < len
        · obtain ⟨ad, rfl⟩ := ha hn
          exact ⟨_, _, _, fun _ => rfl⟩
        · exact ⟨⟨0, 0, none⟩, 0, 0, fun h => absurd (of_decide_eq_true h) hn⟩
      | _ => exact ⟨⟨0, 0, none⟩, 0, 0, fun h => by cases h⟩
    obtain ⟨ad, n, c, hu⟩ := hu
    split at h
    · rename_i hf
      have := hu hf
      subst this
      have he : (Op.equal t (.slice (some ad) n c) (.slice none 0 0)).run P w = .ok false w := r_eqSN 9999 t el h4 ad n c
      split at h
      · simp at h; subst h
        exact ⟨.bool false, by simp [eqGuard_at_slice], by simp only [binOp, Sem.run_bind, he, Result.andThen_ok, Sem.run_pure], .bool _⟩
      · simp at h; subst h
        exact ⟨.bool true, by simp [eqGuard_at_slice], by simp only [binOp, Sem.run_bind, he, Result.andThen_ok, Sem.run_pure]; rfl, .bool _⟩
      · cases h
    · cases h
  · cases h

theorem arith_rel {op : BinOp} {k : IntKind} {x y : Int} {v : V} (h : arith op k x y = some v) (hs : op ≠ .shl) (hr : op ≠ .shr) (t : TypeId) :
    ∃ u, (binOp op t (.int k x) (.int k y)).run P w = .ok u w ∧ VRel K w v u := by
  cases op <;> simp only [arith, cmpInt, bitInt, Option.map_some, Option.some.injEq, reduceCtorEq] at h
  case add | sub | mul => subst h; exact ⟨_, by simp [binOp, Op.intArith], .int _ _⟩
  case quo | rem =>
    split at h
    · cases h
    · rename_i h0
      simp only [Option.some.injEq] at h
      subst h; exact ⟨_, by simp [binOp, Op.intDiv, h0], .int _ _⟩
  case and | or | xor | andNot => subst h; exact ⟨_, (by simp only [binOp, ne_eq, not_true_eq_false, if_false]; rfl), .int _ _⟩
  case eql =>
    subst h
    have e : (decide (x = y)) = (x == y) := by rw [Bool.eq_iff_iff]; simp
    rw [e]
    exact ⟨_, (by simp only [binOp, ne_eq, not_true_eq_false, if_false]; rfl), .bool _⟩
  case neq =>
    subst h
    have e : (decide (x = y)) = (x == y) := by rw [Bool.eq_iff_iff]; simp
    rw [e]
    exact ⟨_, (by simp only [binOp, ne_eq, not_true_eq_false, if_false]; rfl), .bool _⟩
  case lss | leq | gtr | geq => subst h; exact ⟨_, (by simp only [binOp, ne_eq, not_true_eq_false, if_false]; rfl), .bool _⟩

theorem bin_rel (hC : CfgOk C P) {t : TypeId} {x y v : V} {u u' : Value} {op : BinOp} (hx : VRel K w x u) (hy : VRel K w y u') (h : bin C op t x y = some v) (ox oy : Operand) :
    ∃ r, (eqGuard op t ox oy u u').run P w = .ok () w ∧ (binOp op t u u').run P w = .ok r w ∧ VRel K w v r := by
  unfold bin at h
  split at h
  · rename_i k p l q
    cases hx; cases hy
    split at h
    · split at h
      · cases h
      · rename_i hq
        simp at h; subst h
        exact ⟨_, by simp [eqGuard_at_int], by simp [binOp, Op.shift, hq], .int _ _⟩
    · split at h
      · cases h
      · rename_i hq
        simp at h; subst h
        exact ⟨_, by simp [eqGuard_at_int], by simp [binOp, Op.shift, hq], .int _ _⟩
    · rename_i h1 h2
      split at h
      · rename_i hkl
        subst hkl
        obtain ⟨r, g1, g2⟩ := arith_rel (P := P) (K := K) (w := w) h h1 h2 t
        exact ⟨r, by simp [eqGuard_at_int], g1, g2⟩
      · cases h
  · rename_i p q
    cases hx; cases hy
    cases op <;> simp only [strOp, Option.some.injEq, reduceCtorEq] at h <;> first
      | (split at h
         · cases h
         · rename_i h0
           simp only [Option.some.injEq] at h
           subst h
           exact ⟨_, by simp [eqGuard_at_string], by simp [binOp, Op.stringOp]; simp at h0; omega, .str _⟩)
      | (subst h; exact ⟨_, by simp [eqGuard_at_string], by simp [binOp, Op.stringOp], .bool _⟩)
  · rename_i h1 h2
    split at h
    · simp only [Option.map_eq_some_iff] at h
      obtain ⟨b, hb, rfl⟩ := h
      obtain ⟨g1, g2⟩ := eqV_rel hC hx hy hb ox oy .eql
      refine ⟨.bool b, g1, ?_, .bool b⟩
      have : binOp .eql t u u' = (do pure (.bool (← Op.equal t u u'))) := by
        cases hx <;> first
          | rfl
          | (cases hy <;> first | rfl | (simp [eqV] at hb; done) | exact absurd rfl (h1 _ _ _ _ rfl) | exact absurd rfl (h2 _ _ rfl))
      rw [this]
      simp [g2]
    · simp only [Option.map_eq_some_iff] at h
      obtain ⟨b, hb, rfl⟩ := h
      obtain ⟨g1, g2⟩ := eqV_rel hC hx hy hb ox oy .neq
      refine ⟨.bool !b, g1, ?_, .bool _⟩
      have : binOp .neq t u u' = (do pure (.bool (!(← Op.equal t u u')))) := by
        cases hx <;> first
          | rfl
          | (cases hy <;> first | rfl | (simp [eqV] at hb; done) | exact absurd rfl (h1 _ _ _ _ rfl) | exact absurd rfl (h2 _ _ rfl))
      rw [this]
      simp [g2]
    · cases h

theorem un_rel {op : UnOp} {x v : V} {u : Value} (hx : VRel K w x u) (h : un op x = some v) : ∃ r, (Op.unary op u).run P w = .ok r w ∧ VRel K w v r := by
  unfold un at h
  split at h
  · simp at h; subst h; cases hx; exact ⟨_, by simp [Op.unary, Op.intArith], .int _ _⟩
  · simp [bitInt] at h; subst h; cases hx; exact ⟨_, by simp [Op.unary, Op.intBits], .int _ _⟩
  · simp at h; subst h; cases hx; exact ⟨_, by simp [Op.unary], .bool _⟩
  · cases h
end
end Go.Ilv

/- The operations that leave the store as it is: addresses, parts, slices. -/
set_option linter.unusedVariables false
set_option linter.unusedSimpArgs false
namespace Go.Ilv
open Go

section
variable {C : Cfg} {P : Program} {gl : Nat → Option (List V)} {K : Ctx} {s : St} {w : World} {e : Env} {a : Act}

theorem TyOk.cells {t : TypeId} {y : Ty} (h : TyOk P t y) : P.cellsOf t = y.size := by
  obtain ⟨i, d, z, h1, h2, _⟩ := h.ex
  simp [Program.cellsOf, h1, h2]
theorem TyOk.run_size {t : TypeId} {y : Ty} (h : TyOk P t y) : (sizeOf t).run P w = .ok y.size w := by
  obtain ⟨i, d, z, h1, h2, _⟩ := h.ex
  rw [r_size h1, h2]
theorem TyOk.under {t : TypeId} {y : Ty} (h : TyOk P t y) : ∃ d, P.underlying t = some d ∧ KOk P d y.kind := by
  obtain ⟨i, d, z, h1, h2, h3, h4, h5, _⟩ := h.ex
  exact ⟨d, h4, h5⟩
theorem TyOk.struct {t : TypeId} {y : Ty} (h : TyOk P t y) {fs} (hk : y.kind = .struct fs) : ∃ fields : Array Field, P.underlying t = some (.struct fields) ∧ fs = (fields.toList.map fun f => (f.offset, f.type)) ∧ ∀ f ∈ fields.toList, ((P.info? f.type).isSome) = true := by
  obtain ⟨d, h1, h2⟩ := h.under
  rw [hk] at h2
  obtain ⟨f, rfl, g⟩ := h2
  exact ⟨f, h1, g⟩
theorem TyOk.sl {t : TypeId} {y : Ty} (h : TyOk P t y) {el} (hk : y.kind = .slice el) : P.underlying t = some (.slice el) := by
  obtain ⟨d, h1, h2⟩ := h.under
  rw [hk] at h2
  rw [h1, h2]
theorem TyOk.ar {t : TypeId} {y : Ty} (h : TyOk P t y) {n el} (hk : y.kind = .arr n el) : P.underlying t = some (.array n el) := by
  obtain ⟨d, h1, h2⟩ := h.under
  rw [hk] at h2
  rw [h1, h2]
theorem TyOk.st {t : TypeId} {y : Ty} (h : TyOk P t y) (hk : y.kind = .str) : P.underlying t = some .string := by
  obtain ⟨d, h1, h2⟩ := h.under
  rw [hk] at h2
  rw [h1, h2]

/-- Going on within cells that nobody writes. -/
theorem cptr_drop {cs : List V} {u : Value} (h : VRel K w (.cptr cs) u) (off : Nat) : ∃ b o, u = .pointer (some ⟨b, o, none⟩) ∧ VRel K w (.cptr (cs.drop off)) (.pointer (some ⟨b, o + off, none⟩)) := by
  cases h with
  | cptr _ b o vals hb hn hcell hrel =>
    refine ⟨b, o, rfl, .cptr _ b (o + off) (fun j => vals (off + j)) hb (fun c hc => hn c (List.mem_of_mem_drop hc)) (fun j c h => ?_) (fun j c h => ?_)⟩
    · rw [List.getElem?_drop] at h
      rw [Nat.add_assoc]
      exact hcell _ c h
    · rw [List.getElem?_drop] at h
      exact hrel _ c h
theorem ptr_off {id ver idx o : Nat} {u : Value} (h : VRel K w (.ptr id ver idx o) u) (off : Nat) :
    ∃ ad : Addr, u = .pointer (some ad) ∧ VRel K w (.ptr id ver idx (o + off)) (.pointer (some (ad.add off))) := by
  cases h with
  | ptr _ _ _ _ T hT hal hv =>
    refine ⟨_, rfl, ?_⟩
    rw [addr_add, Nat.add_assoc]
    exact .ptr id ver idx (o + off) T hT hal hv
  | ptrd _ _ _ _ ad hal hd => exact ⟨ad, rfl, .ptrd id ver idx _ _ hal hd⟩

theorem fieldAddr_rel (hC : CfgOk C P) {t : TypeId} {x v : V} {u : Value} {f : Nat} (hx : VRel K w x u) (h : fieldAddr C t x f = some v) :
    ∃ r, (Instr.fieldAt t u f).run P w = .ok r w ∧ VRel K w v r := by
  unfold fieldAddr at h
  split at h
  · rename_i fs sz by_ zr hty
    obtain ⟨fields, hu, hfs, _⟩ := (hC.ty t _ hty).struct rfl
    split at h
    · rename_i off ft hf
      split at h
      · rename_i y hy
        have hyo := hC.ty ft y hy
        split at h
        · cases h
        · rename_i hsz
          have hfield : ∃ fd, fields[f]? = some fd ∧ fd.offset = off ∧ fd.type = ft := by
            rw [hfs, List.getElem?_map] at hf
            cases hq : fields.toList[f]? with
            | none => simp [hq] at hf
            | some fd => simp [hq] at hf; exact ⟨fd, by simpa using hq, hf.1, hf.2⟩
          obtain ⟨fd, hfd, rfl, rfl⟩ := hfield
          have hrun : ∀ ad : Addr, (Instr.fieldAt t (.pointer (some ad)) f).run P w = .ok (.pointer (some (ad.add fd.offset))) w := by
            intro ad
            simp [Instr.fieldAt, r_under hu, hfd, Instr.sureAddr, fieldPlace, hyo.run_size, hsz]
          split at h
          · simp at h; subst h
            obtain ⟨b, o, rfl, h2⟩ := cptr_drop hx fd.offset
            exact ⟨_, hrun _, by rw [addr_add]; exact h2⟩
          · simp at h; subst h
            obtain ⟨ad, rfl, h2⟩ := ptr_off hx fd.offset
            exact ⟨_, hrun _, h2⟩
          · cases h
      · cases h
    · cases h
  · cases h

theorem lit_cptr {xs : List V} {u : Value} {n : Nat} {x : V} (h : VRel K w (.lit xs) u) (hx : xs[n]? = some x) :
    ∃ b o cap, u = .slice (some ⟨b, o, none⟩) xs.length cap ∧ VRel K w (.cptr x.cells) (.pointer (some ⟨b, o + n * x.cells.length, none⟩)) ∧ x.storable = true := by
  cases h with
  | lit0 => simp at hx
  | lit _ b o sz cap vals hb hc hxs hcell hrel =>
    have hx' := hxs x (List.mem_of_getElem? hx)
    refine ⟨b, o, cap, rfl, ?_, hx'.2.1⟩
    rw [hx'.1]
    refine .cptr _ b _ (vals n) hb (fun c hc => ⟨?_, V.noIds_cells hx'.2.2 c hc⟩) (fun j c h => (hcell n x j c hx h).2) (fun j c h => hrel n x j c hx h)
    obtain ⟨j, hj⟩ := List.getElem?_of_mem hc
    exact (hcell n x j c hx hj).1

theorem indexAddr_rel (hC : CfgOk C P) {t : TypeId} {x i v : V} {u ui : Value} (hx : VRel K w x u) (hi : VRel K w i ui) (h : indexAddr C t x i = some v) :
    ∃ r, (Instr.indexAt t u ui).run P w = .ok r w ∧ VRel K w v r := by
  unfold indexAddr at h
  split at h
  · rename_i el sz by_ zr k n hty
    have hu := (hC.ty t _ hty).sl rfl
    cases hi
    split at h
    · rename_i y hy
      have hyo := hC.ty el y hy
      split at h
      · rename_i xs
        split at h
        · rename_i hn
          split at h
          · rename_i x' hx'
            split at h
            · rename_i hlen
              simp at h; subst h
              obtain ⟨b, o, cap, rfl, h2, _⟩ := lit_cptr hx hx'
              have hlt : n.toNat < xs.length := (List.getElem?_eq_some_iff.1 hx').1
              refine ⟨_, ?_, h2⟩
              have h3 : n < xs.length := by omega
              simp [Instr.indexAt, asIntOf, r_under hu, hn, h3, hyo.run_size, addr_add, hlen]
            · cases h
          · cases h
        · cases h
      · rename_i id ver sz' off len
        split at h
        · rename_i hn
          simp at h; subst h
          obtain ⟨hn0, hn1, rfl⟩ := hn
          have hlt : n.toNat < len := by omega
          cases hx with
          | refd _ _ _ _ _ ad cap hal hd hl h0 =>
            obtain ⟨ad, rfl⟩ := h0 (by omega)
            exact ⟨_, by simp [Instr.indexAt, asIntOf, r_under hu, hn0, hn1, hyo.run_size]; rfl, .ptrd _ _ _ _ _ hal hd⟩
          | ref _ _ _ _ _ T ad cap hT hal hv hz hl hc ha =>
            rcases ha with rfl | rfl
            · refine ⟨_, by simp [Instr.indexAt, asIntOf, r_under hu, hn0, hn1, hyo.run_size, addr_add]; rfl, ?_⟩
              have := VRel.ptr (w := w) (K := K) id ver (off + n.toNat) 0 T hT hal hv
              rw [Nat.add_mul, ← Nat.add_assoc, Nat.add_zero] at this
              rw [hz] at this ⊢
              exact this
            · omega
        · cases h
      · cases h
    · cases h
  · rename_i m el sz by_ zr k n hty
    have hu := (hC.ty t _ hty).ar rfl
    cases hi
    split at h
    · rename_i y hy
      have hyo := hC.ty el y hy
      split at h
      · rename_i hn
        have hrun : ∀ ad : Addr, (Instr.indexAt t (.pointer (some ad)) (.int k n)).run P w = .ok (.pointer (some (ad.add (n.toNat * y.size)))) w := by
          intro ad
          simp [Instr.indexAt, asIntOf, r_under hu, Instr.sureAddr, hn, hyo.run_size]
        split at h
        · simp at h; subst h
          obtain ⟨b, o, rfl, h2⟩ := cptr_drop hx (n.toNat * y.size)
          exact ⟨_, hrun _, by rw [addr_add]; exact h2⟩
        · simp at h; subst h
          obtain ⟨ad, rfl, h2⟩ := ptr_off hx (n.toNat * y.size)
          exact ⟨_, hrun _, h2⟩
        · cases h
      · cases h
    · cases h
  · cases h
end
end Go.Ilv

/- The operations that leave the store as it is: parts, slices, structs, lengths. -/
set_option linter.unusedVariables false
set_option linter.unusedSimpArgs false
namespace Go.Ilv
open Go

section
variable {C : Cfg} {P : Program} {gl : Nat → Option (List V)} {K : Ctx} {s : St} {w : World} {e : Env} {a : Act}

theorem part_rel (hC : CfgOk C P) {t : TypeId} {cs : List V} {us : List Value} {off : Nat} {v : V} (hc : CRel K w cs us) (h : part C t cs off = some v) :
    ∃ r, (Go.part t us.toArray off).run P w = .ok r w ∧ VRel K w v r := by
  unfold part at h
  split at h
  · rename_i y hy
    have hyo := hC.ty t y hy
    obtain ⟨d, h1, h2⟩ := hyo.under
    split at h
    · rename_i hle
      have hsub : CRel K w ((cs.drop off).take y.size) ((us.drop off).take y.size) := by
        refine ⟨by simp [hc.1], fun c hcm => hc.2.1 c (List.mem_of_mem_drop (List.mem_of_mem_take hcm)), fun i c u e1 e2 => ?_⟩
        rw [List.getElem?_take] at e1 e2
        split at e1
        · rename_i hi
          rw [if_pos hi] at e2
          rw [List.getElem?_drop] at e1 e2
          exact hc.2.2 _ c u e1 e2
        · cases e1
      obtain ⟨r, g1, g2, g3⟩ := VRel.ofCells hsub h
      refine ⟨r, ?_, g1⟩
      have hlen : off + y.size ≤ us.length := by rw [← hc.1]; exact hle
      cases hag : y.kind.agg with
      | true =>
        rw [g2 hag]
        simp only [Go.part, Sem.run_bind, r_isAgg h1 h2, hag, Result.andThen_ok, if_true, hyo.run_size, Sem.run_pure]
        congr 2
        apply Array.ext'
        simp [List.drop_take]
      | false =>
        have g4 := g3 hag
        have h5 : us[off]? = some r := by
          have h6 : ((us.drop off).take y.size)[0]? = some r := by rw [g4]; rfl
          rw [List.getElem?_take] at h6
          split at h6
          · rw [List.getElem?_drop] at h6; simpa using h6
          · cases h6
        simp only [Go.part, Sem.run_bind, r_isAgg h1 h2, hag, Result.andThen_ok, Bool.false_eq_true, if_false]
        simp [h5]
    · cases h
  · cases h

theorem field_rel (hC : CfgOk C P) {t : TypeId} {x v : V} {u : Value} {f : Nat} (hx : VRel K w x u) (h : field C t x f = some v) :
    ∃ r, (Instr.field t u f).run P w = .ok r w ∧ VRel K w v r := by
  unfold field at h
  split at h
  · rename_i fs sz by_ zr cs hty
    obtain ⟨fields, hu, hfs, _⟩ := (hC.ty t _ hty).struct rfl
    split at h
    · rename_i off ft hf
      have hfield : ∃ fd, fields[f]? = some fd ∧ fd.offset = off ∧ fd.type = ft := by
        rw [hfs, List.getElem?_map] at hf
        cases hq : fields.toList[f]? with
        | none => simp [hq] at hf
        | some fd => simp [hq] at hf; exact ⟨fd, by simpa using hq, hf.1, hf.2⟩
      obtain ⟨fd, hfd, rfl, rfl⟩ := hfield
      cases hx with
      | agg _ us hl hfl hh =>
        obtain ⟨r, g1, g2⟩ := part_rel hC ⟨hl, hfl, hh⟩ h
        exact ⟨r, by simp [Instr.field, r_under hu, hfd, asAgg, g1], g2⟩
    · cases h
  · cases h

theorem index_rel (hC : CfgOk C P) {t : TypeId} {x i v : V} {u ui : Value} (hx : VRel K w x u) (hi : VRel K w i ui) (h : index C t x i = some v) :
    ∃ r, (Instr.index t u ui).run P w = .ok r w ∧ VRel K w v r := by
  unfold index at h
  split at h
  · rename_i sz by_ zr str k n hty
    have hu := (hC.ty t _ hty).st rfl
    cases hx; cases hi
    split at h
    · rename_i hn
      split at h
      · rename_i b hb
        simp at h; subst h
        exact ⟨_, by simp [Instr.index, asIntOf, r_under hu, hn, hb], .int _ _⟩
      · cases h
    · cases h
  · rename_i m el sz by_ zr cs k n hty
    have hu := (hC.ty t _ hty).ar rfl
    cases hi
    split at h
    · rename_i hn
      split at h
      · rename_i y hy
        cases hx with
        | agg _ us hl hfl hh =>
          obtain ⟨r, g1, g2⟩ := part_rel hC ⟨hl, hfl, hh⟩ h
          exact ⟨r, by simp [Instr.index, asIntOf, r_under hu, hn, (hC.ty el y hy).run_size, g1], g2⟩
      · cases h
    · cases h
  · cases h

theorem bound_rel {x : Option V} {u : Option Value} (hx : ∀ v, x = some v → ∃ u', u = some u' ∧ VRel K w v u') (hn : x = none → u = none) {d m r : Nat} (h : bound x d m = some r) (hd : x = none → d ≤ m) :
    (x = none ∧ u = none ∧ r = d) ∨ (∃ v k n, x = some v ∧ u = some (.int k n) ∧ 0 ≤ n ∧ n ≤ m ∧ r = n.toNat) := by
  unfold bound at h
  split at h
  · simp at h; exact .inl ⟨rfl, hn rfl, h.symm⟩
  · rename_i k n
    split at h
    · rename_i hh
      simp at h
      obtain ⟨u', rfl, h2⟩ := hx _ rfl
      cases h2
      exact .inr ⟨_, k, n, rfl, rfl, hh.1, hh.2, h.symm⟩
    · cases h
  · cases h

/-- How the machine's bounds stand to the evaluator's, the capacity at least what the evaluator takes it for. -/
theorem sliceBounds_rel {isSlice : Bool} {len cap c0 : Nat} {lo hi mx : Option V} {ulo uhi umx : Option Value}
    (hlo : ∀ v, lo = some v → ∃ u', ulo = some u' ∧ VRel K w v u') (nlo : lo = none → ulo = none)
    (hhi : ∀ v, hi = some v → ∃ u', uhi = some u' ∧ VRel K w v u') (nhi : hi = none → uhi = none)
    (hmx : ∀ v, mx = some v → ∃ u', umx = some u' ∧ VRel K w v u') (nmx : mx = none → umx = none)
    {m h l : Nat} (hc : len ≤ cap) (h1 : bound mx len len = some m) (h2 : bound hi len m = some h) (h3 : bound lo 0 h = some l) (hmh : mx ≠ none → hi ≠ none) :
    ∃ M, (Instr.sliceBounds isSlice len cap ulo uhi umx).run P w = .ok (l, h, M) w ∧ m ≤ M ∧ M ≤ cap ∧ l ≤ h ∧ h ≤ m ∧ m ≤ len := by
  have b1 := bound_rel hmx nmx h1 (fun _ => Nat.le_refl _)
  rcases b1 with ⟨rfl, rfl, rfl⟩ | ⟨vm, km, nm, rfl, rfl, m0, m1, rfl⟩
  · have b2 := bound_rel hhi nhi h2 (fun _ => Nat.le_refl _)
    rcases b2 with ⟨rfl, rfl, rfl⟩ | ⟨vh, kh, nh, rfl, rfl, e0, e1, rfl⟩
    · have b3 := bound_rel hlo nlo h3 (fun _ => Nat.zero_le _)
      rcases b3 with ⟨rfl, rfl, rfl⟩ | ⟨vl, kl, nl, rfl, rfl, l0, l1, rfl⟩
      · exact ⟨cap, by simp [Instr.sliceBounds], hc, Nat.le_refl _, Nat.zero_le _, Nat.le_refl _, Nat.le_refl _⟩
      · exact ⟨cap, by simp [Instr.sliceBounds, Instr.sliceBound, asIntOf, l0, l1], hc, Nat.le_refl _, by omega, Nat.le_refl _, Nat.le_refl _⟩
    · have e2 : nh ≤ (cap : Int) := by omega
      have b3 := bound_rel hlo nlo h3 (fun _ => Nat.zero_le _)
      rcases b3 with ⟨rfl, rfl, rfl⟩ | ⟨vl, kl, nl, rfl, rfl, l0, l1, rfl⟩
      · exact ⟨cap, by simp [Instr.sliceBounds, Instr.sliceBound, asIntOf, e0, e2], hc, Nat.le_refl _, Nat.zero_le _, by omega, Nat.le_refl _⟩
      · have l2 : nl ≤ max nh 0 := by omega
        exact ⟨cap, by simp [Instr.sliceBounds, Instr.sliceBound, asIntOf, e0, e2, l0, l2], hc, Nat.le_refl _, by omega, by omega, Nat.le_refl _⟩
  · have m2 : nm ≤ (cap : Int) := by omega
    have b2 := bound_rel hhi nhi h2 (fun q => absurd q (hmh (by simp)))
    rcases b2 with ⟨rfl, rfl, rfl⟩ | ⟨vh, kh, nh, rfl, rfl, e0, e1, rfl⟩
    · exact absurd rfl (hmh (by simp))
    · have e2 : nh ≤ max nm 0 := by omega
      have b3 := bound_rel hlo nlo h3 (fun _ => Nat.zero_le _)
      rcases b3 with ⟨rfl, rfl, rfl⟩ | ⟨vl, kl, nl, rfl, rfl, l0, l1, rfl⟩
      · exact ⟨nm.toNat, by simp [Instr.sliceBounds, Instr.sliceBound, asIntOf, e0, e2, m0, m2], Nat.le_refl _, by omega, Nat.zero_le _, by omega, by omega⟩
      · have l2 : nl ≤ max nh 0 := by omega
        exact ⟨nm.toNat, by simp [Instr.sliceBounds, Instr.sliceBound, asIntOf, e0, e2, m0, m2, l0, l2], Nat.le_refl _, by omega, by omega, by omega, by omega⟩

theorem lit_cut {xs : List V} {b o cap : Nat} (h : VRel K w (.lit xs) (.slice (some ⟨b, o, none⟩) xs.length cap)) {l h' M sz : Nat} (hsz : ∀ x ∈ xs, x.cells.length = sz) (hlh : l ≤ h') (hl : h' ≤ xs.length) (hM : h' ≤ M) :
    VRel K w (.lit ((xs.take h').drop l)) (.slice (if M = l then some ⟨b, o, none⟩ else some ⟨b, o + l * sz, none⟩) (h' - l) (M - l)) := by
  have hlen : ((xs.take h').drop l).length = h' - l := by simp; omega
  by_cases hz : h' = l
  · have : (xs.take h').drop l = [] := List.eq_nil_of_length_eq_zero (by omega)
    rw [this, hz, Nat.sub_self]
    exact .lit0 _ _
  · have hMl : ¬ M = l := by omega
    rw [if_neg hMl]
    cases h with
    | lit0 => simp at hl; omega
    | lit _ _ _ sz' _ vals hb hc hxs hcell hrel =>
      have hpos : 0 < xs.length := by omega
      have e : sz' = sz := by
        rw [← (hxs _ (List.getElem_mem hpos)).1]; exact hsz _ (List.getElem_mem hpos)
      subst e
      have hg : ∀ i x, ((xs.take h').drop l)[i]? = some x → xs[l + i]? = some x := by
        intro i x hx
        rw [List.getElem?_drop, List.getElem?_take] at hx
        split at hx
        · exact hx
        · cases hx
      have := VRel.lit (K := K) (w := w) ((xs.take h').drop l) b (o + l * sz') sz' (M - l) (fun i j => vals (l + i) j) hb (by omega)
        (fun x hx => hxs x (List.mem_of_mem_take (List.mem_of_mem_drop hx)))
        (fun i x j c h1 h2 => by
          have := hcell (l + i) x j c (hg i x h1) h2
          rw [Nat.add_mul, ← Nat.add_assoc] at this
          exact this)
        (fun i x j c h1 h2 => hrel (l + i) x j c (hg i x h1) h2)
      rw [hlen] at this
      exact this

theorem sliceOp_rel (hC : CfgOk C P) {t : TypeId} {x v : V} {u : Value} {lo hi mx : Option V} {ulo uhi umx : Option Value} (hx : VRel K w x u)
    (hlo : ∀ v, lo = some v → ∃ u', ulo = some u' ∧ VRel K w v u') (nlo : lo = none → ulo = none)
    (hhi : ∀ v, hi = some v → ∃ u', uhi = some u' ∧ VRel K w v u') (nhi : hi = none → uhi = none)
    (hmx : ∀ v, mx = some v → ∃ u', umx = some u' ∧ VRel K w v u') (nmx : mx = none → umx = none)
    (h : sliceOp C t x lo hi mx = some v) :
    ∃ r, (Instr.sliceAt t u ulo uhi umx).run P w = .ok r w ∧ VRel K w v r := by
  unfold sliceOp at h
  split at h
  · cases h
  · rename_i hmh
    have hmh' : mx ≠ none → hi ≠ none := by
      intro h1 h2
      apply hmh
      cases mx <;> simp_all
    split at h
    · rename_i y hy
      have hyo := hC.ty t y hy
      split at h
      · rename_i k x' str hk
        have hu := hyo.st hk
        cases hx
        split at h
        · rename_i q h' hh
          split at h
          · rename_i l hl
            simp at h; subst h
            obtain rfl := nmx rfl
            obtain ⟨M, hr, _⟩ := sliceBounds_rel (P := P) (w := w) (isSlice := false) (c0 := 0) hlo nlo hhi nhi hmx nmx (Nat.le_refl str.size) rfl hh hl (by simp)
            exact ⟨_, by simp [Instr.sliceAt, Instr.slice, r_under hu, hr], .str _⟩
          · cases h
        · cases h
      · rename_i k x' el xs hk
        have hu := hyo.sl hk
        split at h
        · rename_i y2 hy2
          have hyo2 := hC.ty el y2 hy2
          split at h
          · rename_i m hm
            split at h
            · rename_i h' hh
              split at h
              · rename_i l hl
                split at h
                · rename_i hall
                  simp at h; subst h
                  have hsz : ∀ x ∈ xs, x.cells.length = y2.size := by
                    intro x hxm
                    have := List.all_eq_true.1 hall x hxm
                    simpa using this
                  have hgen : ∀ (ad : Option Addr) (cap : Nat), xs.length ≤ cap → u = .slice ad xs.length cap → (ad = none → xs = []) → (∀ A, ad = some A → xs ≠ [] → A.spot = none) → ∃ r, (Instr.sliceAt t u ulo uhi umx).run P w = .ok r w ∧ VRel K w (.lit ((xs.take h').drop l)) r := by
                    intro ad cap hcap he hn0 hsp
                    obtain ⟨M, hr, hM1, hM2, hM3, hM4, hM5⟩ := sliceBounds_rel (P := P) (w := w) (isSlice := true) (c0 := 0) hlo nlo hhi nhi hmx nmx hcap hm hh hl hmh'
                    refine ⟨.slice (if M = l then ad else ad.map (·.add (l * y2.size))) (h' - l) (M - l), by subst he; simp [Instr.sliceAt, Instr.slice, r_under hu, hr, hyo2.run_size], ?_⟩
                    by_cases hxe : xs = []
                    · subst hxe
                      simp only [List.take_nil, List.drop_nil]
                      simp at hM5
                      subst hM5
                      obtain rfl : h' = 0 := by omega
                      obtain rfl : l = 0 := by omega
                      exact .lit0 _ _
                    · cases ad with
                      | none => exact absurd (hn0 rfl) hxe
                      | some A =>
                        obtain ⟨b, o, sp⟩ := A
                        have := hsp _ rfl hxe
                        simp only at this
                        subst this
                        subst he
                        have := lit_cut hx (l := l) (h' := h') (M := M) hsz hM3 (by omega) (by omega)
                        simpa [addr_add] using this
                  cases hx with
                  | lit0 ad cap => exact hgen ad cap (by simp) rfl (fun _ => rfl) (fun _ _ h => absurd rfl h)
                  | lit _ b o sz cap vals hb hc hxs hcell hrel => exact hgen _ cap hc rfl (by simp) (fun A hA _ => by simp at hA; subst hA; rfl)
                · cases h
              · cases h
            · cases h
          · cases h
        · cases h
      · rename_i k x' el id ver sz off len hk
        have hu := hyo.sl hk
        split at h
        · rename_i y2 hy2
          have hyo2 := hC.ty el y2 hy2
          split at h
          · rename_i m hm
            split at h
            · rename_i h' hh
              split at h
              · rename_i l hl
                split at h
                · rename_i hsz
                  simp at h; subst h
                  cases hx with
                  | ref _ _ _ _ _ T ad cap hT hal hv hz hle hc ha =>
                    obtain ⟨M, hr, hM1, hM2, hM3, hM4, hM5⟩ := sliceBounds_rel (P := P) (w := w) (isSlice := true) (c0 := 0) hlo nlo hhi nhi hmx nmx hle hm hh hl hmh'
                    refine ⟨.slice (if M = l then ad else ad.map (·.add (l * y2.size))) (h' - l) (M - l), by simp [Instr.sliceAt, Instr.slice, r_under hu, hr, hyo2.run_size], ?_⟩
                    refine .ref id ver sz _ _ T _ _ hT hal hv hz (by omega) (by omega) ?_
                    rcases ha with rfl | rfl
                    · by_cases hml : M = l
                      · exact .inr (by omega)
                      · refine .inl ?_
                        rw [if_neg hml]
                        simp only [Option.map_some, addr_add]
                        rw [Nat.add_mul, ← Nat.add_assoc, hz, hsz]
                    · exact .inr (by omega)
                  | refd _ _ _ _ _ ad cap hal hd hle ha =>
                    obtain ⟨M, hr, hM1, hM2, hM3, hM4, hM5⟩ := sliceBounds_rel (P := P) (w := w) (isSlice := true) (c0 := 0) hlo nlo hhi nhi hmx nmx hle hm hh hl hmh'
                    refine ⟨.slice (if M = l then ad else ad.map (·.add (l * y2.size))) (h' - l) (M - l), by simp [Instr.sliceAt, Instr.slice, r_under hu, hr, hyo2.run_size], ?_⟩
                    refine .refd id ver sz _ _ _ _ hal hd (by omega) fun h0 => ?_
                    obtain ⟨A, rfl⟩ := ha (by omega)
                    split
                    · exact ⟨_, rfl⟩
                    · exact ⟨_, rfl⟩
                · cases h
              · cases h
            · cases h
          · cases h
        · cases h
      · rename_i k x' el hk
        have hu := hyo.sl hk
        split at h
        · rename_i y2 hy2
          have hyo2 := hC.ty el y2 hy2
          split at h
          · rename_i m hm
            split at h
            · rename_i h' hh
              split at h
              · rename_i l hl
                simp at h; subst h
                cases hx with
                | nils ad =>
                  obtain ⟨M, hr, hM1, hM2, hM3, hM4, hM5⟩ := sliceBounds_rel (P := P) (w := w) (isSlice := true) (c0 := 0) hlo nlo hhi nhi hmx nmx (Nat.le_refl 0) hm hh hl hmh'
                  obtain rfl : M = 0 := by omega
                  obtain rfl : l = 0 := by omega
                  obtain rfl : h' = 0 := by omega
                  exact ⟨.slice ad 0 0, by simp [Instr.sliceAt, Instr.slice, r_under hu, hr, hyo2.run_size], .nils _⟩
              · cases h
            · cases h
          · cases h
        · cases h
      · cases h
    · cases h

theorem lenOp_rel (hC : CfgOk C P) {t ty : TypeId} {x v : V} {u : Value} (hx : VRel K w x u) (h : lenOp C t x = some v) :
    ∃ r, (Builtin.len_ #[t] ty #[u]).run P w = .ok r w ∧ VRel K w v r := by
  unfold lenOp at h
  split at h
  · rename_i y hy
    have hyo := hC.ty t y hy
    split at h
    · rename_i k x' str hk
      simp at h; subst h; cases hx
      exact ⟨_, by simp [Builtin.len_, r_under (hyo.st hk)]; rfl, .int _ _⟩
    · rename_i k x' el xs hk
      simp at h; subst h
      cases hx with
      | lit0 => exact ⟨_, by simp [Builtin.len_, r_under (hyo.sl hk)]; rfl, .int _ _⟩
      | lit => exact ⟨_, by simp [Builtin.len_, r_under (hyo.sl hk)]; rfl, .int _ _⟩
    · rename_i k x' el hk
      simp at h; subst h; cases hx
      exact ⟨_, by simp [Builtin.len_, r_under (hyo.sl hk)]; rfl, .int _ _⟩
    · rename_i k x' el id ver sz off len hk
      simp at h; subst h
      cases hx <;> exact ⟨_, by simp [Builtin.len_, r_under (hyo.sl hk)]; rfl, .int _ _⟩
    · rename_i k x' n el hk
      simp at h; subst h
      exact ⟨_, by simp [Builtin.len_, r_under (hyo.ar hk)]; rfl, .int _ _⟩
    · cases h
  · cases h

theorem capOp_rel (hC : CfgOk C P) {t ty : TypeId} {x v : V} {u : Value} (hx : VRel K w x u) (h : capOp C t x = some v) :
    ∃ r, (Builtin.cap_ #[t] ty #[u]).run P w = .ok r w ∧ VRel K w v r := by
  unfold capOp at h
  split at h
  · rename_i y hy
    have hyo := hC.ty t y hy
    split at h
    · rename_i k x' el hk
      simp at h; subst h; cases hx
      exact ⟨_, by simp [Builtin.cap_, r_under (hyo.sl hk)]; rfl, .int _ _⟩
    · cases h
  · cases h

theorem foldInt_rel (isMax : Bool) {k : IntKind} : ∀ (l : List V) (us : List Value) (n : Int) (v : V), LRel K w l us → foldInt (fun a b => if isMax then (if b > a then b else a) else (if b < a then b else a)) k n l = some v →
    ∃ r, (us.foldlM (if isMax then Builtin.max2 else Builtin.min2) (.int k n)).run P w = .ok r w ∧ VRel K w v r
  | [], [], n, v, _, h => by simp [foldInt] at h; subst h; exact ⟨_, rfl, .int _ _⟩
  | [], _ :: _, n, v, hl, h => absurd hl.1 (by simp)
  | _ :: _, [], n, v, hl, h => absurd hl.1 (by simp)
  | x :: l, u :: us, n, v, hl, h => by
    have hx := hl.head
    cases x <;> simp only [foldInt, reduceCtorEq] at h
    rename_i k' m
    split at h
    · rename_i hk
      subst hk
      cases hx
      obtain ⟨r, g1, g2⟩ := foldInt_rel isMax l us _ v hl.tail h
      refine ⟨r, ?_, g2⟩
      cases isMax <;> simp only [List.foldlM_cons, Sem.run_bind, if_true, if_false, Bool.false_eq_true, Builtin.max2, Builtin.min2, Sem.run_pure, Result.andThen_ok] at g1 ⊢ <;> exact g1
    · cases h

theorem splice_rel {cs xs : List V} {us vs : List Value} {off : Nat} (hc : CRel K w cs us) (hx : CRel K w xs vs) (hl : off + xs.length ≤ cs.length) :
    CRel K w (splice cs off xs) (us.take off ++ vs ++ us.drop (off + vs.length)) := by
  unfold splice
  have h1 : (cs.take off).length = off := by simp; omega
  have h2 : (us.take off).length = off := by simp; rw [← hc.1]; omega
  refine ⟨by simp [hc.1, hx.1], fun c hcm => ?_, fun i c u e1 e2 => ?_⟩
  · rcases List.mem_append.1 hcm with hcm | hcm
    · rcases List.mem_append.1 hcm with hcm | hcm
      · exact hc.2.1 c (List.mem_of_mem_take hcm)
      · exact hx.2.1 c hcm
    · exact hc.2.1 c (List.mem_of_mem_drop hcm)
  · rw [List.append_assoc] at e1 e2
    by_cases hi : i < off
    · rw [List.getElem?_append_left (by omega), List.getElem?_take, if_pos hi] at e1
      rw [List.getElem?_append_left (by omega), List.getElem?_take, if_pos hi] at e2
      exact hc.2.2 i c u e1 e2
    · rw [List.getElem?_append_right (by omega), h1] at e1
      rw [List.getElem?_append_right (by omega), h2] at e2
      by_cases hi2 : i - off < xs.length
      · rw [List.getElem?_append_left hi2] at e1
        rw [List.getElem?_append_left (by rw [← hx.1]; exact hi2)] at e2
        exact hx.2.2 _ c u e1 e2
      · rw [List.getElem?_append_right (by omega), List.getElem?_drop] at e1
        rw [List.getElem?_append_right (by rw [← hx.1]; omega), List.getElem?_drop, ← hx.1] at e2
        exact hc.2.2 _ c u e1 e2

/-- The machine's putting of cells. -/
theorem fold_splice : ∀ (vs : List Value) (cs : Array Value) (off k : Nat), off + k + vs.length ≤ cs.size →
    ((vs.zipIdx k).foldl (fun cs (x : Value × Nat) => cs.setIfInBounds (off + x.2) x.1) cs).toList = cs.toList.take (off + k) ++ vs ++ cs.toList.drop (off + k + vs.length)
  | [], cs, off, k, h => by simp
  | v :: r, cs, off, k, h => by
    simp only [List.length_cons] at h
    simp only [List.zipIdx_cons, List.foldl_cons]
    rw [fold_splice r _ off (k + 1) (by simp; omega)]
    have := list_seg_step cs.toList (off + k) v r (by simp; omega)
    simp only [Array.toList_setIfInBounds, List.length_cons]
    simpa [Nat.add_assoc] using this

theorem fill_rel (hC : CfgOk C P) {fs : List (Nat × TypeId)} {place : Nat → Option (Nat × Nat)}
    (hpl : ∀ i off ft y, fs[i]? = some (off, ft) → C.ty ft = some y → place i = some (off, y.size)) :
    ∀ (parts : List (Nat × V)) (us : List (Nat × Value)) (cs : List V) (zs : Array Value) (r : List V), parts.map (·.1) = us.map (·.1) → LRel K w (parts.map (·.2)) (us.map (·.2)) → CRel K w cs zs.toList →
      buildFill C fs cs parts = some r → ∃ q, Instr.fill place zs us = some q ∧ CRel K w r q.toList
  | [], [], cs, zs, r, _, _, hc, h => by simp [buildFill] at h; subst h; exact ⟨zs, rfl, hc⟩
  | [], _ :: _, _, _, _, h, _, _, _ => by simp at h
  | _ :: _, [], _, _, _, h, _, _, _ => by simp at h
  | (i, v) :: parts, (i', u) :: us, cs, zs, r, hi, hl, hc, h => by
    simp only [List.map_cons, List.cons.injEq] at hi
    obtain ⟨rfl, hi⟩ := hi
    simp only [buildFill] at h
    split at h
    · rename_i off ft hf
      split at h
      · rename_i y hy
        split at h
        · rename_i hb
          simp only [Bool.and_eq_true, decide_eq_true_eq] at hb
          obtain ⟨⟨hst, hsz⟩, hle⟩ := hb
          have hv := hl.head.cells hst
          have hlen : v.cells.length = u.cells.size := by simpa using hv.1
          have hzl : cs.length = zs.size := by simpa using hc.1
          have hfs := fold_splice u.cells.toList zs off 0 (by simp; omega)
          have hcr : CRel K w (splice cs off v.cells) ((u.cells.zipIdx.foldl (fun cs (x : Value × Nat) => cs.setIfInBounds (off + x.2) x.1) zs).toList) := by
            have e : u.cells.zipIdx.foldl (fun cs (x : Value × Nat) => cs.setIfInBounds (off + x.2) x.1) zs = (u.cells.toList.zipIdx 0).foldl (fun cs (x : Value × Nat) => cs.setIfInBounds (off + x.2) x.1) zs := by
              rw [← Array.foldl_toList, Array.toList_zipIdx]
            rw [e, hfs]
            simpa using splice_rel hc hv hle
          obtain ⟨q, g1, g2⟩ := fill_rel hC hpl parts us _ _ r hi hl.tail hcr h
          refine ⟨q, ?_, g2⟩
          simp only [Instr.fill, hpl i off ft y hf hy]
          rw [if_neg (by simp; omega)]
          exact g1
        · cases h
      · cases h
    · cases h

theorem build_rel (hC : CfgOk C P) {t : TypeId} {parts : List (Nat × V)} {us : List (Nat × Value)} {v : V} (hi : parts.map (·.1) = us.map (·.1)) (hl : LRel K w (parts.map (·.2)) (us.map (·.2)))
    (h : build C t parts = some v) : ∃ r, (Instr.build t us.toArray).run P w = .ok r w ∧ VRel K w v r := by
  unfold build at h
  split at h
  · rename_i y hy
    have hyo := hC.ty t y hy
    split at h
    · rename_i fs hk
      simp only [Option.map_eq_some_iff] at h
      obtain ⟨cs, hcs, rfl⟩ := h
      obtain ⟨fields, hu, hfs, hinf⟩ := hyo.struct hk
      obtain ⟨inf, d, z, h1, h2, h3, h4, h5, h6, h7, h8, h9⟩ := hyo.ex
      have hpm : ∀ (l : List Field), (∀ f ∈ l, ((P.info? f.type).isSome) = true) → l.mapM (fun f => (P.info? f.type).map fun i => (f.offset, i.size)) = some (l.map fun f => (f.offset, P.cellsOf f.type)) := by
        intro l
        induction l with
        | nil => intro _; rfl
        | cons f r ih =>
          intro hl'
          obtain ⟨j, hj⟩ := Option.isSome_iff_exists.1 (hl' f (by simp))
          simp [List.mapM_cons, hj, ih fun x hx => hl' x (by simp [hx]), Program.cellsOf]
      obtain ⟨q, g1, g2⟩ := fill_rel hC (fs := fs) (place := fun i => (fields.toList.map fun f => (f.offset, P.cellsOf f.type))[i]?) (fun i off ft y2 e1 e2 => by
        rw [hfs, List.getElem?_map] at e1
        rw [List.getElem?_map]
        cases hq : fields.toList[i]? with
        | none => simp [hq] at e1
        | some fd =>
          simp [hq] at e1
          obtain ⟨rfl, rfl⟩ := e1
          simp [(hC.ty _ y2 e2).cells]) parts us y.zero z.cells cs hi hl (h8 K w) hcs
      refine ⟨.agg q, ?_, ?_⟩
      · refine run_build w t us.toArray q ?_
        simp only [Program.built, h1, hu, h6, hpm _ hinf]
        have e : (fun (x : Nat) => (fields.toList.map fun f => (f.offset, P.cellsOf f.type)).toArray[x]?) = (fun (i : Nat) => (fields.toList.map fun f => (f.offset, P.cellsOf f.type))[i]?) := by funext x; simp
        rw [e]
        exact g1
      · have := VRel.agg (K := K) (w := w) cs q.toList g2.1 g2.2.1 g2.2.2
        simpa using this
    · cases h
  · cases h
end
end Go.Ilv
