/- A deterministic evaluator over tree values for the code of a translation: the definitions. (The proofs that it tells what the machine does stand in the texts behind this one.) -/
import Derived.Calls
import Derived.Orders
set_option linter.unusedVariables false
namespace Go.Ilv
open Go

/-- What a slot or a cell holds, seen by the evaluator. 'lit': a slice that nobody writes any more; 'ref': a slice into an object of the evaluator's own; 'nils': a slice without capacity; 'cptr': a pointer to a place that nobody writes any more, with the cells from there on. -/
inductive V where
  | bool (b : Bool)
  | int (k : IntKind) (n : Int)
  | str (s : ByteArray)
  | agg (cs : List V)
  | lit (xs : List V)
  | nils
  | ref (id ver sz off len : Nat)
  | ptr (id ver idx off : Nat)
  | cptr (cs : List V)
  | pnil
  | fn (f : FuncId) (cap : List V)
  | tup (vs : List V)
  | undef
  deriving Inhabited

def V.cells : V → List V
  | .agg cs => cs
  | v => [v]

/-- The value of one cell. -/
def V.leaf : V → Bool
  | .agg _ | .tup _ | .undef => false
  | _ => true

/-- A value that a variable can hold. -/
def V.storable : V → Bool
  | .tup _ | .undef => false
  | _ => true

/-- No object is named outside slices that nobody writes. -/
def V.flat : V → Bool
  | .agg cs => cs.all fun c => match c with
    | .ref .. | .ptr .. | .fn .. | .agg _ | .tup _ | .undef => false
    | _ => true
  | .ref .. | .ptr .. | .fn .. | .tup _ | .undef => false
  | _ => true

mutual
def V.beq : V → V → Bool
  | .bool a, .bool b => a == b
  | .int k a, .int l b => decide (k = l) && decide (a = b)
  | .str a, .str b => decide (a = b)
  | .agg a, .agg b => V.beqL a b
  | .lit a, .lit b => V.beqL a b
  | .nils, .nils => true
  | .ref a b c d f, .ref a' b' c' d' f' => decide (a = a') && decide (b = b') && decide (c = c') && decide (d = d') && decide (f = f')
  | .ptr a b c d, .ptr a' b' c' d' => decide (a = a') && decide (b = b') && decide (c = c') && decide (d = d')
  | .cptr a, .cptr b => V.beqL a b
  | .pnil, .pnil => true
  | .fn f a, .fn g b => decide (f = g) && V.beqL a b
  | .tup a, .tup b => V.beqL a b
  | .undef, .undef => true
  | _, _ => false
def V.beqL : List V → List V → Bool
  | [], [] => true
  | a :: l, b :: r => V.beq a b && V.beqL l r
  | _, _ => false
end

/-- Lists of pairs, by ascending key. -/
def aget {α : Type} : List (Nat × α) → Nat → Option α
  | [], _ => none
  | (k, v) :: r, i => if i = k then some v else aget r i
def aset {α : Type} : List (Nat × α) → Nat → α → List (Nat × α)
  | [], i, x => [(i, x)]
  | (k, v) :: r, i, x => if i = k then (k, x) :: r else if i < k then (i, x) :: (k, v) :: r else (k, v) :: aset r i x
def adel {α : Type} (l : List (Nat × α)) (i : Nat) : List (Nat × α) := l.filter fun x => !(x.1 == i)

/-- An object of the evaluator's own: rows of 'sz' cells. 'var': a variable (it goes with its function), else the array behind a slice. -/
structure Obj where
  sz : Nat
  ver : Nat
  var : Bool
  rows : List (List V)
  deriving Inhabited

structure St where
  nxt : Nat
  objs : List (Nat × Obj)

def St.empty : St := ⟨0, []⟩
def St.get (s : St) (i : Nat) : Option Obj := aget s.objs i
def St.set (s : St) (i : Nat) (o : Obj) : St := { s with objs := aset s.objs i o }
def St.del (s : St) (i : Nat) : St := { s with objs := adel s.objs i }
abbrev Env := List (Nat × V)

/-- What the evaluator knows of a type. -/
inductive K where
  | int (k : IntKind)
  | bool
  | str
  | ptr (e : TypeId)
  | slice (e : TypeId)
  | struct (fs : List (Nat × TypeId))
  | arr (n : Nat) (e : TypeId)
  | other
structure Ty where
  kind : K
  size : Nat
  bytes : Nat
  zero : List V
def K.agg : K → Bool
  | .struct _ | .arr .. => true
  | _ => false

/-- What the evaluator knows of a function. 'pure': it is called over a store of its own, and its result is told without objects; 'frz': the slots whose slice is told as one that nobody writes; 'live i': what is kept behind region i; 'conf i': the pairs of unordered operations of region i of which one may write. -/
structure FnI where
  fn : Func
  pure : Bool
  keep : Bool
  frz : List Nat
  live : List (Nat × List Nat)
  conf : List (Nat × List (Nat × Nat))

structure Cfg where
  ty : TypeId → Option Ty
  fn : FuncId → Option FnI
  glob : Nat → Option (List V)
  /-- The structs whose values may be held against each other: their cells are plain. -/
  eqs : TypeId → Bool
  /-- Functions that are told by what they come to. -/
  intr : FuncId → Option (List V → St → Option (V × St))

section ops
variable (C : Cfg)

mutual
def ofConst : Value → Option V
  | .bool b => some (.bool b)
  | .int k n => some (.int k n)
  | .string s => some (.str s)
  | .slice none 0 0 => some .nils
  | .pointer none => some .pnil
  | .agg ⟨cs⟩ => (ofConstL cs).map .agg
  | _ => none
def ofConstL : List Value → Option (List V)
  | [] => some []
  | v :: r => match ofConst v, ofConstL r with
    | some x, some l => if x.leaf then some (x :: l) else none
    | _, _ => none
end

def opnd (e : Env) : Operand → Option V
  | .tmp t => aget e t
  | .const v => ofConst v
  | .global g => (C.glob g).map .cptr
  | .func f => some (.fn f [])

def ofCells (agg : Bool) (cs : List V) : Option V :=
  if agg then some (.agg cs) else match cs with
    | [v] => some v
    | _ => none

/-- n cells from a place on. -/
def rd (s : St) : V → Nat → Option (List V)
  | .cptr cs, n => if n ≤ cs.length then some (cs.take n) else none
  | .ptr id ver idx off, n =>
    match s.get id with
    | some o => if o.ver = ver then match o.rows[idx]? with
        | some r => if off + n ≤ r.length then some ((r.drop off).take n) else none
        | none => none
      else none
    | none => none
  | _, _ => none

/-- The object whose place a pointer leads to. -/
def V.base : V → Option Nat
  | .ptr id .. => some id
  | _ => none

def wr (s : St) : V → List V → Option St
  | .ptr id ver idx off, cs =>
    match s.get id with
    | some o => if o.ver = ver then match o.rows[idx]? with
        | some r => if off + cs.length ≤ r.length then
            some (s.set id { o with rows := o.rows.set idx (r.take off ++ cs ++ r.drop (off + cs.length)) }) else none
        | none => none
      else none
    | none => none
  | _, _ => none

def cmpInt (op : BinOp) (x y : Int) : Option Bool :=
  match op with
  | .eql => some (decide (x = y)) | .neq => some (!decide (x = y)) | .lss => some (decide (x < y))
  | .leq => some (decide (x ≤ y)) | .gtr => some (decide (x > y)) | .geq => some (decide (x ≥ y))
  | _ => none
def bitInt (op : BinOp) (k : IntKind) (x y : Int) : Option Int :=
  let a := BitVec.ofInt k.bits x
  let b := BitVec.ofInt k.bits y
  match op with
  | .and => some (k.wrap (a &&& b).toNat) | .or => some (k.wrap (a ||| b).toNat)
  | .xor => some (k.wrap (a ^^^ b).toNat) | .andNot => some (k.wrap (a &&& ~~~b).toNat)
  | _ => none
def arith (op : BinOp) (k : IntKind) (x y : Int) : Option V :=
  match op with
  | .add => some (.int k (k.wrap (x + y)))
  | .sub => some (.int k (k.wrap (x - y)))
  | .mul => some (.int k (k.wrap (x * y)))
  | .quo => if y = 0 then none else some (.int k (k.wrap (x.tdiv y)))
  | .rem => if y = 0 then none else some (.int k (x.tmod y))
  | .and | .or | .xor | .andNot => (bitInt op k x y).map (.int k)
  | .eql | .neq | .lss | .leq | .gtr | .geq => (cmpInt op x y).map .bool
  | _ => none
def strOp (op : BinOp) (x y : ByteArray) : Option V :=
  match op with
  | .add => if ((x.size + y.size : Nat) : Int) > IntKind.i64.max then none else some (.str (x ++ y))
  | .eql => some (.bool (x.toList == y.toList))
  | .neq => some (.bool !(x.toList == y.toList))
  | .lss => some (.bool (Op.bytesLess x.toList y.toList))
  | .leq => some (.bool (Op.bytesLess x.toList y.toList || x.toList == y.toList))
  | .gtr => some (.bool !(Op.bytesLess x.toList y.toList || x.toList == y.toList))
  | .geq => some (.bool !(Op.bytesLess x.toList y.toList))
  | _ => none
/-- '==' on plain cells. -/
def eqCell : K → V → V → Option Bool
  | .bool, .bool a, .bool b => some (a == b)
  | .int _, .int k a, .int l b => if k = l then some (a == b) else none
  | .str, .str a, .str b => some (a.toList == b.toList)
  | _, _, _ => none
def eqCells : List (Nat × TypeId) → List V → List V → Option Bool
  | [], [], [] => some true
  | (_, t) :: fs, a :: l, b :: r => match C.ty t with
    | some y => match eqCell y.kind a b, eqCells fs l r with
      | some x, some z => some (x && z)
      | _, _ => none
    | none => none
  | _, _, _ => none
def eqV (t : TypeId) (x y : V) : Option Bool :=
  match C.ty t with
  | none => none
  | some ty => match ty.kind, x, y with
    | .bool, .bool a, .bool b => some (a == b)
    | .ptr _, .pnil, .pnil => some true
    | .ptr _, .pnil, .ptr .. | .ptr _, .ptr .., .pnil | .ptr _, .pnil, .cptr _ | .ptr _, .cptr _, .pnil => some false
    | .struct fs, .agg a, .agg b => if C.eqs t then eqCells C fs a b else none
    | _, _, _ => none
def bin (op : BinOp) (t : TypeId) (x y : V) : Option V :=
  match x, y with
  | .int k a, .int l b =>
    match op with
    | .shl => if b < 0 then none else some (.int k (k.wrap (a * 2 ^ (min b.toNat k.bits))))
    | .shr => if b < 0 then none else some (.int k (a.fdiv (2 ^ (min b.toNat k.bits))))
    | _ => if k = l then arith op k a b else none
  | .str a, .str b => strOp op a b
  | x, y => match op with
    | .eql => (eqV C t x y).map .bool
    | .neq => (eqV C t x y).map fun b => .bool !b
    | _ => none
/-- The source's bare nil of a slice type. -/
def isNilS : Operand → Bool
  | .const (.slice none 0 0) => true
  | _ => false
def V.full : V → Bool
  | .lit (_ :: _) => true
  | .ref _ _ _ _ n => decide (0 < n)
  | _ => false
/-- A slice that has elements, held against nil. -/
def nilCmp (op : BinOp) (t : TypeId) (x : V) : Option V :=
  match C.ty t with
  | some { kind := .slice _, .. } =>
    if x.full then match op with
      | .eql => some (.bool false)
      | .neq => some (.bool true)
      | _ => none
    else none
  | _ => none
def un (op : UnOp) (x : V) : Option V :=
  match op, x with
  | .neg, .int k n => some (.int k (k.wrap (0 - n)))
  | .xor, .int k n => (bitInt .xor k (if k.signed then -1 else k.max) n).map (.int k)
  | .not, .bool b => some (.bool !b)
  | _, _ => none

def sizeOfT (t : TypeId) : Option Nat := (C.ty t).map (·.size)

def fieldAddr (t : TypeId) (x : V) (f : Nat) : Option V :=
  match C.ty t with
  | some { kind := .struct fs, .. } => match fs[f]? with
    | some (off, ft) => match C.ty ft with
      | some y => if y.size = 0 then none else match x with
        | .cptr cs => some (.cptr (cs.drop off))
        | .ptr id ver idx o => some (.ptr id ver idx (o + off))
        | _ => none
      | none => none
    | none => none
  | _ => none

def indexAddr (t : TypeId) (x i : V) : Option V :=
  match C.ty t, i with
  | some { kind := .slice e, .. }, .int _ n => match C.ty e with
    | some y => match x with
      | .lit xs => if 0 ≤ n then match xs[n.toNat]? with
          | some v => if v.cells.length = y.size then some (.cptr v.cells) else none
          | none => none
        else none
      | .ref id ver sz off len => if 0 ≤ n ∧ n < len ∧ sz = y.size then some (.ptr id ver (off + n.toNat) 0) else none
      | _ => none
    | none => none
  | some { kind := .arr m e, .. }, .int _ n => match C.ty e with
    | some y => if 0 ≤ n ∧ n < m then match x with
        | .cptr cs => some (.cptr (cs.drop (n.toNat * y.size)))
        | .ptr id ver idx o => some (.ptr id ver idx (o + n.toNat * y.size))
        | _ => none
      else none
    | none => none
  | _, _ => none

def part (t : TypeId) (cs : List V) (off : Nat) : Option V :=
  match C.ty t with
  | some y => if off + y.size ≤ cs.length then ofCells y.kind.agg ((cs.drop off).take y.size) else none
  | none => none

def index (t : TypeId) (x i : V) : Option V :=
  match C.ty t, x, i with
  | some { kind := .str, .. }, .str s, .int _ n => if 0 ≤ n then match s[n.toNat]? with
      | some b => some (.int .u8 b.toNat)
      | none => none
    else none
  | some { kind := .arr m e, .. }, .agg cs, .int _ n => if 0 ≤ n ∧ n < m then match C.ty e with
      | some y => part C e cs (n.toNat * y.size)
      | none => none
    else none
  | _, _, _ => none

def field (t : TypeId) (x : V) (f : Nat) : Option V :=
  match C.ty t, x with
  | some { kind := .struct fs, .. }, .agg cs => match fs[f]? with
    | some (off, ft) => part C ft cs off
    | none => none
  | _, _ => none

/-- A bound: the number, at most m. -/
def bound (x : Option V) (d m : Nat) : Option Nat :=
  match x with
  | none => some d
  | some (.int _ n) => if 0 ≤ n ∧ n ≤ m then some n.toNat else none
  | _ => none
def sliceOp (t : TypeId) (x : V) (lo hi mx : Option V) : Option V :=
  if mx.isSome && hi.isNone then none else
  match C.ty t with
  | some y => match y.kind, x with
    | .str, .str s => match mx, bound hi s.size s.size with
      | none, some h => match bound lo 0 h with
        | some l => some (.str (s.extract l h))
        | none => none
      | _, _ => none
    | .slice e, .lit xs => match C.ty e with
      | some y => match bound mx xs.length xs.length with
        | some m => match bound hi xs.length m with
          | some h => match bound lo 0 h with
            | some l => if xs.all fun x => decide (x.cells.length = y.size) then some (.lit ((xs.take h).drop l)) else none
            | none => none
          | none => none
        | none => none
      | none => none
    | .slice e, .ref id ver sz off len => match C.ty e with
      | some y => match bound mx len len with
        | some m => match bound hi len m with
          | some h => match bound lo 0 h with
            | some l => if sz = y.size then some (.ref id ver sz (off + l) (h - l)) else none
            | none => none
          | none => none
        | none => none
      | none => none
    | .slice e, .nils => match C.ty e with
      | some _ => match bound mx 0 0 with
        | some m => match bound hi 0 m with
          | some h => match bound lo 0 h with
            | some _ => some .nils
            | none => none
          | none => none
        | none => none
      | none => none
    | _, _ => none
  | none => none

/-- Put cells into cells. -/
def splice (cs : List V) (off : Nat) (xs : List V) : List V := cs.take off ++ xs ++ cs.drop (off + xs.length)
def buildFill (fs : List (Nat × TypeId)) (cs : List V) : List (Nat × V) → Option (List V)
  | [] => some cs
  | (i, v) :: r => match fs[i]? with
    | some (off, ft) => match C.ty ft with
      | some y => if v.storable && decide (v.cells.length = y.size) && decide (off + v.cells.length ≤ cs.length) then buildFill fs (splice cs off v.cells) r else none
      | none => none
    | none => none
def build (t : TypeId) (parts : List (Nat × V)) : Option V :=
  match C.ty t with
  | some y => match y.kind with
    | .struct fs => (buildFill C fs y.zero parts).map .agg
    | _ => none
  | none => none

def newObj (s : St) (id : Nat) (o : Obj) : St := s.set id o

/-- What an operation without a call of a Go function does: the value and what becomes of the store. 'id': the number for a new object. -/
inductive Eff where
  | none
  | set (id : Nat) (o : Obj)

def Eff.on : Eff → St → St
  | .none, s => s
  | .set id o, s => s.set id o

/-- An empty slice is told in one way alone where nobody writes. -/
def V.norm1 : V → V
  | .nils => .lit []
  | v => v
def V.norm : V → V
  | .agg cs => .agg (cs.map V.norm1)
  | v => v.norm1
/-- A new slice: one that nobody writes, or one into an object. -/
def sliceOfRows (frz : Bool) (id : Nat) (sz : Nat) (xs : List V) : Option (V × Eff) :=
  if xs.all fun v => v.storable && decide (v.cells.length = sz) then
    if frz then if xs.all V.flat then some (.lit (xs.map V.norm), .none) else none
    else some (.ref id 0 sz 0 xs.length, .set id ⟨sz, 0, false, xs.map V.cells⟩)
  else none

def partsIn (n : Nat) : List (Nat × V) → Bool
  | [] => true
  | (i, _) :: r => decide (i = n) && partsIn (n + 1) r

/-- A row as a value. -/
def rowV : List V → V
  | [v] => v
  | r => .agg r
def elems (s : St) : V → Option (List V)
  | .lit xs => some xs
  | .nils => some []
  | .ref id ver sz off len => match s.get id with
    | some o => if o.ver = ver then if off + len ≤ o.rows.length then some (((o.rows.drop off).take len).map rowV) else none else none
    | none => none
  | _ => none

/-- Room for so many bytes is asked for. -/
def roomOk (n bytes : Nat) : Bool := decide (n ≤ 35184372088832) && decide (n * bytes ≤ 35184372088832)

def appendOp (frz : Bool) (s : St) (id : Nat) (e : TypeId) (x y : V) : Option (V × Eff) :=
  match C.ty e, elems s y with
  | some ty, some ys =>
    if ty.size = 0 then none else
    match x with
    | .nils => if ys.isEmpty then some (.nils, .none) else if roomOk ys.length ty.bytes then sliceOfRows frz id ty.size ys else none
    | .ref rid ver sz off len => if frz then none else match s.get rid with
      | some o => if o.ver = ver ∧ o.sz = ty.size ∧ sz = ty.size ∧ off + len ≤ o.rows.length ∧ roomOk (len + ys.length) ty.bytes = true ∧ (ys.all fun v => v.storable && decide (v.cells.length = ty.size)) = true then
          some (.ref rid (ver + 1) sz 0 (len + ys.length), .set rid { o with ver := ver + 1, rows := (o.rows.drop off).take len ++ ys.map V.cells }) else none
      | none => none
    | _ => none
  | _, _ => none

def lenOp (t : TypeId) (x : V) : Option V :=
  match C.ty t with
  | some y => match y.kind, x with
    | .str, .str s => some (.int .i64 s.size)
    | .slice _, .lit xs => some (.int .i64 xs.length)
    | .slice _, .nils => some (.int .i64 0)
    | .slice _, .ref _ _ _ _ len => some (.int .i64 len)
    | .arr n _, _ => some (.int .i64 n)
    | _, _ => none
  | none => none

def capOp (t : TypeId) (x : V) : Option V :=
  match C.ty t with
  | some y => match y.kind, x with
    | .slice _, .nils => some (.int .i64 0)
    | _, _ => none
  | none => none

def foldInt (f : Int → Int → Int) (k : IntKind) : Int → List V → Option V
  | n, [] => some (.int k n)
  | n, .int l m :: r => if k = l then foldInt f k (f n m) r else none
  | _, _ => none
def foldMax (f : Int → Int → Int) : List V → Option V
  | .int k n :: r => foldInt f k n r
  | _ => none

def opnds (e : Env) : List Operand → Option (List V)
  | [] => some []
  | x :: r => match opnd C e x, opnds e r with
    | some v, some l => some (v :: l)
    | _, _ => none
def oopnd (e : Env) : Option Operand → Option (Option V)
  | none => some none
  | some x => match opnd C e x with
    | some v => some (some v)
    | none => none
def popnds (e : Env) : List (Nat × Operand) → Option (List (Nat × V))
  | [] => some []
  | (i, x) :: r => match opnd C e x, popnds e r with
    | some v, some l => some ((i, v) :: l)
    | _, _ => none

/-- An operation that calls no Go function. -/
def prim (frz : Bool) (e : Env) (s : St) (id : Nat) (op : Op) : Option (V × Eff) :=
  let q (v : Option V) : Option (V × Eff) := v.map fun v => (v, .none)
  match op with
  | .move x | .assign x => q (opnd C e x)
  | .pick c a b => match opnd C e c, opnd C e a, opnd C e b with
    | some (.bool t), some x, some y => some (if t then x else y, .none)
    | some (.bool true), some x, none => some (x, .none)
    | some (.bool false), none, some y => some (y, .none)
    | _, _, _ => none
  | .alloc t => match C.ty t with
    | some y => if y.size = 0 then none else some (.ptr id 0 0 0, .set id ⟨y.size, 0, true, [y.zero]⟩)
    | none => none
  | .box t x => match C.ty t, opnd C e x with
    | some y, some v => if y.size = 0 then none else if v.storable && decide (v.cells.length = y.size) then some (.ptr id 0 0 0, .set id ⟨y.size, 0, true, [v.cells]⟩) else none
    | _, _ => none
  | .build t ps => match popnds C e ps.toList with
    | some l => q (build C t l)
    | none => none
  | .buildSlice t n ps => match C.ty t, popnds C e ps.toList with
    | some { kind := .slice et, .. }, some l => match C.ty et with
      | some y => if n = 0 then (if l.isEmpty then some (.nils, .none) else none) else
        if y.size = 0 then none else
        if decide (l.length = n) && partsIn 0 l && decide (n * y.size ≤ 16777216) then sliceOfRows frz id y.size (l.map (·.2)) else none
      | none => none
    | _, _ => none
  | .load t x => match C.ty t, opnd C e x with
    | some y, some p => match rd s p y.size with
      | some cs => q (ofCells y.kind.agg cs)
      | none => none
    | _, _ => none
  | .store t p x => match C.ty t, opnd C e p, opnd C e x with
    | some y, some (.ptr i ver idx off), some v =>
      if v.storable && decide (v.cells.length = y.size) then
        match s.get i with
        | some o => if o.ver = ver then match o.rows[idx]? with
            | some r => if off + v.cells.length ≤ r.length then some (.undef, .set i { o with rows := o.rows.set idx (splice r off v.cells) }) else none
            | none => none
          else none
        | none => none
      else none
    | _, _, _ => none
  | .nilCheck x => match opnd C e x with
    | some (.ptr a b c d) => some (.ptr a b c d, .none)
    | some (.cptr cs) => some (.cptr cs, .none)
    | some (.fn f c) => some (.fn f c, .none)
    | _ => none
  | .binOp op t x y _ => match opnd C e x, opnd C e y with
    | some a, some b => q (if isNilS y then nilCmp C op t a else bin C op t a b)
    | _, _ => none
  | .unOp op _ x => match opnd C e x with
    | some a => q (un op a)
    | none => none
  | .convert a b x => match C.ty a, C.ty b, opnd C e x with
    | some _, some { kind := .int k, .. }, some (.int _ n) => some (.int k (k.wrap n), .none)
    | some _, some { kind := .str, .. }, some (.str s) => some (.str s, .none)
    | _, _, _ => none
  | .makeFunc (.func f) first cap => if first.isEmpty then match opnds C e cap.toList with
      | some l => some (.fn f l, .none)
      | none => none
    else none
  | .makeSlice t l c => match C.ty t, opnd C e l, opnd C e c with
    | some { kind := .slice et, .. }, some (.int _ n), some (.int _ m) => match C.ty et with
      | some y => if y.size ≠ 0 ∧ 0 ≤ n ∧ n ≤ m ∧ roomOk m.toNat y.bytes = true then
          match ofCells y.kind.agg y.zero with
          | some z => sliceOfRows frz id y.size (List.replicate n.toNat z)
          | none => none
        else none
      | none => none
    | _, _, _ => none
  | .slice t x lo hi mx => match opnd C e x, oopnd C e lo, oopnd C e hi, oopnd C e mx with
    | some v, some a, some b, some c => q (sliceOp C t v a b c)
    | _, _, _, _ => none
  | .fieldAddr t x f => match opnd C e x with
    | some p => q (fieldAddr C t p f)
    | none => none
  | .field t x f => match opnd C e x with
    | some v => q (field C t v f)
    | none => none
  | .indexAddr t x i => match opnd C e x, opnd C e i with
    | some v, some n => q (indexAddr C t v n)
    | _, _ => none
  | .index t x i => match opnd C e x, opnd C e i with
    | some v, some n => q (index C t v n)
    | _, _ => none
  | .extract x i => match opnd C e x with
    | some (.tup vs) => q vs[i]?
    | _ => none
  | .call { callee := .builtin b, args, argTypes } => match b with
    | .len => match argTypes.toList, opnds C e args.toList with
      | [t], some [x] => q (lenOp C t x)
      | _, _ => none
    | .append => match argTypes.toList, opnds C e args.toList with
      | [t, u], some [x, y] => match C.ty t, C.ty u with
        | some { kind := .slice et, .. }, some { kind := .slice _, .. } => if t = u then appendOp C frz s id et x y else none
        | _, _ => none
      | _, _ => none
    | .max => match opnds C e args.toList with
      | some l => q (foldMax (fun a b => if b > a then b else a) l)
      | none => none
    | .min => match opnds C e args.toList with
      | some l => q (foldMax (fun a b => if b < a then b else a) l)
      | none => none
    | .cap => match argTypes.toList, opnds C e args.toList with
      | [t], some [x] => q (capOp C t x)
      | _, _ => none
    | _ => none
  | _ => none

end ops

/-- No memory is named. -/
def V.bare : V → Bool
  | .bool _ | .int .. | .str _ | .nils | .pnil | .lit [] => true
  | _ => false
def V.scalar1 : V → Bool
  | .agg cs => cs.all V.bare
  | v => v.bare
def V.scalar : V → Bool
  | .tup vs => vs.all V.scalar1
  | v => v.scalar1

def allSome {α β : Type} (f : α → Option β) : List α → Option (List β)
  | [] => some []
  | x :: r => match f x, allSome f r with
    | some y, some l => some (y :: l)
    | _, _ => none

/-- A value told without objects. -/
def reify (s : St) : Nat → V → Option V
  | 0, _ => none
  | n + 1, v => match v with
    | .ref id ver sz off len => match elems s (.ref id ver sz off len) with
      | some xs => match allSome (reify s n) xs with
        | some ys => some (.lit ys)
        | none => none
      | none => none
    | .agg cs => match allSome (reify s n) cs with
      | some ys => some (.agg ys)
      | none => none
    | .tup cs => match allSome (reify s n) cs with
      | some ys => some (.tup ys)
      | none => none
    | .ptr .. | .fn .. | .undef => none
    | .nils => some (.lit [])
    | v => some v

abbrev Callee := FuncId → List V → St → Option (V × St)

section control
variable (C : Cfg) (cal : Callee)

def callV (pure : Bool) (f : FuncId) (args : List V) (s : St) : Option (V × St) :=
  if pure then match allSome (reify s 40) args with
    | some as => match cal f as St.empty with
      | some (r, s') => match reify s' 40 r with
        | some r' => if args.all V.flat || r'.scalar then some (r', s) else none
        | none => none
      | none => none
    | none => none
  else cal f args s

def putE (e : Env) (dst : Option Nat) (v : V) : Env :=
  match dst with
  | some d => aset e d v
  | none => e

/-- Is an operation wanted? none: it can't be told. -/
def wantedE (ops : Array Oper) (o : Oper) (e : Env) : Option Bool :=
  match o.guard with
  | none => some true
  | some (g, want) => match (ops[g]?).bind (·.dst) with
    | none => none
    | some d => match aget e d with
      | some (.bool b) => some (b == want)
      | some .undef => some false
      | _ => none

/-- What an operation touched. -/
inductive Foot where
  | cells (rd wr : List Nat)
  | call (before after : St)
  | top
  deriving Inhabited

def idOf : V → List Nat
  | .ptr id .. | .ref id .. => [id]
  | _ => []
def footOf (e : Env) (id : Nat) (o : Oper) (s s' : St) (eff : Eff) : Foot :=
  let w := match eff with
    | .none => []
    | .set i _ => [i]
  match o.op with
  | .load _ x => .cells (match opnd C e x with
    | some v => idOf v
    | none => []) w
  | .store _ x _ => .cells (match opnd C e x with
    | some v => idOf v
    | none => []) w
  | .call { callee := .builtin .append, args, .. } => .cells (match opnds C e args.toList with
    | some l => l.flatMap idOf
    | none => []) w
  | .call { callee := .value _, .. } => .call s s'
  | _ => .cells [] w

def frzOf (fi : FnI) (o : Oper) : Bool := match o.dst with
  | some d => fi.frz.contains d
  | none => false

/-- An operation: the value, the store behind it, and what it touched. -/
def act (fi : FnI) (id : Nat) (o : Oper) (e : Env) (s : St) : Option (V × St × Bool × Foot) :=
  match o.op with
  | .call { callee := .value f, args, .. } => match opnd C e f, opnds C e args.toList with
    | some (.fn g cap), some as => match C.fn g with
      | some gi => match callV cal gi.pure g (as ++ cap) s with
        | some (r, s') => some (r, s', false, if gi.pure then (if (as ++ cap).all V.flat then .cells [] [] else .top) else .call s s')
        | none => none
      | none => none
    | _, _ => none
  | op => match prim C (frzOf fi o) e s id op with
    | some (v, eff) => some (v, eff.on s, (match eff with
      | .set i _ => i == id
      | .none => false), footOf C e id o s s eff)
    | none => none

def stepOp (fi : FnI) (ops : Array Oper) (id : Nat) (i : Nat) (e : Env) (s : St) : Option (Env × St × Bool × Foot) :=
  match ops[i]? with
  | none => some (e, s, false, .cells [] [])
  | some o => match wantedE ops o e with
    | some true => match act C cal fi id o e s with
      | some (v, s', b, ft) => some (putE e o.dst v, s', b, ft)
      | none => none
    | some false => some (putE e o.dst .undef, s, false, .cells [] [])
    | none => none

def runSeq (fi : FnI) (ops : Array Oper) : List Nat → Env → St → Option (Env × St)
  | [], e, s => some (e, s)
  | i :: r, e, s => match stepOp C cal fi ops s.nxt i e s with
    | some (e', s', b, _) => runSeq fi ops r e' (if b then { s' with nxt := s'.nxt + 1 } else s')
    | none => none

/-- The operations of a region of open order, their new objects' numbers by their places. -/
def runDraw (fi : FnI) (ops : Array Oper) (n0 : Nat) : List Nat → Env → St → Option (Env × St)
  | [], e, s => some (e, s)
  | i :: r, e, s => match stepOp C cal fi ops (n0 + i) i e s with
    | some (e', s', _, _) => runDraw fi ops n0 r e' s'
    | none => none
def feet (fi : FnI) (ops : Array Oper) (n0 : Nat) : List Nat → Env → St → List (Nat × Foot)
  | [], _, _ => []
  | i :: r, e, s => match stepOp C cal fi ops (n0 + i) i e s with
    | some (e', s', _, ft) => (i, ft) :: feet fi ops n0 r e' s'
    | none => []
end control

def apartL (a b : List Nat) : Bool := a.all fun x => !b.contains x
def sameObj (a b : Option Obj) : Bool :=
  match a, b with
  | none, none => true
  | some a, some b => decide (a.sz = b.sz) && decide (a.ver = b.ver) && (a.var == b.var) && V.beqL (a.rows.map .agg) (b.rows.map .agg)
  | _, _ => false
def Foot.indep : Foot → Foot → Bool
  | .cells r w, .cells r' w' => apartL w r' && apartL w w' && apartL w' r
  | .cells r [], .call s s' | .call s s', .cells r [] => r.all fun i => sameObj (s.get i) (s'.get i)
  | _, _ => false
def footAt (l : List (Nat × Foot)) (i : Nat) : Foot := (aget l i).getD .top

/-- Does an operation make an object of the evaluator's own? -/
def makes (fi : FnI) (o : Oper) : Bool :=
  match o.op with
  | .box .. | .alloc _ => true
  | .makeSlice .. | .buildSlice .. | .call { callee := .builtin .append, .. } => !frzOf fi o
  | _ => false
def touches (o : Oper) : Bool :=
  match o.op with
  | .box .. | .alloc _ | .makeSlice .. | .buildSlice .. | .load .. | .store .. | .call { callee := .builtin .append, .. } | .call { callee := .value _, .. } => true
  | _ => false
def writes (C : Cfg) (fi : FnI) (o : Oper) : Bool :=
  match o.op with
  | .box .. | .alloc _ | .store .. => true
  | .makeSlice .. | .buildSlice .. | .call { callee := .builtin .append, .. } => !frzOf fi o
  | .call { callee := .value (.func g), .. } => match C.fn g with
    | some gi => !gi.pure
    | none => true
  | .call { callee := .value _, .. } => true
  | _ => false

/-- A call of a Go function? -/
def goCall (o : Oper) : Bool := match o.op with
  | .call { callee := .value _, .. } => true
  | _ => false
/-- Does an operation use up numbers of objects? -/
def bumps (C : Cfg) (fi : FnI) (o : Oper) : Bool := makes fi o || (goCall o && writes C fi o)

section control
variable (C : Cfg) (cal : Callee)
def runReg (fi : FnI) (id : Nat) (ops : Array Oper) (draw : Bool) (e : Env) (s : St) : Option (Env × St) :=
  if draw then
    let s0 : St := if ops.any (bumps C fi) then { s with nxt := s.nxt + ops.size } else s
    let ok : Bool := match aget fi.conf id with
      | none => true
      | some l => let fs := feet C cal fi ops s.nxt (List.range ops.size) e s0
        l.all fun p => (footAt fs p.1).indep (footAt fs p.2)
    if ok then runDraw C cal fi ops s.nxt (List.range ops.size) e s0 else none
  else runSeq C cal fi ops (List.range ops.size) e s

def keepE (l : List Nat) (e : Env) : Env := l.filterMap fun t => (aget e t).map fun v => (t, v)
def liveE (fi : FnI) (id : Nat) (e : Env) : Env :=
  match aget fi.live id with
  | some l => keepE l e
  | none => e

inductive Ex where
  | normal
  | exit (id : Nat)
  | ret

def exec (fi : FnI) : Nat → Code → Env → St → Option (Ex × Env × St)
  | 0, _, _, _ => none
  | n + 1, c, e, s => match c with
    | .skip => some (.normal, e, s)
    | .region id ops draw => match runReg C cal fi id ops draw e s with
      | some (e', s') => some (.normal, liveE fi id e', s')
      | none => none
    | .seq a b => match exec fi n a e s with
      | some (.normal, e', s') => exec fi n b e' s'
      | r => r
    | .cond x a b => match opnd C e x with
      | some (.bool t) => exec fi n (if t then a else b) e s
      | _ => none
    | .block id b => match exec fi n b e s with
      | some (.exit j, e', s') => if j = id then some (.normal, e', s') else some (.exit j, e', s')
      | r => r
    | .loop b => match exec fi n b e s with
      | some (.normal, e', s') => exec fi n (.loop b) e' s'
      | r => r
    | .exit id => some (.exit id, e, s)
    | .ret => some (.ret, e, s)
    | _ => none

def resV (e : Env) (s : St) : ResultVar → Option V
  | .tmp t => aget e t
  | .cell a t => match aget e a, C.ty t with
    | some p, some y => match rd s p y.size with
      | some cs => ofCells y.kind.agg cs
      | none => none
    | _, _ => none
def results (fi : FnI) (e : Env) (s : St) : Option V :=
  match allSome (resV C e s) fi.fn.results.toList with
  | some [v] => some v
  | some l => some (.tup l)
  | none => none

def St.kills (s : St) (base i : Nat) : Bool := decide (base ≤ i) && (match aget s.objs i with
  | some o => o.var
  | none => false)
def St.killVars (s : St) (base : Nat) : St := { s with objs := s.objs.filter fun x => !(s.kills base x.1) }

def enumE : Nat → List V → Env
  | _, [] => []
  | n, v :: r => (n, v) :: enumE (n + 1) r

def body (fi : FnI) (n : Nat) (args : List V) (s : St) : Option (V × St) :=
  match fi.fn.body with
  | none => none
  | some b => match exec C cal fi n b (enumE 0 args) s with
    | some (.exit _, _, _) | none => none
    | some (_, e, s') => match results C fi e s' with
      | some r => some (r, if fi.keep then s' else s'.killVars s.nxt)
      | none => none
end control

def call (C : Cfg) : Nat → Callee
  | 0 => fun _ _ _ => none
  | n + 1 => fun f args s => match C.intr f with
    | some g => g args s
    | none => match C.fn f with
      | some fi => body C (call C n) fi n args s
      | none => none

/-- The static look at a region. -/
def waits (ops : Array Oper) : Array Nat := Region.before ops
def regOk (C : Cfg) (fi : FnI) (id : Nat) (ops : Array Oper) (draw : Bool) : Bool :=
  (ops.all fun o => match o.dst with
    | some d => decide (d < fi.fn.ntmps)
    | none => true) &&
  (!draw || (
    let b := waits ops
    let cf := (aget fi.conf id).getD []
    (ops.toList.zipIdx.all fun (o, j) => o.after.all fun x => !Region.binds .any x || decide (x.on < j)) &&
    ops.toList.zipIdx.all fun (oj, j) => ops.toList.zipIdx.all fun (oi, i) => !decide (i < j) || (b.getD j 0).testBit i ||
      (Oper.apart ops oi oj && (!(touches oi && touches oj && (writes C fi oi || writes C fi oj)) || cf.contains (i, j)))))
def codeOk (C : Cfg) (fi : FnI) : Code → Bool
  | .region id ops draw => regOk C fi id ops draw
  | .seq a b | .cond _ a b => codeOk C fi a && codeOk C fi b
  | .block _ b | .loop b | .scope b => codeOk C fi b
  | _ => true
end Go.Ilv
