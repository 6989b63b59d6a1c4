/- A machine over plain values: what it computes the model's machine computes. Part A: values, heap, operations, evaluation. -/
import Derived.Calls
import Derived.Lib.Bytealg
set_option linter.unusedVariables false
set_option linter.unusedSimpArgs false
namespace Go.Flat

inductive Tail where
  | shut
  | exact
  | tok (t : Nat)
  deriving DecidableEq, Repr, Inhabited

inductive PV where
  | bool (b : Bool)
  | int (k : IntKind) (n : Int)
  | str (s : List UInt8)
  | nilptr
  | ptr (id off : Nat)
  | fp (cs : List PV)
  | sl (t : Tail) (xs : List PV)
  | view (id k i n : Nat)
  | eptr (id k i off : Nat)
  | nilmap
  | map (id : Nat)
  | func (fn : Fn) (first cap : List PV)
  | nilfunc
  | iface (t : TypeId) (v : PV)
  | niliface
  | agg (cs : List PV)
  | tup (vs : List PV)
  | glob (g : Nat)
  deriving Inhabited, Repr

def PV.undef : PV := .tup []
def PV.cells : PV → List PV
  | .agg cs => cs
  | p => [p]
def PV.isCell : PV → Bool
  | .agg _ => false
  | .tup _ => false
  | _ => true

inductive HObj where
  | cells (cs : List PV)
  | vec (k : Nat) (xs : List PV)
  | tail (n : Nat)
  | map (es : List (PV × PV × Nat)) (clock : Nat)
  | strIter (s : List UInt8) (pos : Nat)
  | mapIter (m : Option Nat) (since : Nat) (seen : List Nat) (last : Nat)
  | dead
  deriving Inhabited, Repr
abbrev Heap := List HObj

inductive Opd where
  | tmp (t : Nat)
  | lit (p : PV)
  deriving Inhabited, Repr

abbrev Temps := Nat → PV
def Opd.ev (T : Temps) : Opd → PV
  | .tmp t => T t
  | .lit p => p
def upd (T : Temps) (d : Nat) (p : PV) : Temps := fun t => if t = d then p else T t
def put (T : Temps) (dst : Option Nat) (p : PV) : Temps :=
  match dst with
  | some d => upd T d p
  | none => T

inductive EqK where
  | bool
  | int
  | str
  deriving DecidableEq, Repr, Inhabited

inductive ExtK where
  | count
  | index
  deriving DecidableEq, Repr, Inhabited

inductive NilKind where
  | ptr
  | iface
  | func
  | map
  deriving DecidableEq, Repr, Inhabited

inductive AOp where
  | mv (x : Opd)
  | pick (c a b : Opd)
  | bin (op : BinOp) (x y : Opd)
  | eqBool (neq : Bool) (x y : Opd)
  | eqNil (kd : NilKind) (neq : Bool) (x : Opd)
  | eqAgg (neq : Bool) (ks : List EqK) (x y : Opd)
  | eqIf (neq : Bool) (ts : List TypeId) (x y : Opd)
  | un (op : UnOp) (x : Opd)
  | convInt (k : IntKind) (x : Opd)
  | convStr (x : Opd)
  | iface (t : TypeId) (x : Opd)
  | func (fn : Fn) (first caps : List Opd)
  | field (off size : Nat) (agg : Bool) (x : Opd)
  | faddr (off : Nat) (x : Opd)
  | idxStr (x i : Opd)
  | idxArr (len size : Nat) (agg : Bool) (x i : Opd)
  | iaSl (size : Nat) (x i : Opd)
  | iaArr (len size : Nat) (x i : Opd)
  | ext (i : Nat) (x : Opd)
  | tass (t : TypeId) (zero : PV) (ok : Bool) (x : Opd)
  | build (zero : List PV) (parts : List (Nat × Nat × Opd))
  | lit (size : Nat) (parts : List Opd)
  | nilchk (x : Opd)
  | lenStr (x : Opd)
  | lenSl (x : Opd)
  | lenArr (n : Nat)
  | minmax (max : Bool) (xs : List Opd)
  | slStr (x : Opd) (lo hi : Option Opd)
  | slSl (size : Nat) (x : Opd) (lo hi : Option Opd)
  | alloc (zero : List PV)
  | box (x : Opd)
  | load (size : Nat) (agg : Bool) (a : Opd)
  | store (size : Nat) (a x : Opd)
  | append (size bytes : Nat) (mu : Bool) (a b : Opd)
  | makeSl (size bytes : Nat) (zero : PV) (n c : Opd)
  | capSl (x : Opd)
  | copySl (size : Nat) (x y : Opd)
  | toStr (x : Opd)
  | toBytes (x : Opd)
  | litV (size : Nat) (parts : List Opd)
  | extS (k : ExtK) (x y : Opd)
  | appendZ (size bytes : Nat) (zero : PV) (a n : Opd)
  | clearSl (size : Nat) (zero : PV) (x : Opd)
  | callF (f : FuncId) (args : List Opd)
  | callV (x : Opd) (args : List Opd)
  | invoke (tab : List (TypeId × FuncId)) (x : Opd) (args : List Opd)
  | makeMap
  | mapUpd (kd : EqK) (m k v : Opd)
  | lookup (kd : EqK) (zero : PV) (ok : Bool) (m k : Opd)
  | lenMap (m : Opd)
  | rangeMap (m : Opd)
  | next (it : Opd)
  | entry (it : Opd)
  | fail
  deriving Inhabited, Repr

/-- What an operation may do to the heap: whatever it does; only put new objects behind it; nothing. -/
inductive Mk where
  | any
  | ext
  | same
  deriving DecidableEq, Repr, Inhabited

structure AOper where
  dst : Option Nat
  op : AOp
  guard : Option (Nat × Bool) := none
  u : Mk := .any
  deriving Inhabited, Repr

inductive ACode where
  | skip
  | region (ops : List AOper)
  | seq (a b : ACode)
  | cond (c : Opd) (x y : ACode)
  | block (id : Nat) (c : ACode)
  | loop (c : ACode)
  | exit (id : Nat)
  | ret
  deriving Inhabited, Repr

inductive ARes where
  | tmp (t : Nat)
  | cell (t size : Nat) (agg : Bool)
  deriving Inhabited, Repr

structure AFunc where
  n : Nat
  res : List ARes
  body : ACode
  nd : Bool := false
  fz : Bool := false
  deriving Inhabited, Repr

/-! ### Pure operations -/
def intBin (op : BinOp) (k : IntKind) (a b : Int) : Option PV :=
  match op with
  | .add => some (.int k (k.wrap (a + b)))
  | .sub => some (.int k (k.wrap (a - b)))
  | .mul => some (.int k (k.wrap (a * b)))
  | .quo => if b = 0 then none else some (.int k (k.wrap (a.tdiv b)))
  | .rem => if b = 0 then none else some (.int k (a.tmod b))
  | .and => some (.int k (k.wrap (BitVec.ofInt k.bits a &&& BitVec.ofInt k.bits b).toNat))
  | .or => some (.int k (k.wrap (BitVec.ofInt k.bits a ||| BitVec.ofInt k.bits b).toNat))
  | .xor => some (.int k (k.wrap (BitVec.ofInt k.bits a ^^^ BitVec.ofInt k.bits b).toNat))
  | .andNot => some (.int k (k.wrap (BitVec.ofInt k.bits a &&& ~~~(BitVec.ofInt k.bits b)).toNat))
  | .eql => some (.bool (a == b))
  | .neq => some (.bool (a != b))
  | .lss => some (.bool (decide (a < b)))
  | .leq => some (.bool (decide (a ≤ b)))
  | .gtr => some (.bool (decide (a > b)))
  | .geq => some (.bool (decide (a ≥ b)))
  | _ => none
def strBin (op : BinOp) (a b : List UInt8) : Option PV :=
  match op with
  | .add => if a.length + b.length ≤ 9223372036854775807 then some (.str (a ++ b)) else none
  | .eql => some (.bool (a == b))
  | .neq => some (.bool (!(a == b)))
  | .lss => some (.bool (Op.bytesLess a b))
  | .leq => some (.bool (Op.bytesLess a b || a == b))
  | .gtr => some (.bool (!(Op.bytesLess a b || a == b)))
  | .geq => some (.bool (!Op.bytesLess a b))
  | _ => none
def isNilK : NilKind → PV → Option Bool
  | .ptr, .nilptr => some true
  | .ptr, .ptr .. => some false
  | .ptr, .fp _ => some false
  | .ptr, .eptr .. => some false
  | .iface, .niliface => some true
  | .iface, .iface .. => some false
  | .func, .nilfunc => some true
  | .func, .func .. => some false
  | .map, .nilmap => some true
  | .map, .map _ => some false
  | _, _ => none
def shiftA (op : BinOp) (k : IntKind) (x y : Int) : Option PV :=
  if y < 0 then none else
  match op with
  | .shl => some (.int k (k.wrap (x * 2 ^ (min y.toNat k.bits))))
  | .shr => some (.int k (x.fdiv (2 ^ (min y.toNat k.bits))))
  | _ => none
def binA (op : BinOp) (x y : PV) : Option PV :=
  match op, x, y with
  | .shl, .int k a, .int _ b => shiftA .shl k a b
  | .shr, .int k a, .int _ b => shiftA .shr k a b
  | op, .int k a, .int k' b => if k = k' then intBin op k a b else none
  | op, .str a, .str b => strBin op a b
  | _, _, _ => none
def eqBoolA (neq : Bool) : PV → PV → Option PV
  | .bool a, .bool b => some (.bool (if neq then !(a == b) else a == b))
  | _, _ => none
def eqCell : EqK → PV → PV → Option Bool
  | .int, .int k a, .int k' b => if k = k' then some (a == b) else none
  | .str, .str a, .str b => some (a == b)
  | .bool, .bool a, .bool b => some (a == b)
  | _, _, _ => none
def eqCells : List EqK → List PV → List PV → Option Bool
  | [], [], [] => some true
  | k :: ks, x :: xs, y :: ys => match eqCell k x y, eqCells ks xs ys with
    | some a, some b => some (a && b)
    | _, _ => none
  | _, _, _ => none
def eqAggA (neq : Bool) (ks : List EqK) : PV → PV → Option PV
  | .agg xs, .agg ys => (eqCells ks xs ys).map fun b => .bool (if neq then !b else b)
  | _, _ => none
/-- Two values of an interface type; ts: the types of integers. -/
def eqIfA (neq : Bool) (ts : List TypeId) : PV → PV → Option PV
  | .iface t p, .iface u q => if t ≠ u then some (.bool neq) else if ts.contains t then (eqCell .int p q).map fun b => .bool (if neq then !b else b) else none
  | .iface _ _, .niliface => some (.bool neq)
  | .niliface, .iface _ _ => some (.bool neq)
  | _, _ => none
def unA (op : UnOp) (x : PV) : Option PV :=
  match op, x with
  | .neg, .int k n => some (.int k (k.wrap (0 - n)))
  | .xor, .int k n => intBin .xor k (if k.signed then -1 else k.max) n
  | .not, .bool b => some (.bool !b)
  | _, _ => none
def partA (off size : Nat) (agg : Bool) (cs : List PV) : Option PV :=
  if agg then (if off + size ≤ cs.length then some (.agg ((cs.drop off).take size)) else none) else cs[off]?
def fillA (cells : List PV) : List (Nat × Nat × PV) → Option (List PV)
  | [] => some cells
  | (off, size, p) :: rest =>
    if p.cells.length = size ∧ off + size ≤ cells.length ∧ p.cells.all (·.isCell) = true then fillA (cells.take off ++ p.cells ++ cells.drop (off + size)) rest else none
def evs (T : Temps) (xs : List Opd) : List PV := xs.map (Opd.ev T)
def minmaxA (max : Bool) : PV → PV → Option PV
  | .int k x, .int k' y => if k = k' then some (.int k (if max then (if y > x then y else x) else (if y < x then y else x))) else none
  | _, _ => none
def foldA (max : Bool) : PV → List PV → Option PV
  | p, [] => some p
  | p, q :: qs => match minmaxA max p q with
    | some r => foldA max r qs
    | none => none
def bound (T : Temps) (d : Nat) : Option Opd → Option Nat
  | none => some d
  | some x => match x.ev T with
    | .int _ i => if 0 ≤ i then some i.toNat else none
    | _ => none
def boundO (T : Temps) : Option Opd → Option (Option Nat)
  | none => some none
  | some y => (bound T 0 (some y)).map some
def uniform (size : Nat) (xs : List PV) : Bool := xs.all fun p => p.cells.length == size && p.cells.all (·.isCell)
def slA (size : Nat) (x : PV) (l : Nat) (h : Option Nat) : Option PV :=
  match x with
  | .sl t xs =>
    let h := h.getD xs.length
    if l ≤ h ∧ h ≤ xs.length ∧ uniform size xs then some (.sl (if l = 0 ∧ h = xs.length then t else .shut) ((xs.take h).drop l)) else none
  | .view id k i n =>
    let h := h.getD n
    if k = size ∧ l ≤ h ∧ h ≤ n then some (.view id k (i + l) (h - l)) else none
  | _ => none

def faddrA (off : Nat) : PV → Option PV
  | .ptr id o => some (.ptr id (o + off))
  | .fp cs => if off < cs.length then some (.fp (cs.drop off)) else none
  | .eptr id k i o => some (.eptr id k i (o + off))
  | _ => none
def iaSlA (size : Nat) (x : PV) (i : Int) : Option PV :=
  match x with
  | .sl _ xs => if 0 ≤ i then (match xs[i.toNat]? with
    | some p => if p.cells.length = size then some (.fp p.cells) else none
    | none => none) else none
  | .view id k j n => if k = size ∧ 0 ≤ i ∧ i < n then some (.eptr id k (j + i.toNat) 0) else none
  | _ => none
def tassA (t : TypeId) (zero : PV) (ok : Bool) : PV → Option PV
  | .iface u v => if u = t then some (if ok then .tup [v, .bool true] else v) else if ok then some (.tup [zero, .bool false]) else none
  | .niliface => if ok then some (.tup [zero, .bool false]) else none
  | _ => none

def extA : ExtK → PV → PV → Option PV
  | .count, .str s, .int .u8 c => some (.int .i64 (Go.Lib.countByte s c.toNat.toUInt8))
  | .index, .str s, .int .u8 c => some (.int .i64 (Go.Lib.indexByte s c.toNat.toUInt8))
  | _, _, _ => none
/-- The operations that don't touch the heap. -/
def pureA (T : Temps) : AOp → Option PV
  | .mv x => some (x.ev T)
  | .pick c a b => match c.ev T with
    | .bool t => some (if t then a.ev T else b.ev T)
    | _ => none
  | .bin op x y => binA op (x.ev T) (y.ev T)
  | .eqBool neq x y => eqBoolA neq (x.ev T) (y.ev T)
  | .eqNil kd neq x => (isNilK kd (x.ev T)).map fun b => .bool (if neq then !b else b)
  | .eqAgg neq ks x y => eqAggA neq ks (x.ev T) (y.ev T)
  | .eqIf neq ts x y => eqIfA neq ts (x.ev T) (y.ev T)
  | .un op x => unA op (x.ev T)
  | .convInt k x => match x.ev T with
    | .int _ n => some (.int k (k.wrap n))
    | _ => none
  | .convStr x => match x.ev T with
    | .str s => some (.str s)
    | _ => none
  | .iface t x => some (.iface t (x.ev T))
  | .func fn first caps => some (.func fn (evs T first) (evs T caps))
  | .field off size agg x => match x.ev T with
    | .agg cs => partA off size agg cs
    | _ => none
  | .faddr off x => faddrA off (x.ev T)
  | .idxStr x i => match x.ev T, i.ev T with
    | .str s, .int _ i => if 0 ≤ i then (s[i.toNat]?).map fun b => .int .u8 b.toNat else none
    | _, _ => none
  | .idxArr len size agg x i => match x.ev T, i.ev T with
    | .agg cs, .int _ i => if 0 ≤ i ∧ i < len then partA (i.toNat * size) size agg cs else none
    | _, _ => none
  | .iaSl size x i => match i.ev T with
    | .int _ i => iaSlA size (x.ev T) i
    | _ => none
  | .iaArr len size x i => match x.ev T, i.ev T with
    | .ptr id o, .int _ i => if 0 ≤ i ∧ i < len then some (.ptr id (o + i.toNat * size)) else none
    | _, _ => none
  | .ext i x => match x.ev T with
    | .tup vs => vs[i]?
    | _ => none
  | .tass t zero ok x => tassA t zero ok (x.ev T)
  | .build zero parts => (fillA zero (parts.map fun (o, s, x) => (o, s, x.ev T))).map .agg
  | .lit size parts => if uniform size (evs T parts) then some (.sl .exact (evs T parts)) else none
  | .nilchk x => match x.ev T with
    | .ptr id o => some (.ptr id o)
    | .eptr id k i o => some (.eptr id k i o)
    | .fp cs => some (.fp cs)
    | .func (.func f) a b => some (.func (.func f) a b)
    | .iface t v => some (.iface t v)
    | _ => none
  | .lenStr x => match x.ev T with
    | .str s => some (.int .i64 s.length)
    | _ => none
  | .lenSl x => match x.ev T with
    | .sl _ xs => some (.int .i64 xs.length)
    | .view _ _ _ n => some (.int .i64 n)
    | _ => none
  | .lenArr n => some (.int .i64 n)
  | .capSl x => match x.ev T with
    | .sl .exact xs => some (.int .i64 xs.length)
    | _ => none
  | .toBytes x => match x.ev T with
    | .str s => some (.sl .shut (s.map fun b => .int .u8 b.toNat))
    | _ => none
  | .extS k x y => extA k (x.ev T) (y.ev T)
  | .minmax max xs => match evs T xs with
    | p :: ps => foldA max p ps
    | [] => none
  | .slStr x lo hi => match x.ev T with
    | .str s => match bound T 0 lo, bound T s.length hi with
      | some l, some h => if l ≤ h ∧ h ≤ s.length then some (.str ((s.take h).drop l)) else none
      | _, _ => none
    | _ => none
  | .slSl size x lo hi => match bound T 0 lo, boundO T hi with
    | some l, some h => slA size (x.ev T) l h
    | _, _ => none
  | _ => none

/-- Is it one of these? -/
def isPure : AOp → Bool
  | .alloc _ | .box _ | .load .. | .store .. | .append .. | .makeSl .. | .copySl .. | .toStr _ | .appendZ .. | .clearSl .. | .litV .. | .callF .. | .callV .. | .invoke .. | .makeMap | .mapUpd .. | .lookup .. | .lenMap .. | .rangeMap .. | .next .. | .entry .. => false
  | _ => true

/-! ### The others -/
abbrev CallT := FuncId → List PV → Heap → Option (PV × Heap)
def loadA (H : Heap) (size : Nat) (agg : Bool) : PV → Option PV
  | .ptr id o => match H[id]? with
    | some (.cells cs) => partA o size agg cs
    | _ => none
  | .fp cs => partA 0 size agg cs
  | .eptr id k i o => match H[id]? with
    | some (.vec k' xs) => if k = k' then (match xs[i]? with
      | some p => partA o size agg p.cells
      | none => none) else none
    | _ => none
  | _ => none
/-- A part of an element set. -/
def setPart (k o size : Nat) (q p : PV) : PV := if o = 0 ∧ size = k then p else .agg (q.cells.take o ++ p.cells ++ q.cells.drop (o + size))
def storeA (H : Heap) (size : Nat) (p : PV) : PV → Option Heap
  | .ptr id o => match H[id]? with
    | some (.cells cs) =>
      if p.cells.length = size ∧ o + size ≤ cs.length ∧ p.cells.all (·.isCell) then some (H.set id (.cells (cs.take o ++ p.cells ++ cs.drop (o + size)))) else none
    | _ => none
  | .eptr id k i o => match H[id]? with
    | some (.vec k' xs) => match xs[i]? with
      | some q => if k = k' ∧ 0 < size ∧ p.cells.length = size ∧ o + size ≤ k ∧ p.cells.all (·.isCell) then some (H.set id (.vec k (xs.set i (setPart k o size q p)))) else none
      | none => none
    | _ => none
  | _ => none
/-- What is appended: a slice, or a string's bytes. -/
def elemsOf (H : Heap) : PV → Option (List PV)
  | .sl _ ys => some ys
  | .str s => some (s.map fun b => .int .u8 b.toNat)
  | .view id k i n => match H[id]? with
    | some (.vec k' es) => if k = k' ∧ i + n ≤ es.length then some ((es.drop i).take n) else none
    | _ => none
  | _ => none
def appendA (H : Heap) (size bytes : Nat) (mu : Bool) (x y : PV) : Option (PV × Heap) :=
  match x, elemsOf H y with
  | .sl t xs, some ys =>
    if xs.length + ys.length ≤ 4294967296 ∧ bytes ≤ 4096 ∧ 0 < size ∧ uniform size xs ∧ uniform size ys then
      if ys.length = 0 then some (.sl t xs, H) else
      match t with
      | .shut => none
      | .exact => if mu then some (.view H.length size 0 (xs.length + ys.length), H ++ [.vec size (xs ++ ys), .dead]) else some (.sl (.tok H.length) (xs ++ ys), H ++ [.tail (xs.length + ys.length)])
      | .tok i => match H[i]? with
        | some (.tail n) => if n = xs.length then some (.sl (.tok i) (xs ++ ys), H.set i (.tail (xs.length + ys.length))) else none
        | _ => none
    else none
  | .view id k i n, some ys =>
    match H[id]? with
    | some (.vec k' es) =>
      if i = 0 ∧ k = size ∧ k' = size ∧ n ≤ es.length ∧ n + ys.length ≤ 4294967296 ∧ bytes ≤ 4096 ∧ 0 < size ∧ uniform size ys then
        if ys.length = 0 then some (.view id k i n, H)
        else some (.view H.length size 0 (n + ys.length), H.set id .dead ++ [.vec size (es.take n ++ ys), .dead])
      else none
    | _ => none
  | _, _ => none
def makeSlA (H : Heap) (size bytes : Nat) (zero : PV) (n c : PV) : Option (PV × Heap) :=
  match n, c with
  | .int _ n, .int _ c =>
    if 0 ≤ n ∧ n ≤ c ∧ c ≤ 4294967296 ∧ bytes ≤ 4096 ∧ 0 < size ∧ zero.cells.length = size then
      some (.view H.length size 0 n.toNat, H ++ [.vec size (List.replicate n.toNat zero), .dead])
    else none
  | _, _ => none
def appendZA (H : Heap) (size bytes : Nat) (zero : PV) (x n : PV) : Option (PV × Heap) :=
  match x, n with
  | .sl .exact xs, .int _ m =>
    if 0 ≤ m ∧ xs.length + m.toNat ≤ 4294967296 ∧ bytes ≤ 4096 ∧ 0 < size ∧ zero.cells.length = size ∧ uniform size xs then
      if m.toNat = 0 then some (.sl .exact xs, H)
      else some (.view H.length size 0 (xs.length + m.toNat), H ++ [.vec size (xs ++ List.replicate m.toNat zero), .dead])
    else none
  | _, _ => none
def clearSlA (H : Heap) (size : Nat) (zero : PV) (x : PV) : Option Heap :=
  match x with
  | .view id k i n => match H[id]? with
    | some (.vec k' es) =>
      if k = size ∧ k' = size ∧ i + n ≤ es.length ∧ zero.cells.length = size then
        some (H.set id (.vec size (es.take i ++ List.replicate n zero ++ es.drop (i + n))))
      else none
    | _ => none
  | _ => none
def copySlA (H : Heap) (size : Nat) (x y : PV) : Option (PV × Heap) :=
  match x, elemsOf H y with
  | .view id k i n, some ys => match H[id]? with
    | some (.vec k' es) =>
      if k = size ∧ k' = size ∧ i + n ≤ es.length ∧ uniform size ys then
        some (.int .i64 (min ys.length n : Nat), H.set id (.vec size (es.take i ++ ys.take n ++ es.drop (i + min ys.length n))))
      else none
    | _ => none
  | _, _ => none
def byteOf : PV → Option UInt8
  | .int .u8 n => some (UInt8.ofNat n.toNat)
  | _ => none
def toStrA (H : Heap) (x : PV) : Option PV :=
  match x with
  | .str _ => none
  | x => match elemsOf H x with
    | some ys => (ys.mapM byteOf).map .str
    | none => none
/-- Where a key stands in a map. -/
def findE (kd : EqK) (k : PV) : List (PV × PV × Nat) → Nat → Option (Option (Nat × PV × Nat))
  | [], _ => some none
  | e :: es, i => match eqCell kd k e.1 with
    | some true => some (some (i, e.2.1, e.2.2))
    | some false => findE kd k es (i + 1)
    | none => none
def mapUpdA (H : Heap) (kd : EqK) (m k v : PV) : Option Heap :=
  match m with
  | .map id => match H[id]? with
    | some (.map es clock) => match findE kd k es 0 with
      | some (some (i, _, born)) => some (H.set id (.map (es.set i (k, v, born)) clock))
      | some none => some (H.set id (.map (es ++ [(k, v, clock)]) (clock + 1)))
      | none => none
    | _ => none
  | _ => none
def lookupA (H : Heap) (kd : EqK) (zero : PV) (ok : Bool) (m k : PV) : Option PV :=
  let give (p : PV) (b : Bool) : PV := if ok then .tup [p, .bool b] else p
  match m with
  | .nilmap => some (give zero false)
  | .map id => match H[id]? with
    | some (.map es _) => match findE kd k es 0 with
      | some (some (_, v, _)) => some (give v true)
      | some none => some (give zero false)
      | none => none
    | _ => none
  | _ => none
def lenMapA (H : Heap) : PV → Option PV
  | .nilmap => some (.int .i64 0)
  | .map id => match H[id]? with
    | some (.map es _) => some (.int .i64 es.length)
    | _ => none
  | _ => none
def rangeMapA (H : Heap) : PV → Option (PV × Heap)
  | .nilmap => some (.ptr H.length 0, H ++ [.mapIter none 0 [] 0])
  | .map id => match H[id]? with
    | some (.map _ clock) => some (.ptr H.length 0, H ++ [.mapIter (some id) clock [] clock])
    | _ => none
  | _ => none
def entryA (H : Heap) : PV → Option PV
  | .ptr id 0 => match H[id]? with
    | some (.mapIter (some m) _ seen last) => match H[m]?, seen.getLast? with
      | some (.map es clock), some stamp => if clock = last then (es.find? (·.2.2 == stamp)).map fun e => .tup [e.1, e.2.1] else none
      | _, _ => none
    | _ => none
  | _ => none
/-- What a step of a range over a map may come to. -/
def nextA (H : Heap) : PV → Option (List (PV × Heap))
  | .ptr id 0 => match H[id]? with
    | some (.mapIter none _ _ _) => some [(.tup [.bool false], H)]
    | some (.mapIter (some m) since seen last) => match H[m]? with
      | some (.map es clock) =>
        if clock = since ∧ last = since ∧ es.all (fun e => decide (e.2.2 < since)) = true then
          if (es.filter fun e => !seen.contains e.2.2) = [] then some [(.tup [.bool false], H)]
          else some ((es.filter fun e => !seen.contains e.2.2).map fun e => (.tup [.bool true, e.1, e.2.1], H.set id (.mapIter (some m) since (seen ++ [e.2.2]) clock)))
        else none
      | _ => none
    | _ => none
  | _ => none
def callVal (call : CallT) (f : PV) (args : List PV) (H : Heap) : Option (PV × Heap) :=
  match f with
  | .func (.func f) first cap => call f (first ++ args ++ cap) H
  | _ => none
def execA (call : CallT) (o : AOp) (T : Temps) (H : Heap) : Option (PV × Heap) :=
  match o with
  | .alloc zero => some (.ptr H.length 0, H ++ [.cells zero])
  | .box x => if (x.ev T).cells.all (·.isCell) then some (.ptr H.length 0, H ++ [.cells (x.ev T).cells]) else none
  | .load size agg a => (loadA H size agg (a.ev T)).map fun p => (p, H)
  | .store size a x => (storeA H size (x.ev T) (a.ev T)).map fun H' => (PV.undef, H')
  | .append size bytes mu a b => appendA H size bytes mu (a.ev T) (b.ev T)
  | .makeSl size bytes zero n c => makeSlA H size bytes zero (n.ev T) (c.ev T)
  | .copySl size x y => copySlA H size (x.ev T) (y.ev T)
  | .toStr x => (toStrA H (x.ev T)).map fun p => (p, H)
  | .litV size parts => if 0 < size ∧ uniform size (evs T parts) then some (.view H.length size 0 (evs T parts).length, H ++ [.vec size (evs T parts), .dead]) else none
  | .appendZ size bytes zero a n => appendZA H size bytes zero (a.ev T) (n.ev T)
  | .clearSl size zero x => (clearSlA H size zero (x.ev T)).map fun H' => (PV.undef, H')
  | .callF f args => call f (evs T args) H
  | .callV x args => callVal call (x.ev T) (evs T args) H
  | .invoke tab x args => match x.ev T with
    | .iface t v => match tab.find? (·.1 == t) with
      | some (_, f) => call f (v :: evs T args) H
      | none => none
    | _ => none
  | .makeMap => some (.map H.length, H ++ [.map [] 0])
  | .mapUpd kd m k v => (mapUpdA H kd (m.ev T) (k.ev T) (v.ev T)).map fun H' => (PV.undef, H')
  | .lookup kd zero ok m k => (lookupA H kd zero ok (m.ev T) (k.ev T)).map fun p => (p, H)
  | .lenMap m => (lenMapA H (m.ev T)).map fun p => (p, H)
  | .rangeMap m => rangeMapA H (m.ev T)
  | .entry it => (entryA H (it.ev T)).map fun p => (p, H)
  | .next _ => none
  | o => (pureA T o).map fun p => (p, H)

structure St where
  T : Temps
  H : Heap
def wantedA (g : Option (Nat × Bool)) (T : Temps) : Bool :=
  match g with
  | none => true
  | some (t, want) => match T t with
    | .bool b => b == want
    | _ => false
def okMk (u : Mk) (H H' : Heap) : Prop :=
  match u with
  | .any => True
  | .ext => H'.take H.length = H
  | .same => H' = H
open Classical in
noncomputable def evOp (call : CallT) (o : AOper) (st : St) : Option St :=
  if wantedA o.guard st.T then
    match execA call o.op st.T st.H with
    | some (p, H') => if okMk o.u st.H H' then some ⟨put st.T o.dst p, H'⟩ else none
    | none => none
  else some ⟨put st.T o.dst .undef, st.H⟩
noncomputable def evOps (call : CallT) : List AOper → St → Option St
  | [], st => some st
  | o :: rest, st => match evOp call o st with
    | some st' => evOps call rest st'
    | none => none

inductive AExit where
  | normal
  | exit (id : Nat)
  | ret
  deriving DecidableEq, Repr

/-! ### Loops: as many rounds as it takes -/
def loopN (step : St → Option (AExit × St)) : Nat → St → Option (AExit × St)
  | 0, _ => none
  | n + 1, st => match step st with
    | some (.normal, st') => loopN step n st'
    | r => r
open Classical in
noncomputable def loopW (step : St → Option (AExit × St)) (st : St) : Option (AExit × St) :=
  if h : ∃ n r, loopN step n st = some r then some (Classical.choose (Classical.choose_spec h)) else none

theorem loopN_mono {step : St → Option (AExit × St)} : ∀ {n m : Nat} {st : St} {r}, loopN step n st = some r → n ≤ m → loopN step m st = some r
  | 0, _, _, _, h, _ => by simp [loopN] at h
  | n + 1, 0, _, _, _, hm => by omega
  | n + 1, m + 1, st, r, h, hm => by
    simp only [loopN] at h ⊢
    split at h
    · rename_i st' he
      exact loopN_mono h (by omega)
    · exact h
theorem loopW_of {step : St → Option (AExit × St)} {n : Nat} {st : St} {r} (h : loopN step n st = some r) : loopW step st = some r := by
  have hx : ∃ n r, loopN step n st = some r := ⟨n, r, h⟩
  unfold loopW
  rw [dif_pos hx]
  have h1 := Classical.choose_spec (Classical.choose_spec hx)
  have h2 := loopN_mono h (Nat.le_max_left n (Classical.choose hx))
  have h3 := loopN_mono h1 (Nat.le_max_right n (Classical.choose hx))
  rw [h2] at h3
  exact h3.symm
theorem loopW_some {step : St → Option (AExit × St)} {st : St} {r} (h : loopW step st = some r) : ∃ n, loopN step n st = some r := by
  unfold loopW at h
  split at h
  · rename_i hx
    have h1 := Classical.choose_spec (Classical.choose_spec hx)
    injection h with h
    rw [h] at h1
    exact ⟨_, h1⟩
  · simp at h
/-- A loop is its body and then the loop. -/
theorem loopW_eq (step : St → Option (AExit × St)) (st : St) : loopW step st = match step st with
    | some (.normal, st') => loopW step st'
    | r => r := by
  cases hs : step st with
  | none =>
    cases hw : loopW step st with
    | none => rfl
    | some r =>
      obtain ⟨n, hn⟩ := loopW_some hw
      cases n with
      | zero => simp [loopN] at hn
      | succ n => simp [loopN, hs] at hn
  | some x =>
    obtain ⟨e, st'⟩ := x
    cases e with
    | normal =>
      simp only
      cases hw : loopW step st' with
      | none =>
        cases hw2 : loopW step st with
        | none => rfl
        | some r =>
          obtain ⟨n, hn⟩ := loopW_some hw2
          cases n with
          | zero => simp [loopN] at hn
          | succ n =>
            simp only [loopN, hs] at hn
            rw [loopW_of hn] at hw
            simp at hw
      | some r =>
        obtain ⟨n, hn⟩ := loopW_some hw
        exact loopW_of (n := n + 1) (by simp only [loopN, hs]; exact hn)
    | exit id => exact loopW_of (n := 1) (by simp [loopN, hs])
    | ret => exact loopW_of (n := 1) (by simp [loopN, hs])

noncomputable def evC (call : CallT) : ACode → St → Option (AExit × St)
  | .skip, st => some (.normal, st)
  | .region ops, st => match evOps call ops st with
    | some st' => some (.normal, st')
    | none => none
  | .seq a b, st => match evC call a st with
    | some (.normal, st') => evC call b st'
    | r => r
  | .cond c x y, st => match c.ev st.T with
    | .bool t => if t then evC call x st else evC call y st
    | _ => none
  | .block id c, st => match evC call c st with
    | some (.exit i, st') => if i = id then some (.normal, st') else some (.exit i, st')
    | r => r
  | .loop c, st => loopW (evC call c) st
  | .exit id, st => some (.exit id, st)
  | .ret, st => some (.ret, st)

/-! ### Ranges over maps: whatever comes next -/
def wpOpS (call : CallT) (o : AOper) (st : St) (K : St → Prop) : Prop :=
  match o.op with
  | .next it => wantedA o.guard st.T = true ∧ ∃ l, nextA st.H (it.ev st.T) = some l ∧ ∀ x ∈ l, K ⟨put st.T o.dst x.1, x.2⟩
  | _ => ∃ st', evOp call o st = some st' ∧ K st'
def wpOpsS (call : CallT) : List AOper → St → (St → Prop) → Prop
  | [], st, K => K st
  | o :: rest, st, K => wpOpS call o st fun st' => wpOpsS call rest st' K
def Onward (K : AExit → St → Prop) (next : St → Prop) : AExit → St → Prop
  | .normal, st => next st
  | e, st => K e st
def Leaves (id : Nat) (K : AExit → St → Prop) : AExit → St → Prop
  | .exit i, st => if i = id then K .normal st else K (.exit i) st
  | e, st => K e st
def loopS (step : St → (AExit → St → Prop) → Prop) : Nat → St → (AExit → St → Prop) → Prop
  | 0, _, _ => False
  | n + 1, st, K => step st (Onward K fun st' => loopS step n st' K)
def wpS (call : CallT) (N : Nat) : ACode → St → (AExit → St → Prop) → Prop
  | .skip, st, K => K .normal st
  | .region ops, st, K => wpOpsS call ops st (K .normal)
  | .seq a b, st, K => wpS call N a st (Onward K fun st' => wpS call N b st' K)
  | .cond c x y, st, K => match c.ev st.T with
    | .bool t => if t then wpS call N x st K else wpS call N y st K
    | _ => False
  | .block id c, st, K => wpS call N c st (Leaves id K)
  | .loop c, st, K => loopS (wpS call N c) N st K
  | .exit id, st, K => K (.exit id) st
  | .ret, st, K => K .ret st

/-! ### Functions -/
mutual
/-- Nobody may append in place to what is handed back. -/
def PV.strip : PV → PV
  | .sl _ xs => .sl .shut (stripL xs)
  | .fp cs => .fp (stripL cs)
  | .func fn a b => .func fn (stripL a) (stripL b)
  | .iface t v => .iface t v.strip
  | .agg cs => .agg (stripL cs)
  | .tup vs => .tup (stripL vs)
  | .bool b => .bool b
  | .int k n => .int k n
  | .str s => .str s
  | .nilptr => .nilptr
  | .ptr i o => .ptr i o
  | .view a b c d => .view a b c d
  | .eptr a b c d => .eptr a b c d
  | .nilmap => .nilmap
  | .map i => .map i
  | .nilfunc => .nilfunc
  | .niliface => .niliface
  | .glob g => .glob g
def stripL : List PV → List PV
  | [] => []
  | p :: ps => p.strip :: stripL ps
end
mutual
/-- No number of an object from n on stands in it. -/
def PV.idsLt (n : Nat) : PV → Bool
  | .sl t xs => (match t with | .tok i => decide (i < n) | _ => true) && idsLtL n xs
  | .fp cs => idsLtL n cs
  | .func _ a b => idsLtL n a && idsLtL n b
  | .iface _ v => v.idsLt n
  | .agg cs => idsLtL n cs
  | .tup vs => idsLtL n vs
  | .ptr i _ => decide (i < n)
  | .view i _ _ _ => decide (i + 1 < n)
  | .eptr i _ _ _ => decide (i < n)
  | .map i => decide (i < n)
  | _ => true
def idsLtL (n : Nat) : List PV → Bool
  | [] => true
  | p :: ps => p.idsLt n && idsLtL n ps
end
mutual
/-- What nobody has a hold of any more is never written again. -/
def PV.frz (H : Heap) (m : Nat) : PV → PV
  | .view id k i n => match H[id]? with
    | some (.vec k' es) => if m ≤ id ∧ k = k' ∧ i + n ≤ es.length then .sl .shut ((es.drop i).take n) else .view id k i n
    | _ => .view id k i n
  | .ptr id o => match H[id]? with
    | some (.cells cs) => if m ≤ id then .fp (cs.drop o) else .ptr id o
    | _ => .ptr id o
  | .sl t xs => .sl t (frzL H m xs)
  | .fp cs => .fp (frzL H m cs)
  | .func fn a b => .func fn (frzL H m a) (frzL H m b)
  | .iface t v => .iface t (v.frz H m)
  | .agg cs => .agg (frzL H m cs)
  | .tup vs => .tup (frzL H m vs)
  | .bool b => .bool b
  | .int k n => .int k n
  | .str s => .str s
  | .nilptr => .nilptr
  | .eptr a b c d => .eptr a b c d
  | .nilmap => .nilmap
  | .map i => .map i
  | .nilfunc => .nilfunc
  | .niliface => .niliface
  | .glob g => .glob g
def frzL (H : Heap) (m : Nat) : List PV → List PV
  | [] => []
  | p :: ps => p.frz H m :: frzL H m ps
end
def resA (T : Temps) (H : Heap) : ARes → Option PV
  | .tmp t => some (T t)
  | .cell t size agg => loadA H size agg (T t)
def resL (T : Temps) (H : Heap) : List ARes → Option (List PV)
  | [] => some []
  | r :: rs => match resA T H r, resL T H rs with
    | some p, some ps => some (p :: ps)
    | _, _ => none
def resultA (T : Temps) (H : Heap) (rs : List ARes) : Option PV :=
  match resL T H rs with
  | some [p] => some p
  | some ps => some (.tup ps)
  | none => none
open Classical in
/-- Behind a call that has left what was there: as if nothing had been made. -/
noncomputable def leave (fz : Bool) (H : Heap) (r : PV) (H' : Heap) : PV × Heap :=
  if H'.take H.length = H ∧ (if fz then ((r.frz H' H.length).frz H' H.length).strip else r).idsLt H.length = true then ((if fz then ((r.frz H' H.length).frz H' H.length).strip else r), H) else (r, H')
def initT (args : List PV) : Temps := fun t => args.getD t .undef
noncomputable def runD (call : CallT) (F : AFunc) (args : List PV) (H : Heap) : Option (PV × Heap) :=
  match evC call F.body ⟨initT args, H⟩ with
  | some (.normal, st) | some (.ret, st) => match resultA st.T st.H F.res with
    | some r => some (leave F.fz H r st.H)
    | none => none
  | _ => none
def EndsIn (F : AFunc) (H : Heap) (r : PV × Heap) (e : AExit) (st : St) : Prop := (e = .normal ∨ e = .ret) ∧ ∃ p, resultA st.T st.H F.res = some p ∧ leave F.fz H p st.H = r
open Classical in
noncomputable def runS (call : CallT) (F : AFunc) (args : List PV) (H : Heap) : Option (PV × Heap) :=
  if h : ∃ r N, wpS call N F.body ⟨initT args, H⟩ (EndsIn F H r) then some (Classical.choose h) else none
noncomputable def runF (call : CallT) (F : AFunc) (args : List PV) (H : Heap) : Option (PV × Heap) :=
  if args.length ≤ F.n then (if F.nd then runS call F args H else runD call F args H) else none

structure Env where
  func : FuncId → Option AFunc
  prim : FuncId → Option (List PV → Heap → Option (PV × Heap))
noncomputable def callN (E : Env) : Nat → CallT
  | 0, _, _, _ => none
  | n + 1, f, args, H =>
    match E.prim f with
    | some g => g args H
    | none => match E.func f with
      | some F => runF (callN E n) F args H
      | none => none
open Classical in
noncomputable def call (E : Env) : CallT := fun f args H =>
  if h : ∃ n r, callN E n f args H = some r then some (Classical.choose (Classical.choose_spec h)) else none


/-! ### A call is what its text says -/
def CallLe (c d : CallT) : Prop := ∀ f args H r, c f args H = some r → d f args H = some r
theorem execA_mono {c d : CallT} (h : CallLe c d) {o : AOp} {T : Temps} {H : Heap} {r} (he : execA c o T H = some r) : execA d o T H = some r := by
  cases o <;> simp only [execA] at he ⊢ <;> try exact he
  · exact h _ _ _ _ he
  · unfold callVal at he ⊢
    split at he
    · exact h _ _ _ _ he
    · exact he
  · split at he
    · split at he
      · exact h _ _ _ _ he
      · exact he
    · exact he
theorem evOp_mono {c d : CallT} (h : CallLe c d) {o : AOper} {st st' : St} (he : evOp c o st = some st') : evOp d o st = some st' := by
  unfold evOp at he ⊢
  split
  · rename_i hw
    rw [if_pos hw] at he
    split at he
    · rename_i p H' hx
      rw [execA_mono h hx]
      exact he
    · simp at he
  · rename_i hw
    rw [if_neg hw] at he
    exact he
theorem evOps_mono {c d : CallT} (h : CallLe c d) : ∀ {l : List AOper} {st st' : St}, evOps c l st = some st' → evOps d l st = some st'
  | [], _, _, he => he
  | o :: l, st, st', he => by
    simp only [evOps] at he ⊢
    split at he
    · rename_i st1 h1
      rw [evOp_mono h h1]
      exact evOps_mono h he
    · simp at he
theorem loopN_le {s t : St → Option (AExit × St)} (h : ∀ st r, s st = some r → t st = some r) : ∀ {n : Nat} {st : St} {r}, loopN s n st = some r → loopN t n st = some r
  | 0, _, _, he => by simp [loopN] at he
  | n + 1, st, r, he => by
    simp only [loopN] at he ⊢
    cases hs : s st with
    | none => simp [hs] at he
    | some x =>
      rw [h _ _ hs]
      rw [hs] at he
      obtain ⟨e, st'⟩ := x
      cases e with
      | normal => exact loopN_le h he
      | exit id => exact he
      | ret => exact he
theorem evC_mono {c d : CallT} (h : CallLe c d) : ∀ (k : ACode) {st : St} {r}, evC c k st = some r → evC d k st = some r
  | .skip, st, r, he => he
  | .region ops, st, r, he => by
    simp only [evC] at he ⊢
    split at he
    · rename_i st1 h1
      rw [evOps_mono h h1]
      exact he
    · simp at he
  | .seq a b, st, r, he => by
    simp only [evC] at he ⊢
    cases ha : evC c a st with
    | none => simp [ha] at he
    | some x =>
      rw [evC_mono h a ha]
      rw [ha] at he
      obtain ⟨e, st'⟩ := x
      cases e with
      | normal => exact evC_mono h b he
      | exit id => exact he
      | ret => exact he
  | .cond q x y, st, r, he => by
    simp only [evC] at he ⊢
    split at he
    · rename_i t ht
      cases t
      · exact evC_mono h y he
      · exact evC_mono h x he
    · simp at he
  | .block id q, st, r, he => by
    simp only [evC] at he ⊢
    cases hq : evC c q st with
    | none => simp [hq] at he
    | some x =>
      rw [evC_mono h q hq]
      rw [hq] at he
      exact he
  | .loop q, st, r, he => by
    simp only [evC] at he ⊢
    obtain ⟨n, hn⟩ := loopW_some he
    exact loopW_of (loopN_le (fun st r hs => evC_mono h q hs) hn)
  | .exit id, st, r, he => he
  | .ret, st, r, he => he
theorem runD_mono {c d : CallT} (h : CallLe c d) {F : AFunc} {args : List PV} {H : Heap} {r} (he : runD c F args H = some r) : runD d F args H = some r := by
  unfold runD at he ⊢
  cases hx : evC c F.body ⟨initT args, H⟩ with
  | none => simp [hx] at he
  | some x =>
    rw [evC_mono h _ hx]
    rw [hx] at he
    exact he
theorem wpOpS_le {c d : CallT} (h : CallLe c d) {o : AOper} {st : St} {K K' : St → Prop} (hk : ∀ st, K st → K' st) (he : wpOpS c o st K) : wpOpS d o st K' := by
  unfold wpOpS at he ⊢
  split at he
  · obtain ⟨h1, l, h2, h3⟩ := he
    exact ⟨h1, l, h2, fun x hx => hk _ (h3 x hx)⟩
  · obtain ⟨st', h1, h2⟩ := he
    exact ⟨st', evOp_mono h h1, hk _ h2⟩
theorem wpOpsS_le {c d : CallT} (h : CallLe c d) : ∀ {l : List AOper} {st : St} {K K' : St → Prop}, (∀ st, K st → K' st) → wpOpsS c l st K → wpOpsS d l st K'
  | [], st, K, K', hk, he => hk _ he
  | o :: l, st, K, K', hk, he => wpOpS_le h (fun _ h' => wpOpsS_le h hk h') he
theorem Onward_le {K K' : AExit → St → Prop} {n n' : St → Prop} (hk : ∀ e st, K e st → K' e st) (hn : ∀ st, n st → n' st) : ∀ e st, Onward K n e st → Onward K' n' e st
  | .normal, st, h => hn st h
  | .exit _, st, h => hk _ st h
  | .ret, st, h => hk _ st h
theorem Leaves_le {id : Nat} {K K' : AExit → St → Prop} (hk : ∀ e st, K e st → K' e st) : ∀ e st, Leaves id K e st → Leaves id K' e st
  | .normal, st, h => hk _ st h
  | .exit i, st, h => by
    simp only [Leaves] at h ⊢
    split at h
    · rename_i hi; rw [if_pos hi]; exact hk _ _ h
    · rename_i hi; rw [if_neg hi]; exact hk _ _ h
  | .ret, st, h => hk _ st h
theorem loopS_le {s t : St → (AExit → St → Prop) → Prop} (h : ∀ st K K', (∀ e st, K e st → K' e st) → s st K → t st K') : ∀ {n m : Nat}, n ≤ m → ∀ {st K K'}, (∀ e st, K e st → K' e st) → loopS s n st K → loopS t m st K'
  | 0, _, _, _, _, _, _, he => he.elim
  | n + 1, 0, hm, _, _, _, _, _ => by omega
  | n + 1, m + 1, hm, st, K, K', hk, he => h _ _ _ (Onward_le hk fun st' h' => loopS_le h (by omega) hk h') he
theorem wpS_le {c d : CallT} (h : CallLe c d) {N M : Nat} (hN : N ≤ M) : ∀ (k : ACode) {st : St} {K K' : AExit → St → Prop}, (∀ e st, K e st → K' e st) → wpS c N k st K → wpS d M k st K'
  | .skip, st, K, K', hk, he => hk _ _ he
  | .region ops, st, K, K', hk, he => wpOpsS_le h (fun _ h' => hk _ _ h') he
  | .seq a b, st, K, K', hk, he => wpS_le h hN a (Onward_le hk fun st' h' => wpS_le h hN b hk h') he
  | .cond q x y, st, K, K', hk, he => by
    simp only [wpS] at he ⊢
    split at he
    · rename_i t ht
      cases t
      · exact wpS_le h hN y hk he
      · exact wpS_le h hN x hk he
    · exact he.elim
  | .block id q, st, K, K', hk, he => wpS_le h hN q (Leaves_le hk) he
  | .loop q, st, K, K', hk, he => loopS_le (s := wpS c N q) (t := wpS d M q) (fun s1 K1 K2 hk' h' => wpS_le (st := s1) (K := K1) (K' := K2) h hN q hk' h') hN hk he
  | .exit id, st, K, K', hk, he => hk _ _ he
  | .ret, st, K, K', hk, he => hk _ _ he

theorem nextA_ne {H : Heap} {p : PV} {l : List (PV × Heap)} (h : nextA H p = some l) : l ≠ [] := by
  unfold nextA at h
  split at h
  · split at h
    · injection h with h; subst h; simp
    · split at h
      · split at h
        · split at h
          · injection h with h; subst h; simp
          · rename_i hne
            injection h with h; subst h
            simpa using hne
        · simp at h
      · simp at h
    · simp at h
  · simp at h
theorem wpOpS_det {c : CallT} {o : AOper} (h : ∀ it, o.op ≠ .next it) (st : St) (K : St → Prop) : wpOpS c o st K = ∃ st', evOp c o st = some st' ∧ K st' := by
  unfold wpOpS
  split
  · rename_i it ho; exact absurd ho (h it)
  · rfl
theorem wpOpS_next {c : CallT} {o : AOper} {it : Opd} (h : o.op = .next it) (st : St) (K : St → Prop) : wpOpS c o st K = (wantedA o.guard st.T = true ∧ ∃ l, nextA st.H (it.ev st.T) = some l ∧ ∀ x ∈ l, K ⟨put st.T o.dst x.1, x.2⟩) := by
  unfold wpOpS
  rw [h]
/-- Two things that hold behind every way hold behind one. -/
theorem wpOpS_two {c : CallT} {o : AOper} {st : St} {K K' : St → Prop} (h1 : wpOpS c o st K) (h2 : wpOpS c o st K') : ∃ st', K st' ∧ K' st' := by
  by_cases hn : ∃ it, o.op = .next it
  · obtain ⟨it, hn⟩ := hn
    rw [wpOpS_next hn] at h1 h2
    obtain ⟨_, l, g1, g2⟩ := h1
    obtain ⟨_, l', g3, g4⟩ := h2
    rw [g1] at g3
    injection g3 with g3
    subst g3
    cases l with
    | nil => exact absurd rfl (nextA_ne g1)
    | cons x l => exact ⟨_, g2 x (by simp), g4 x (by simp)⟩
  · have hn' : ∀ it, o.op ≠ .next it := fun it e => hn ⟨it, e⟩
    rw [wpOpS_det hn'] at h1 h2
    obtain ⟨s1, g1, g2⟩ := h1
    obtain ⟨s2, g3, g4⟩ := h2
    rw [g1] at g3
    injection g3 with g3
    subst g3
    exact ⟨_, g2, g4⟩
theorem wpOpsS_two {c : CallT} : ∀ {l : List AOper} {st : St} {K K' : St → Prop}, wpOpsS c l st K → wpOpsS c l st K' → ∃ st', K st' ∧ K' st'
  | [], st, _, _, h1, h2 => ⟨st, h1, h2⟩
  | o :: l, st, K, K', h1, h2 => by
    obtain ⟨st', g1, g2⟩ := wpOpS_two h1 h2
    exact wpOpsS_two g1 g2
theorem wpS_two {c : CallT} {N : Nat} : ∀ (k : ACode) {st : St} {K K' : AExit → St → Prop}, wpS c N k st K → wpS c N k st K' → ∃ e st', K e st' ∧ K' e st'
  | .skip, st, K, K', h1, h2 => ⟨_, _, h1, h2⟩
  | .region ops, st, K, K', h1, h2 => let ⟨st', g1, g2⟩ := wpOpsS_two h1 h2; ⟨_, st', g1, g2⟩
  | .seq a b, st, K, K', h1, h2 => by
    obtain ⟨e, st', g1, g2⟩ := wpS_two a h1 h2
    cases e with
    | normal => exact wpS_two b g1 g2
    | exit i => exact ⟨_, _, g1, g2⟩
    | ret => exact ⟨_, _, g1, g2⟩
  | .cond q x y, st, K, K', h1, h2 => by
    simp only [wpS] at h1 h2
    split at h1
    · rename_i t ht
      rw [ht] at h2
      cases t
      · exact wpS_two y h1 h2
      · exact wpS_two x h1 h2
    · exact h1.elim
  | .block id q, st, K, K', h1, h2 => by
    obtain ⟨e, st', g1, g2⟩ := wpS_two q h1 h2
    cases e with
    | normal => exact ⟨_, _, g1, g2⟩
    | ret => exact ⟨_, _, g1, g2⟩
    | exit i =>
      simp only [Leaves] at g1 g2
      by_cases hi : i = id
      · rw [if_pos hi] at g1 g2; exact ⟨_, _, g1, g2⟩
      · rw [if_neg hi] at g1 g2; exact ⟨_, _, g1, g2⟩
  | .loop q, st, K, K', h1, h2 => by
    have key : ∀ (n : Nat) (st : St), loopS (wpS c N q) n st K → loopS (wpS c N q) n st K' → ∃ e st', K e st' ∧ K' e st' := by
      intro n
      induction n with
      | zero => exact fun _ h _ => h.elim
      | succ n ih =>
        intro st h1 h2
        obtain ⟨e, st', g1, g2⟩ := wpS_two q h1 h2
        cases e with
        | normal => exact ih st' g1 g2
        | exit i => exact ⟨_, _, g1, g2⟩
        | ret => exact ⟨_, _, g1, g2⟩
    exact key N st h1 h2
  | .exit id, st, K, K', h1, h2 => ⟨_, _, h1, h2⟩
  | .ret, st, K, K', h1, h2 => ⟨_, _, h1, h2⟩
theorem runS_of {c : CallT} {F : AFunc} {args : List PV} {H : Heap} {r} {N : Nat} (h : wpS c N F.body ⟨initT args, H⟩ (EndsIn F H r)) : runS c F args H = some r := by
  have hx : ∃ r N, wpS c N F.body ⟨initT args, H⟩ (EndsIn F H r) := ⟨r, N, h⟩
  unfold runS
  rw [dif_pos hx]
  obtain ⟨M, hM⟩ := Classical.choose_spec hx
  have g1 := wpS_le (fun _ _ _ _ h => h) (Nat.le_max_left N M) _ (fun _ _ h => h) h
  have g2 := wpS_le (fun _ _ _ _ h => h) (Nat.le_max_right N M) _ (fun _ _ h => h) hM
  obtain ⟨e, st, ⟨_, p, e1, e2⟩, ⟨_, q, f1, f2⟩⟩ := wpS_two _ g1 g2
  rw [e1] at f1
  injection f1 with f1
  subst f1
  rw [← e2, ← f2]
theorem runS_some {c : CallT} {F : AFunc} {args : List PV} {H : Heap} {r} (h : runS c F args H = some r) : ∃ N, wpS c N F.body ⟨initT args, H⟩ (EndsIn F H r) := by
  unfold runS at h
  split at h
  · rename_i hx
    injection h with h
    rw [← h]
    exact Classical.choose_spec hx
  · simp at h
theorem runF_mono {c d : CallT} (h : CallLe c d) {F : AFunc} {args : List PV} {H : Heap} {r} (he : runF c F args H = some r) : runF d F args H = some r := by
  unfold runF at he ⊢
  split at he
  case isFalse => simp at he
  rename_i hlen
  rw [if_pos hlen]
  split at he
  · rename_i hn
    rw [if_pos hn]
    obtain ⟨N, hN⟩ := runS_some he
    exact runS_of (wpS_le h (Nat.le_refl N) _ (fun _ _ h => h) hN)
  · rename_i hn
    rw [if_neg hn]
    exact runD_mono h he
theorem callN_succ {E : Env} : ∀ n, CallLe (callN E n) (callN E (n + 1))
  | 0, _, _, _, _, h => by simp [callN] at h
  | n + 1, f, args, H, r, h => by
    rw [callN] at h ⊢
    split at h
    · exact h
    · split at h
      · exact runF_mono (callN_succ n) h
      · simp at h
theorem callN_le {E : Env} {n m : Nat} (h : n ≤ m) : CallLe (callN E n) (callN E m) := by
  induction h with
  | refl => exact fun _ _ _ _ h => h
  | step _ ih => exact fun f args H r he => callN_succ _ f args H r (ih f args H r he)
theorem call_of {E : Env} {n : Nat} {f : FuncId} {args : List PV} {H : Heap} {r} (h : callN E n f args H = some r) : call E f args H = some r := by
  have hx : ∃ n r, callN E n f args H = some r := ⟨n, r, h⟩
  unfold call
  rw [dif_pos hx]
  have h1 := Classical.choose_spec (Classical.choose_spec hx)
  have h2 := callN_le (Nat.le_max_left n (Classical.choose hx)) _ _ _ _ h
  have h3 := callN_le (Nat.le_max_right n (Classical.choose hx)) _ _ _ _ h1
  rw [h2] at h3
  exact h3.symm
theorem call_some {E : Env} {f : FuncId} {args : List PV} {H : Heap} {r} (h : call E f args H = some r) : ∃ n, callN E n f args H = some r := by
  unfold call at h
  split at h
  · rename_i hx
    have h1 := Classical.choose_spec (Classical.choose_spec hx)
    injection h with h
    rw [h] at h1
    exact ⟨_, h1⟩
  · simp at h
theorem callN_call {E : Env} (n : Nat) : CallLe (callN E n) (call E) := fun _ _ _ _ h => call_of h
theorem execA_fin {E : Env} {o : AOp} {T : Temps} {H : Heap} {r} (he : execA (call E) o T H = some r) : ∃ n, execA (callN E n) o T H = some r := by
  cases o <;> simp only [execA] at he ⊢ <;> try exact ⟨0, he⟩
  · exact call_some he
  · unfold callVal at he ⊢
    split at he
    · exact call_some he
    · simp at he
  · split at he
    · split at he
      · exact call_some he
      · simp at he
    · simp at he
theorem evOp_fin {E : Env} {o : AOper} {st st' : St} (he : evOp (call E) o st = some st') : ∃ n, evOp (callN E n) o st = some st' := by
  unfold evOp at he ⊢
  by_cases hw : wantedA o.guard st.T
  · rw [if_pos hw] at he
    simp only [if_pos hw]
    split at he
    · rename_i p H' hx
      obtain ⟨n, hn⟩ := execA_fin hx
      exact ⟨n, by rw [hn]; exact he⟩
    · simp at he
  · rw [if_neg hw] at he
    exact ⟨0, by rw [if_neg hw]; exact he⟩
theorem evOps_fin {E : Env} : ∀ {l : List AOper} {st st' : St}, evOps (call E) l st = some st' → ∃ n, evOps (callN E n) l st = some st'
  | [], _, _, he => ⟨0, he⟩
  | o :: l, st, st', he => by
    simp only [evOps] at he ⊢
    split at he
    · rename_i st1 h1
      obtain ⟨n, hn⟩ := evOp_fin h1
      obtain ⟨m, hm⟩ := evOps_fin he
      refine ⟨max n m, ?_⟩
      rw [evOp_mono (callN_le (Nat.le_max_left n m)) hn]
      exact evOps_mono (callN_le (Nat.le_max_right n m)) hm
    · simp at he
theorem loopN_fin {E : Env} {k : ACode} (ih : ∀ {st : St} {r}, evC (call E) k st = some r → ∃ n, evC (callN E n) k st = some r) :
    ∀ {n : Nat} {st : St} {r}, loopN (evC (call E) k) n st = some r → ∃ m, loopN (evC (callN E m) k) n st = some r
  | 0, _, _, he => by simp [loopN] at he
  | n + 1, st, r, he => by
    simp only [loopN] at he ⊢
    cases hs : evC (call E) k st with
    | none => simp [hs] at he
    | some x =>
      rw [hs] at he
      obtain ⟨m, hm⟩ := ih hs
      obtain ⟨e, st'⟩ := x
      cases e with
      | normal =>
        obtain ⟨m2, hm2⟩ := loopN_fin ih (n := n) he
        refine ⟨max m m2, ?_⟩
        rw [evC_mono (callN_le (Nat.le_max_left m m2)) _ hm]
        exact loopN_le (fun st r hs => evC_mono (callN_le (Nat.le_max_right m m2)) _ hs) hm2
      | exit id => exact ⟨m, by rw [hm]; exact he⟩
      | ret => exact ⟨m, by rw [hm]; exact he⟩
theorem evC_fin {E : Env} : ∀ (k : ACode) {st : St} {r}, evC (call E) k st = some r → ∃ n, evC (callN E n) k st = some r
  | .skip, st, r, he => ⟨0, he⟩
  | .region ops, st, r, he => by
    simp only [evC] at he ⊢
    split at he
    · rename_i st1 h1
      obtain ⟨n, hn⟩ := evOps_fin h1
      exact ⟨n, by rw [hn]; exact he⟩
    · simp at he
  | .seq a b, st, r, he => by
    simp only [evC] at he ⊢
    cases ha : evC (call E) a st with
    | none => simp [ha] at he
    | some x =>
      rw [ha] at he
      obtain ⟨n, hn⟩ := evC_fin a ha
      obtain ⟨e, st'⟩ := x
      cases e with
      | normal =>
        obtain ⟨m, hm⟩ := evC_fin b he
        refine ⟨max n m, ?_⟩
        rw [evC_mono (callN_le (Nat.le_max_left n m)) _ hn]
        exact evC_mono (callN_le (Nat.le_max_right n m)) _ hm
      | exit id => exact ⟨n, by rw [hn]; exact he⟩
      | ret => exact ⟨n, by rw [hn]; exact he⟩
  | .cond q x y, st, r, he => by
    simp only [evC] at he ⊢
    split at he
    · rename_i t ht
      cases t
      · exact evC_fin y he
      · exact evC_fin x he
    · simp at he
  | .block id q, st, r, he => by
    simp only [evC] at he ⊢
    cases hq : evC (call E) q st with
    | none => simp [hq] at he
    | some x =>
      obtain ⟨n, hn⟩ := evC_fin q hq
      rw [hq] at he
      exact ⟨n, by rw [hn]; exact he⟩
  | .loop q, st, r, he => by
    simp only [evC] at he ⊢
    obtain ⟨n, hn⟩ := loopW_some he
    obtain ⟨m, hm⟩ := loopN_fin (fun h => evC_fin q h) hn
    exact ⟨m, loopW_of hm⟩
  | .exit id, st, r, he => ⟨0, he⟩
  | .ret, st, r, he => ⟨0, he⟩
theorem wpOpS_fin {E : Env} {o : AOper} {st : St} {K : CallT → St → Prop} (hm : ∀ {c d : CallT}, CallLe c d → ∀ st, K c st → K d st) (hf : ∀ st, K (call E) st → ∃ n, K (callN E n) st) (he : wpOpS (call E) o st (K (call E))) : ∃ n, wpOpS (callN E n) o st (K (callN E n)) := by
  unfold wpOpS at he ⊢
  split
  · rename_i it ho
    simp only [ho] at he
    obtain ⟨h1, l, h2, h3⟩ := he
    suffices ∃ n, ∀ x ∈ l, K (callN E n) ⟨put st.T o.dst x.1, x.2⟩ by
      obtain ⟨n, hn⟩ := this
      exact ⟨n, h1, l, h2, hn⟩
    clear h2
    induction l with
    | nil => exact ⟨0, by simp⟩
    | cons x l ih =>
      obtain ⟨n, hn⟩ := ih fun y hy => h3 y (by simp [hy])
      obtain ⟨m, hm'⟩ := hf _ (h3 x (by simp))
      refine ⟨max n m, fun y hy => ?_⟩
      rcases List.mem_cons.1 hy with rfl | hy
      · exact hm (callN_le (Nat.le_max_right n m)) _ hm'
      · exact hm (callN_le (Nat.le_max_left n m)) _ (hn y hy)
  · rename_i hne
    have he' : ∃ st', evOp (call E) o st = some st' ∧ K (call E) st' := by
      revert he
      split
      · rename_i it ho; exact absurd ho (hne it)
      · exact fun h => h
    obtain ⟨st', h1, h2⟩ := he'
    obtain ⟨n, hn⟩ := evOp_fin h1
    obtain ⟨m, hm'⟩ := hf _ h2
    exact ⟨max n m, st', evOp_mono (callN_le (Nat.le_max_left n m)) hn, hm (callN_le (Nat.le_max_right n m)) _ hm'⟩
theorem wpOpsS_fin {E : Env} : ∀ {l : List AOper} {st : St} {K : CallT → St → Prop}, (∀ {c d : CallT}, CallLe c d → ∀ st, K c st → K d st) → (∀ st, K (call E) st → ∃ n, K (callN E n) st) → wpOpsS (call E) l st (K (call E)) → ∃ n, wpOpsS (callN E n) l st (K (callN E n))
  | [], st, K, hm, hf, he => hf _ he
  | o :: l, st, K, hm, hf, he => wpOpS_fin (K := fun c st' => wpOpsS c l st' (K c)) (fun h st' h' => wpOpsS_le h (fun st h'' => hm h st h'') h') (fun st' h' => wpOpsS_fin hm hf h') he
theorem wpS_fin {E : Env} {N : Nat} : ∀ (k : ACode) {st : St} {K : CallT → AExit → St → Prop}, (∀ {c d : CallT}, CallLe c d → ∀ e st, K c e st → K d e st) → (∀ e st, K (call E) e st → ∃ n, K (callN E n) e st) → wpS (call E) N k st (K (call E)) → ∃ n, wpS (callN E n) N k st (K (callN E n))
  | .skip, st, K, hm, hf, he => hf _ _ he
  | .region ops, st, K, hm, hf, he => wpOpsS_fin (K := fun c => K c .normal) (fun h st h' => hm h _ st h') (fun st h' => hf _ st h') he
  | .seq a b, st, K, hm, hf, he => by
    refine wpS_fin a (K := fun c => Onward (K c) fun st' => wpS c N b st' (K c)) ?_ ?_ he
    · intro c d h e st h'
      exact Onward_le (hm h) (fun st' h'' => wpS_le h (Nat.le_refl N) b (hm h) h'') e st h'
    · intro e st h'
      cases e with
      | normal => exact wpS_fin b hm hf h'
      | exit i => exact hf _ _ h'
      | ret => exact hf _ _ h'
  | .cond q x y, st, K, hm, hf, he => by
    simp only [wpS] at he ⊢
    split at he
    · rename_i t ht
      cases t
      · exact wpS_fin y hm hf he
      · exact wpS_fin x hm hf he
    · exact he.elim
  | .block id q, st, K, hm, hf, he => by
    refine wpS_fin q (K := fun c => Leaves id (K c)) (fun h e st h' => Leaves_le (hm h) e st h') ?_ he
    intro e st h'
    cases e with
    | normal => exact hf _ _ h'
    | ret => exact hf _ _ h'
    | exit i =>
      simp only [Leaves] at h' ⊢
      by_cases hi : i = id
      · simp only [if_pos hi] at h' ⊢; exact hf _ _ h'
      · simp only [if_neg hi] at h' ⊢; exact hf _ _ h'
  | .loop q, st, K, hm, hf, he => by
    have key : ∀ (m : Nat) (st : St), loopS (wpS (call E) N q) m st (K (call E)) → ∃ n, loopS (wpS (callN E n) N q) m st (K (callN E n)) := by
      intro m
      induction m with
      | zero => exact fun _ h => h.elim
      | succ m ih =>
        intro st h
        refine wpS_fin q (K := fun c => Onward (K c) fun st' => loopS (wpS c N q) m st' (K c)) ?_ ?_ h
        · intro c d h e st h'
          exact Onward_le (hm h) (fun st' h'' => loopS_le (s := wpS c N q) (t := wpS d N q) (fun s1 K1 K2 hk h3 => wpS_le (st := s1) (K := K1) (K' := K2) h (Nat.le_refl N) q hk h3) (Nat.le_refl m) (hm h) h'') e st h'
        · intro e st h'
          cases e with
          | normal => exact ih st h'
          | exit i => exact hf _ _ h'
          | ret => exact hf _ _ h'
    exact key N st he
  | .exit id, st, K, hm, hf, he => hf _ _ he
  | .ret, st, K, hm, hf, he => hf _ _ he
/-- What a call comes to: its function's text, with the same calls in it. -/
theorem call_eq {E : Env} {f : FuncId} (hp : E.prim f = none) {F : AFunc} (hF : E.func f = some F) (args : List PV) (H : Heap) :
    call E f args H = runF (call E) F args H := by
  cases h : runF (call E) F args H with
  | some r =>
    have : ∃ n, runF (callN E n) F args H = some r := by
      unfold runF at h ⊢
      split at h
      case isFalse => simp at h
      rename_i hlen
      simp only [if_pos hlen]
      split at h
      · rename_i hn
        simp only [if_pos hn]
        obtain ⟨N, hN⟩ := runS_some h
        obtain ⟨n, hn⟩ := wpS_fin _ (K := fun _ => EndsIn F H r) (fun _ _ _ h => h) (fun _ _ h => ⟨0, h⟩) hN
        exact ⟨n, runS_of hn⟩
      · rename_i hn
        simp only [if_neg hn]
        unfold runD at h ⊢
        cases hx : evC (call E) F.body ⟨initT args, H⟩ with
        | none => simp [hx] at h
        | some x =>
          obtain ⟨n, hn⟩ := evC_fin _ hx
          rw [hx] at h
          exact ⟨n, by rw [hn]; exact h⟩
    obtain ⟨n, hn⟩ := this
    exact call_of (n := n + 1) (by rw [callN]; simp only [hp, hF]; exact hn)
  | none =>
    cases hc : call E f args H with
    | none => rfl
    | some r =>
      obtain ⟨n, hn⟩ := call_some hc
      cases n with
      | zero => simp [callN] at hn
      | succ n =>
        rw [callN] at hn
        simp only [hp, hF] at hn
        rw [runF_mono (callN_call n) hn] at h
        simp at h
theorem call_prim {E : Env} {f : FuncId} {g} (hp : E.prim f = some g) (args : List PV) (H : Heap) : call E f args H = g args H := by
  cases h : g args H with
  | some r => exact call_of (n := 1) (by rw [callN]; simp [hp, h])
  | none =>
    cases hc : call E f args H with
    | none => rfl
    | some r =>
      obtain ⟨n, hn⟩ := call_some hc
      cases n with
      | zero => simp [callN] at hn
      | succ n => rw [callN] at hn; simp [hp, h] at hn

end Go.Flat
