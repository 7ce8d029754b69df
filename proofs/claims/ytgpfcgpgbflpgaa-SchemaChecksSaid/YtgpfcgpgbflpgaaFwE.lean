/- The abstract machine: values in which slices are lists and strings are lists of bytes, a compiled form of the translation's code, and its evaluator. -/
import Derived.Calls
import Derived.Orders
import Derived.Scope
import Derived.Below
namespace Fw
open Go

/-- What a slice says of the room behind its end: nothing; that there is none; that the token t, at the end e, owns it. -/
inductive Own where
  | no
  | full
  | tok (t e : Nat)
  deriving DecidableEq, Repr, Inhabited

inductive AV where
  | bool (b : Bool)
  | int (k : IntKind) (n : Int)
  | str (s : List UInt8)
  | nilptr
  | ptr (id off : Nat)
  | vptr (cs : List AV) (off : Nat)
  | nilslice
  | slice (cs : List AV) (n : Nat) (own : Own)
  | mslice (id off len : Nat) (cap : Option Nat)
  | nilmap
  | map (id : Nat)
  | nilfunc
  | func (f : Nat) (first captured : List AV)
  | niliface
  | iface (t : Nat) (v : AV)
  | anyiface
  | agg (cs : List AV)
  | tuple (vs : List AV)
  deriving Inhabited, Repr

def AV.undef : AV := .tuple []

/-- The cells of a value. -/
def AV.cells : AV → List AV
  | .agg cs => cs
  | v => [v]

inductive AObj where
  | cells (ty : Option TypeId) (cs : List AV)
  | map (es : List (AV × AV))
  | tok (ty : TypeId) (e esz : Nat)
  deriving Inhabited, Repr

structure St where
  heap : List (Nat × AObj)
  next : Nat
  low : Nat
  deriving Inhabited, Repr

def look (id : Nat) : List (Nat × AObj) → Option AObj
  | [] => none
  | (j, o) :: h => if j = id then some o else look id h

def put (id : Nat) (o : AObj) : List (Nat × AObj) → List (Nat × AObj)
  | [] => []
  | (j, p) :: h => if j = id then (j, o) :: h else (j, p) :: put id o h

def St.get (s : St) (id : Nat) : Option AObj := look id s.heap
def St.new (s : St) (o : AObj) : St := { s with heap := (s.next, o) :: s.heap, next := s.next + 1 }
def St.set (s : St) (id : Nat) (o : AObj) : St := { s with heap := put id o s.heap, low := min s.low id }

inductive IX where
  | tmp (t : Nat)
  | const (a : AV)
  | glob (g : Nat)
  deriving Inhabited, Repr

/-- The kind of a plain cell. -/
inductive CK where
  | int | bool | str
  deriving DecidableEq, Repr, Inhabited

/-- How two values are compared. -/
inductive EqK where
  | scal | agg (ks : List CK) | ptr | slice | map | func | iface
  deriving DecidableEq, Repr, Inhabited

inductive IOp where
  | mov (x : IX)
  | pick (c a b : IX)
  | alloc (t : TypeId) (z : List AV)
  | box (t : TypeId) (x : IX)
  | build (z : List AV) (ps : List (Nat × Nat × IX))
  | bslice (z : List AV) (len : Nat) (ps : List (Nat × Nat × IX))
  | load (agg : Bool) (n : Nat) (a : IX)
  | store (n : Nat) (a x : IX)
  | nilChk (x : IX)
  | bin (op : BinOp) (x y : IX)
  | eqv (neg : Bool) (q : EqK) (x y : IX)
  | un (op : UnOp) (x : IX)
  | i2i (k : IntKind) (x : IX)
  | same (x : IX)
  | b2s (x : IX)
  | s2b (x : IX)
  | i2s (x : IX)
  | slcs (x : IX) (lo hi : Option IX)
  | slc (esz : Nat) (x : IX) (lo hi mx : Option IX)
  | slca (esz n : Nat) (x : IX) (lo hi mx : Option IX)
  | faddr (off : Nat) (x : IX)
  | fld (off n : Nat) (agg : Bool) (x : IX)
  | iaddr (esz : Nat) (arr : Option Nat) (x i : IX)
  | idx (esz : Nat) (agg : Bool) (arr : Option Nat) (x i : IX)
  | look (kk : CK) (z : AV) (ok : Bool) (m k : IX)
  | mupd (kk : CK) (m k v : IX)
  | mkmap
  | mkif (t : Nat) (x : IX)
  | mkfn (f : Nat) (first captured : List IX)
  | mkslice (bytes : Nat) (z : List AV) (len cap : IX)
  | extr (x : IX) (i : Nat)
  | lens (x : IX)
  | lenv (x : IX)
  | lenm (x : IX)
  | mn (xs : List IX)
  | mx (xs : List IX)
  | app (ty : TypeId) (esz bytes : Nat) (s x : IX)
  | copy (esz : Nat) (d s : IX)
  | call (f : IX) (args : List IX)
  | bad
  deriving Inhabited, Repr

structure IOper where
  dst : Option Nat
  op : IOp
  guard : Option (Nat × Bool)
  deriving Inhabited, Repr

inductive ICode where
  | skip
  | region (ops : List IOper)
  | dregion (ops : List (IOper × Nat))
  | seq (a b : ICode)
  | cond (c : IX) (thn els : ICode)
  | block (id : Nat) (body : ICode)
  | loop (body : ICode)
  | exit (id : Nat)
  | scope (body : ICode)
  | ret
  deriving Inhabited, Repr

inductive IRes where
  | tmp (t : Nat)
  | cell (t : Nat) (agg : Bool) (n : Nat)
  deriving Inhabited, Repr

structure IFunc where
  ntmps : Nat
  results : List IRes
  body : ICode
  deriving Inhabited, Repr

abbrev Callee := Nat → List AV → St → Option (AV × St)

structure Cx where
  fns : Nat → Option IFunc
  gl : Nat → Option (List AV)
  ext : Nat → Option (List AV → St → Option (AV × St))

abbrev Env := List AV

def Env.get (ρ : Env) (t : Nat) : AV := ρ.getD t AV.undef

def IX.ev (cx : Cx) (ρ : Env) : IX → Option AV
  | .tmp t => some (ρ.get t)
  | .const a => some a
  | .glob g => (cx.gl g).map (AV.vptr · 0)

def evs (cx : Cx) (ρ : Env) : List IX → Option (List AV)
  | [] => some []
  | x :: xs => (x.ev cx ρ).bind fun a => (evs cx ρ xs).map (a :: ·)

def evo (cx : Cx) (ρ : Env) : Option IX → Option (Option AV)
  | none => some none
  | some x => (x.ev cx ρ).map some

/-- cells from off on, n of them -/
def sub (cs : List AV) (off n : Nat) : Option (List AV) :=
  if off + n ≤ cs.length then some ((cs.drop off).take n) else none

/-- the value of a variable out of its cells -/
def ofCells (agg : Bool) (cs : List AV) : Option AV :=
  if agg then some (.agg cs) else match cs with
    | [c] => some c
    | _ => none

def patch (cs : List AV) (off : Nat) (vs : List AV) : Option (List AV) :=
  if off + vs.length ≤ cs.length then some (cs.take off ++ vs ++ cs.drop (off + vs.length)) else none

def fillA (cx : Cx) (ρ : Env) (cells : List AV) : List (Nat × Nat × IX) → Option (List AV)
  | [] => some cells
  | (off, n, x) :: ps => (x.ev cx ρ).bind fun v =>
    if v.cells.length = n then (patch cells off v.cells).bind fun cs => fillA cx ρ cs ps else none

/-- Is it the value of one cell? -/
def AV.one : AV → Bool
  | .agg _ => false
  | .tuple _ => false
  | _ => true

/-- A cell's own room is given up where it is stored in a list that never changes. -/
def AV.strip : AV → AV
  | .slice cs n (.tok _ _) => .slice cs n .no
  | v => v

def asI : AV → Option Int
  | .int _ n => some n
  | _ => none

def evBin (op : BinOp) (x y : AV) : Option AV :=
  match x, y with
  | .int k a, .int k' b =>
    match op with
    | .shl => if b < 0 then none else some (.int k (k.wrap (a * 2 ^ (min b.toNat k.bits))))
    | .shr => if b < 0 then none else some (.int k (a.fdiv (2 ^ (min b.toNat k.bits))))
    | op => if k = k' then
      match op with
      | .add => some (.int k (k.wrap (a + b)))
      | .sub => some (.int k (k.wrap (a - b)))
      | .mul => some (.int k (k.wrap (a * b)))
      | .quo => if b = 0 then none else some (.int k (k.wrap (a.tdiv b)))
      | .rem => if b = 0 then none else some (.int k (a.tmod b))
      | .and => some (.int k (k.wrap (BitVec.ofInt k.bits a &&& BitVec.ofInt k.bits b).toNat))
      | .or => some (.int k (k.wrap (BitVec.ofInt k.bits a ||| BitVec.ofInt k.bits b).toNat))
      | .xor => some (.int k (k.wrap (BitVec.ofInt k.bits a ^^^ BitVec.ofInt k.bits b).toNat))
      | .andNot => some (.int k (k.wrap (BitVec.ofInt k.bits a &&& ~~~ BitVec.ofInt k.bits b).toNat))
      | .eql => some (.bool (a == b))
      | .neq => some (.bool (a != b))
      | .lss => some (.bool (decide (a < b)))
      | .leq => some (.bool (decide (a ≤ b)))
      | .gtr => some (.bool (decide (a > b)))
      | .geq => some (.bool (decide (a ≥ b)))
      | _ => none
      else none
  | .str a, .str b =>
    match op with
    | .add => if a.length + b.length ≤ 9223372036854775807 then some (.str (a ++ b)) else none
    | .eql => some (.bool (a == b))
    | .neq => some (.bool (!(a == b)))
    | .lss => some (.bool (Go.Op.bytesLess a b))
    | .leq => some (.bool (Go.Op.bytesLess a b || a == b))
    | .gtr => some (.bool (!(Go.Op.bytesLess a b || a == b)))
    | .geq => some (.bool (!Go.Op.bytesLess a b))
    | _ => none
  | _, _ => none

/-- Are two plain cells of a kind equal? -/
def cellEqK (k : CK) (a b : AV) : Option Bool :=
  match k, a, b with
  | .int, .int k a, .int k' b => if k = k' then some (a == b) else none
  | .str, .str a, .str b => some (a == b)
  | .bool, .bool a, .bool b => some (a == b)
  | _, _, _ => none

def cellsEq : List CK → List AV → List AV → Option Bool
  | [], [], [] => some true
  | k :: ks, a :: as, b :: bs => match cellEqK k a b with
    | some true => cellsEq ks as bs
    | some false => if as.length = ks.length ∧ bs.length = ks.length then some false else none
    | none => none
  | _, _, _ => none

def evEq (q : EqK) (x y : AV) : Option Bool :=
  match q, x, y with
  | .scal, .bool a, .bool b => some (a == b)
  | .agg ks, .agg a, .agg b => cellsEq ks a b
  | .ptr, .nilptr, .nilptr => some true
  | .ptr, .nilptr, .ptr _ _ => some false
  | .ptr, .ptr _ _, .nilptr => some false
  | .ptr, .nilptr, .vptr _ _ => some false
  | .ptr, .vptr _ _, .nilptr => some false
  | .slice, .nilslice, .nilslice => some true
  | .slice, .nilslice, .slice _ _ _ => some false
  | .slice, .slice _ _ _, .nilslice => some false
  | .slice, .nilslice, .mslice _ _ _ _ => some false
  | .slice, .mslice _ _ _ _, .nilslice => some false
  | .map, .nilmap, .nilmap => some true
  | .map, .nilmap, .map _ => some false
  | .map, .map _, .nilmap => some false
  | .func, .nilfunc, .nilfunc => some true
  | .func, .nilfunc, .func _ _ _ => some false
  | .func, .func _ _ _, .nilfunc => some false
  | .iface, .niliface, .niliface => some true
  | .iface, .niliface, .iface _ _ => some false
  | .iface, .iface _ _, .niliface => some false
  | .iface, .niliface, .anyiface => some false
  | .iface, .anyiface, .niliface => some false
  | _, _, _ => none

def evUn (op : UnOp) (x : AV) : Option AV :=
  match op, x with
  | .neg, .int k n => some (.int k (k.wrap (0 - n)))
  | .xor, .int k n => some (.int k (k.wrap (BitVec.ofInt k.bits (if k.signed then -1 else k.max) ^^^ BitVec.ofInt k.bits n).toNat))
  | .not, .bool b => some (.bool !b)
  | _, _ => none

/-- The length of what can be ranged, appended or copied. -/
def AV.count : AV → Option Nat
  | .str s => some s.length
  | .nilslice => some 0
  | .slice _ n _ => some n
  | .mslice _ _ n _ => some n
  | _ => none

def byteCells (s : List UInt8) : List AV := s.map fun b => .int .u8 b.toNat

/-- All cells of a slice (or of a string, as bytes). -/
def cellsOf (s : St) (esz : Nat) : AV → Option (List AV)
  | .str b => if esz = 1 then some (byteCells b) else none
  | .nilslice => some []
  | .slice cs n _ => if cs.length = n * esz then some cs else none
  | .mslice id off n _ => match s.get id with
    | some (.cells _ cs) => sub cs off (n * esz)
    | _ => none
  | _ => none

def loadA (s : St) (agg : Bool) (n : Nat) : AV → Option AV
  | .ptr id off => match s.get id with
    | some (.cells _ cs) => (sub cs off n).bind (ofCells agg)
    | _ => none
  | .vptr cs off => (sub cs off n).bind (ofCells agg)
  | _ => none

def storeA (s : St) (n : Nat) (a x : AV) : Option St :=
  match a with
  | .ptr id off => match s.get id with
    | some (.cells ty cs) => if x.cells.length = n ∧ x.cells.all AV.one = true then (patch cs off x.cells).map fun cs => s.set id (.cells ty cs) else none
    | _ => none
  | _ => none

/-- a slice's bounds: low, high (checked against the length), max -/
def bounds (n : Nat) (lo hi : Option AV) : Option (Nat × Nat) :=
  match hi with
  | none => match lo with
    | none => some (0, n)
    | some (.int _ l) => if 0 ≤ l ∧ l ≤ n then some (l.toNat, n) else none
    | _ => none
  | some (.int _ h) => if 0 ≤ h ∧ h ≤ n then
      match lo with
      | none => some (0, h.toNat)
      | some (.int _ l) => if 0 ≤ l ∧ l ≤ h then some (l.toNat, h.toNat) else none
      | _ => none
    else none
  | _ => none

def sliceA (esz : Nat) (x : AV) (lo hi mx : Option AV) : Option AV :=
  match x with
  | .nilslice => match mx with
    | none => (bounds 0 lo hi).map fun _ => .nilslice
    | some _ => none
  | .slice cs n own =>
    if cs.length = n * esz then
      (bounds n lo hi).bind fun (l, h) =>
        match mx with
        | none =>
          some (.slice ((cs.drop (l * esz)).take ((h - l) * esz)) (h - l) (if h = n ∧ l < n then own else .no))
        | some (.int _ m) => if m = h ∧ hi.isSome then some (.slice ((cs.drop (l * esz)).take ((h - l) * esz)) (h - l) .full) else none
        | _ => none
    else none
  | .mslice id off n cap => match mx with
    | none => (bounds n lo hi).bind fun (l, h) =>
      match cap with
      | some c => some (.mslice id (if c = l then off else off + l * esz) (h - l) (some (c - l)))
      | none => if l < n then some (.mslice id (off + l * esz) (h - l) none) else none
    | some _ => none
  | _ => none

def sliceArr (esz n : Nat) (x : AV) (lo hi mx : Option AV) : Option AV :=
  match x, mx with
  | .ptr id off, none => (bounds n lo hi).map fun (l, h) => .mslice id (if n = l then off else off + l * esz) (h - l) (some (n - l))
  | .vptr cs off, none => (bounds n lo hi).bind fun (l, h) => if l < n then (sub cs (off + l * esz) ((h - l) * esz)).map fun cs => .slice cs (h - l) .no else none
  | _, _ => none

def mapFind (kk : CK) (k : AV) : List (AV × AV) → Option (Option AV)
  | [] => some none
  | (j, v) :: es => match cellEqK kk k j with
    | some true => some (some v)
    | some false => mapFind kk k es
    | none => none

def mapPut (kk : CK) (k v : AV) : List (AV × AV) → Option (List (AV × AV))
  | [] => some [(k, v)]
  | (j, u) :: es => match cellEqK kk k j with
    | some true => some ((k, v) :: es)
    | some false => (mapPut kk k v es).map ((j, u) :: ·)
    | none => none

def entriesOf (s : St) : AV → Option (List (AV × AV))
  | .nilmap => some []
  | .map id => match s.get id with
    | some (.map es) => some es
    | _ => none
  | _ => none

def fold2 (f : AV → AV → Option AV) : AV → List AV → Option AV
  | a, [] => some a
  | a, b :: bs => (f a b).bind fun c => fold2 f c bs

def min2 : AV → AV → Option AV
  | .int k x, .int _ y => some (.int k (if y < x then y else x))
  | _, _ => none
def max2 : AV → AV → Option AV
  | .int k x, .int _ y => some (.int k (if y > x then y else x))
  | _, _ => none

def room : Nat := 2 ^ 47

def appendA (s : St) (ty : TypeId) (esz bytes : Nat) (x y : AV) : Option (AV × St) :=
  match cellsOf s esz y, y.count with
  | some new, some m => if new.all AV.one = false then none else
    let new := new.map AV.strip
    match x with
    | .nilslice =>
      if m = 0 then some (.nilslice, s) else
      if m * bytes ≤ room then some (.slice new m (.tok s.next m), s.new (.tok ty m esz)) else none
    | .slice cs n own =>
      if cs.length = n * esz then
      if m = 0 then some (x, s) else
      if (n + m) * bytes ≤ room then
        match own with
        | .full => some (.slice (cs ++ new) (n + m) (.tok s.next (n + m)), s.new (.tok ty (n + m) esz))
        | .tok t e => match s.get t with
          | some (.tok ty' e' esz') => if ty' = ty ∧ e' = e ∧ esz' = esz then some (.slice (cs ++ new) (n + m) (.tok t (e + m)), s.set t (.tok ty (e + m) esz)) else none
          | _ => none
        | .no => none
      else none
      else none
    | .mslice _ _ n cap =>
      if m = 0 then some (x, s) else
      match cap, cellsOf s esz x with
      | some c, some old => if c = n then
          (if (n + m) * bytes ≤ room then some (.slice (old.map AV.strip ++ new) (n + m) (.tok s.next (n + m)), s.new (.tok ty (n + m) esz)) else none)
        else none
      | _, _ => none
    | _ => none
  | _, _ => none

def bytesOf : List AV → Option (List UInt8)
  | [] => some []
  | .int .u8 n :: cs => (bytesOf cs).map (UInt8.ofNat n.toNat :: ·)
  | _ :: _ => none

def copyA (s : St) (esz : Nat) (d x : AV) : Option (AV × St) :=
  match d, x.count, cellsOf s esz x with
  | .nilslice, some _, _ => some (.int .i64 0, s)
  | .mslice id off n _, some m, some cs => match s.get id with
    | some (.cells ty ds) => if cs.all AV.one = false then none else (patch ds off (cs.take (min m n * esz))).map fun ds => (.int .i64 (min m n : Nat), s.set id (.cells ty ds))
    | _ => none
  | _, _, _ => none

def iaddrA (esz : Nat) (arr : Option Nat) (x : AV) (i : Int) : Option AV :=
  match arr, x with
  | some n, .ptr id o => if 0 ≤ i ∧ i < n then some (.ptr id (o + i.toNat * esz)) else none
  | some n, .vptr cs o => if 0 ≤ i ∧ i < n then some (.vptr cs (o + i.toNat * esz)) else none
  | none, .slice cs n _ => if 0 ≤ i ∧ i < n then some (.vptr cs (i.toNat * esz)) else none
  | none, .mslice id o n _ => if 0 ≤ i ∧ i < n then some (.ptr id (o + i.toNat * esz)) else none
  | _, _ => none

def idxA (esz : Nat) (agg : Bool) (arr : Option Nat) (x : AV) (i : Int) : Option AV :=
  match arr, x with
  | none, .str b => if 0 ≤ i then (b[i.toNat]?).map fun c => .int .u8 c.toNat else none
  | some n, .agg cs => if 0 ≤ i ∧ i < n then (sub cs (i.toNat * esz) esz).bind (ofCells agg) else none
  | _, _ => none

def evOp (cx : Cx) (callee : Callee) (ρ : Env) (s : St) : IOp → Option (AV × St)
  | .mov x => (x.ev cx ρ).map (·, s)
  | .pick c a b => match c.ev cx ρ with
    | some (.bool t) => ((if t then a else b).ev cx ρ).map (·, s)
    | _ => none
  | .alloc t z => some (.ptr s.next 0, s.new (.cells (some t) z))
  | .box t x => (x.ev cx ρ).map fun v => (.ptr s.next 0, s.new (.cells (some t) v.cells))
  | .build z ps => (fillA cx ρ z ps).map fun cs => (.agg cs, s)
  | .bslice z len ps => (fillA cx ρ z ps).map fun cs => (.slice (cs.map AV.strip) len .full, s)
  | .load agg n a => ((a.ev cx ρ).bind (loadA s agg n)).map (·, s)
  | .store n a x => (a.ev cx ρ).bind fun a => (x.ev cx ρ).bind fun x => (storeA s n a x).map (AV.undef, ·)
  | .nilChk x => match x.ev cx ρ with
    | some (.ptr id off) => some (.ptr id off, s)
    | some (.vptr cs off) => some (.vptr cs off, s)
    | some (.func f a b) => some (.func f a b, s)
    | _ => none
  | .bin op x y => (x.ev cx ρ).bind fun a => (y.ev cx ρ).bind fun b => (evBin op a b).map (·, s)
  | .eqv neg q x y => (x.ev cx ρ).bind fun a => (y.ev cx ρ).bind fun b => (evEq q a b).map fun r => (.bool (if neg then !r else r), s)
  | .un op x => ((x.ev cx ρ).bind (evUn op)).map (·, s)
  | .i2i k x => match x.ev cx ρ with
    | some (.int _ n) => some (.int k (k.wrap n), s)
    | _ => none
  | .same x => match x.ev cx ρ with
    | some (.str t) => some (.str t, s)
    | _ => none
  | .b2s x => match x.ev cx ρ with
    | some (.nilslice) => some (.str [], s)
    | some (.str _) => none
    | some v => ((cellsOf s 1 v).bind bytesOf).map fun b => (.str b, s)
    | none => none
  | .s2b x => match x.ev cx ρ with
    | some (.str t) => some (.mslice s.next 0 t.length none, s.new (.cells none (byteCells t)))
    | _ => none
  | .i2s x => match x.ev cx ρ with
    | some (.int _ n) => some (.str (Utf8.encode n).data.toList, s)
    | _ => none
  | .slcs x lo hi => match x.ev cx ρ with
    | some (.str b) => (evo cx ρ lo).bind fun lo => (evo cx ρ hi).bind fun hi => (bounds b.length lo hi).map fun (l, h) => (.str ((b.drop l).take (h - l)), s)
    | _ => none
  | .slc esz x lo hi mx => (x.ev cx ρ).bind fun x => (evo cx ρ lo).bind fun lo => (evo cx ρ hi).bind fun hi => (evo cx ρ mx).bind fun mx =>
      (sliceA esz x lo hi mx).map (·, s)
  | .slca esz n x lo hi mx => (x.ev cx ρ).bind fun x => (evo cx ρ lo).bind fun lo => (evo cx ρ hi).bind fun hi => (evo cx ρ mx).bind fun mx =>
      (sliceArr esz n x lo hi mx).map (·, s)
  | .faddr off x => match x.ev cx ρ with
    | some (.ptr id o) => some (.ptr id (o + off), s)
    | some (.vptr cs o) => some (.vptr cs (o + off), s)
    | _ => none
  | .fld off n agg x => match x.ev cx ρ with
    | some (.agg cs) => ((sub cs off n).bind (ofCells agg)).map (·, s)
    | _ => none
  | .iaddr esz arr x i => (x.ev cx ρ).bind fun x => (i.ev cx ρ).bind fun i => match i with
    | .int _ i => (iaddrA esz arr x i).map (·, s)
    | _ => none
  | .idx esz agg arr x i => (x.ev cx ρ).bind fun x => (i.ev cx ρ).bind fun i => match i with
    | .int _ i => (idxA esz agg arr x i).map (·, s)
    | _ => none
  | .look kk z ok m k => (m.ev cx ρ).bind fun m => (k.ev cx ρ).bind fun k =>
      (entriesOf s m).bind fun es => (mapFind kk k es).map fun (r : Option AV) =>
          (if ok then .tuple [r.getD z, .bool r.isSome] else r.getD z, s)
  | .mupd kk m k v => (m.ev cx ρ).bind fun m => (k.ev cx ρ).bind fun k => (v.ev cx ρ).bind fun v =>
      match m with
      | .map id => match s.get id with
        | some (.map es) => (mapPut kk k v.strip es).map fun es => (AV.undef, s.set id (.map es))
        | _ => none
      | _ => none
  | .mkmap => some (.map s.next, s.new (.map []))
  | .mkif t x => (x.ev cx ρ).map fun v => (.iface t v.strip, s)
  | .mkfn f a b => (evs cx ρ a).bind fun a => (evs cx ρ b).map fun b => (.func f a b, s)
  | .mkslice bytes z len cap => (len.ev cx ρ).bind fun l => (cap.ev cx ρ).bind fun c => match l, c with
    | .int .i64 l, .int .i64 c => if 0 ≤ l ∧ l ≤ c ∧ c.toNat * bytes ≤ room then
        some (.mslice s.next 0 l.toNat (some c.toNat), s.new (.cells none ((List.replicate c.toNat z).flatten)))
      else none
    | _, _ => none
  | .extr x i => match x.ev cx ρ with
    | some (.tuple vs) => vs[i]?.map (·, s)
    | _ => none
  | .lens x => match x.ev cx ρ with
    | some (.str b) => some (.int .i64 b.length, s)
    | _ => none
  | .lenv x => match x.ev cx ρ with
    | some (.nilslice) => some (.int .i64 0, s)
    | some (.slice _ n _) => some (.int .i64 n, s)
    | some (.mslice _ _ n _) => some (.int .i64 n, s)
    | _ => none
  | .lenm x => ((x.ev cx ρ).bind (entriesOf s)).map fun es => (.int .i64 es.length, s)
  | .mn xs => (evs cx ρ xs).bind fun vs => match vs with
    | v :: vs => (fold2 min2 v vs).map (·, s)
    | [] => none
  | .mx xs => (evs cx ρ xs).bind fun vs => match vs with
    | v :: vs => (fold2 max2 v vs).map (·, s)
    | [] => none
  | .app ty esz bytes a b => (a.ev cx ρ).bind fun a => (b.ev cx ρ).bind fun b => appendA s ty esz bytes a b
  | .copy esz a b => (a.ev cx ρ).bind fun a => (b.ev cx ρ).bind fun b => copyA s esz a b
  | .call f xs => match f.ev cx ρ with
    | some (.func g a b) => (evs cx ρ xs).bind fun vs => callee g (a ++ vs ++ b) s
    | _ => none
  | .bad => none

def wants (ρ : Env) : Option (Nat × Bool) → Bool
  | none => true
  | some (t, want) => match ρ.get t with
    | .bool b => b == want
    | _ => false

def Env.put (ρ : Env) (d : Option Nat) (v : AV) : Env := match d with
  | some d => ρ.set d v
  | none => ρ

def evOper (cx : Cx) (callee : Callee) (o : IOper) (ρ : Env) (s : St) : Option (Env × St) :=
  if wants ρ o.guard then (evOp cx callee ρ s o.op).map fun (v, s) => (ρ.put o.dst v, s)
  else some (ρ.put o.dst AV.undef, s)

def evOps (cx : Cx) (callee : Callee) : List IOper → Env → St → Option (Env × St)
  | [], ρ, s => some (ρ, s)
  | o :: os, ρ, s => (evOper cx callee o ρ s).bind fun (ρ, s) => evOps cx callee os ρ s

inductive Sig where
  | normal
  | exit (id : Nat)
  | ret
  deriving DecidableEq, Repr, Inhabited

/-- Do all numbers of blocks and tokens in it meet p? -/
def Own.al (p : Nat → Bool) : Own → Bool
  | .tok t _ => p t
  | _ => true

mutual
def AV.al (p : Nat → Bool) : AV → Bool
  | .ptr id _ => p id
  | .vptr cs _ => alAll p cs
  | .slice cs _ own => own.al p && alAll p cs
  | .mslice id _ _ _ => p id
  | .map id => p id
  | .func _ a b => alAll p a && alAll p b
  | .iface _ v => v.al p
  | .agg cs => alAll p cs
  | .tuple vs => alAll p vs
  | .bool _ => true
  | .int _ _ => true
  | .str _ => true
  | .nilptr => true
  | .nilslice => true
  | .nilmap => true
  | .nilfunc => true
  | .niliface => true
  | .anyiface => true
def alAll (p : Nat → Bool) : List AV → Bool
  | [] => true
  | a :: as => a.al p && alAll p as
end

def below (n : Nat) (i : Nat) : Bool := decide (i < n)

/-- what a function's results are, behind the call: the tokens from n on are given up -/
def AV.drop0 (n : Nat) : AV → AV
  | .slice cs k (.tok t e) => if t < n then .slice cs k (.tok t e) else .slice cs k .no
  | v => v
def AV.drop1 (n : Nat) : AV → AV
  | .agg cs => .agg (cs.map (AV.drop0 n))
  | v => v.drop0 n
def AV.drop2 (n : Nat) : AV → AV
  | .tuple vs => .tuple (vs.map (AV.drop1 n))
  | v => v.drop1 n

def results (s : St) (ρ : Env) : List IRes → Option (List AV)
  | [] => some []
  | .tmp t :: rs => (results s ρ rs).map (ρ.get t :: ·)
  | .cell t agg n :: rs => (loadA s agg n (ρ.get t)).bind fun v => (results s ρ rs).map (v :: ·)

def tupled : List AV → AV
  | [v] => v
  | vs => .tuple vs

/-- The state behind a call: the very state before it, if nothing old was written and nothing new is handed back. -/
def leave (s s' : St) (v : AV) : AV × St :=
  if s.next ≤ s'.low ∧ (v.drop2 s.next).al (below s.next) = true then (v.drop2 s.next, s) else (v, { s' with low := min s.low s'.low })

/-- Does an operation look at nothing but its operands, and lay nothing? -/
def IOp.plain : IOp → Bool
  | .mov _ | .pick .. | .build .. | .bslice .. | .nilChk _ | .bin .. | .eqv .. | .un .. | .i2i .. | .same _ | .i2s _ | .slcs .. | .slc .. | .slca .. | .faddr .. | .fld ..
  | .iaddr .. | .idx .. | .mkif .. | .mkfn .. | .extr .. | .mn _ | .mx _ | .lens _ | .lenv _ => true
  | _ => false

def IOp.lays : IOp → Bool
  | .alloc _ _ | .box _ _ => true
  | _ => false

/-- What an operation does with the state: it lays a block; reads one; writes one; reads whatever; writes whatever. -/
inductive Deed where
  | lay (id : Nat)
  | rd (id : Nat)
  | wr (id : Nat)
  | rdAll
  | wrAll
  deriving DecidableEq, Repr, Inhabited

/-- May the two come in either order (the first stands first in the text)? -/
def Deed.free : Deed → Deed → Bool
  | .wrAll, .lay _ => true
  | .wrAll, _ => false
  | _, .lay _ => true
  | .lay i, .rd j => decide (i ≠ j)
  | .lay i, .wr j => decide (i ≠ j)
  | .rd i, .wr j => decide (i ≠ j)
  | .wr i, .rd j => decide (i ≠ j)
  | .wr i, .wr j => decide (i ≠ j)
  | .rd _, .rd _ => true
  | .rd _, .rdAll => true
  | .rdAll, .rd _ => true
  | .rdAll, .rdAll => true
  | _, _ => false

def freeAll (mask : Nat) (d : Deed) : List (Nat × Deed) → Bool
  | [] => true
  | (j, e) :: ds => (mask.testBit j || e.free d) && freeAll mask d ds

/-- The operation by itself: its value, the state behind it, and its deed if it has one. -/
def evDeed (cx : Cx) (callee : Callee) (ρ : Env) (s : St) (o : IOp) : Option (AV × St × Option Deed) :=
  if o.plain then (evOp cx callee ρ s o).map fun (v, _) => (v, s, none)
  else if o.lays then (evOp cx callee ρ s o).map fun (v, s') => (v, s', some (.lay s.next))
  else match o with
    | .load _ _ a => (evOp cx callee ρ s o).map fun (v, _) => (v, s, match a.ev cx ρ with
      | some (.ptr id _) => some (.rd id)
      | _ => none)
    | .store _ a _ => (evOp cx callee ρ s o).map fun (v, s') => (v, s', match a.ev cx ρ with
      | some (.ptr id _) => some (.wr id)
      | _ => some .wrAll)
    | o => (evOp cx callee ρ { s with low := s.next } o).map fun (v, s') =>
        if s'.next = s.next ∧ s'.low = s.next then (v, s, some .rdAll) else (v, { s' with low := min s.low s'.low }, some .wrAll)

/-- A region that draws its order, in the text's order; each operation has a mask of what surely comes before it. -/
def evDraw (cx : Cx) (callee : Callee) : List (IOper × Nat) → Nat → List (Nat × Deed) → Env → St → Option (Env × St)
  | [], _, _, ρ, s => some (ρ, s)
  | (o, mask) :: os, i, ds, ρ, s =>
    if wants ρ o.guard then (evDeed cx callee ρ s o.op).bind fun (v, s', d) => match d with
      | none => evDraw cx callee os (i + 1) ds (ρ.put o.dst v) s'
      | some d => if freeAll mask d ds then evDraw cx callee os (i + 1) ((i, d) :: ds) (ρ.put o.dst v) s' else none
    else evDraw cx callee os (i + 1) ds (ρ.put o.dst AV.undef) s

abbrev Ex := ICode → Env → St → Option (Sig × Env × St)

def callWith (cx : Cx) (ex : Ex) : Callee := fun f args s =>
  match cx.ext f with
  | some g => g args s
  | none => (cx.fns f).bind fun fn =>
    (ex fn.body (args ++ List.replicate (fn.ntmps - args.length) AV.undef) { s with low := s.next }).bind fun (sig, ρ, s') =>
      match sig with
      | .exit _ => none
      | _ => (results s' ρ fn.results).map fun vs => leave s s' (tupled vs)

def exec (cx : Cx) : Nat → Ex
  | 0, _, _, _ => none
  | k + 1, c, ρ, s =>
    match c with
    | .skip => some (.normal, ρ, s)
    | .region ops => (evOps cx (callWith cx (exec cx k)) ops ρ s).map fun (ρ, s) => (.normal, ρ, s)
    | .dregion ops => (evDraw cx (callWith cx (exec cx k)) ops 0 [] ρ s).map fun (ρ, s) => (.normal, ρ, s)
    | .seq a b => (exec cx k a ρ s).bind fun (g, ρ, s) => match g with
      | .normal => exec cx k b ρ s
      | g => some (g, ρ, s)
    | .cond x a b => match x.ev cx ρ with
      | some (.bool t) => exec cx k (if t then a else b) ρ s
      | _ => none
    | .block id b => (exec cx k b ρ s).map fun (g, ρ, s) => (if g = .exit id then .normal else g, ρ, s)
    | .loop b => (exec cx k b ρ s).bind fun (g, ρ, s) => match g with
      | .normal => exec cx k (.loop b) ρ s
      | g => some (g, ρ, s)
    | .exit id => some (.exit id, ρ, s)
    | .scope b => exec cx k b ρ s
    | .ret => some (.ret, ρ, s)

def callF (cx : Cx) (k : Nat) : Callee := callWith cx (exec cx k)

end Fw
