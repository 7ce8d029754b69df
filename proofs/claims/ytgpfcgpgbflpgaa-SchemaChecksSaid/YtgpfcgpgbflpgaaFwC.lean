/- The compiled form: a function of the translation, its types' sizes and places resolved. -/
import Derived.Test.YtgpfcgpgbflpgaaFwE
namespace Fw
open Go

def ofScalar : Value → Option AV
  | .bool b => some (.bool b)
  | .int k n => some (.int k n)
  | .string s => some (.str s.data.toList)
  | .pointer none => some .nilptr
  | .slice none 0 0 => some .nilslice
  | .map none => some .nilmap
  | .nilFunc => some .nilfunc
  | .nilIface => some .niliface
  | _ => none

def ofScalars : List Value → Option (List AV)
  | [] => some []
  | v :: vs => (ofScalar v).bind fun a => (ofScalars vs).map (a :: ·)

def ofConst : Value → Option AV
  | .agg cs => (ofScalars cs.toList).map .agg
  | .tuple vs => if vs.isEmpty then some (.tuple []) else none
  | v => ofScalar v

def cX : Operand → Option IX
  | .tmp t => some (.tmp t)
  | .const v => (ofConst v).map .const
  | .global g => some (.glob g)
  | .func f => some (.const (.func f [] []))

def cXs : List Operand → Option (List IX)
  | [] => some []
  | x :: xs => (cX x).bind fun a => (cXs xs).map (a :: ·)

def cXo : Option Operand → Option (Option IX)
  | none => some none
  | some x => (cX x).map some

def tsz (P : Program) (t : TypeId) : Option Nat := (P.info? t).map (·.size)
def tby (P : Program) (t : TypeId) : Option Nat := (P.info? t).map (·.bytes)
def tagg (P : Program) (t : TypeId) : Option Bool := match P.underlying t with
  | some (.struct _) => some true
  | some (.array _ _) => some true
  | some _ => some false
  | none => none
/-- The zero value's cells, as many as the type has. -/
def tzero (P : Program) (t : TypeId) : Option AV :=
  (P.info? t).bind fun i => i.zero.bind fun z => (ofConst z).bind fun a => if a.cells.length = i.size ∧ z.cells.size = i.size then some a else none

def plainGo (P : Program) (f : TypeId → Option (List CK)) : List Field → Nat → Option (List CK)
  | [], _ => some []
  | x :: xs, off => if x.name = "_" ∨ x.offset ≠ off then none else (f x.type).bind fun k => if (P.info? x.type).map (·.size) = some k.length then (plainGo P f xs (off + k.length)).map (k ++ ·) else none

/-- The kinds of the cells of a type that is compared cell by cell. -/
def plainEq (P : Program) : Nat → TypeId → Option (List CK)
  | 0, _ => none
  | d + 1, t => match P.underlying t with
    | some (.int _) => some [.int]
    | some .bool => some [.bool]
    | some .string => some [.str]
    | some (.struct fs) => if P.stoodInHeld t then none else plainGo P (plainEq P d) fs.toList 0
    | _ => none

def isNilIface : Operand → Bool
  | .const .nilIface => true
  | _ => false

def keyOk (P : Program) (t : TypeId) : Option CK := match P.underlying t with
  | some (.int _) => some .int
  | some .string => some .str
  | some .bool => some .bool
  | _ => none

def cParts (place : Nat → Option (Nat × Nat)) : List (Nat × Operand) → Option (List (Nat × Nat × IX))
  | [] => some []
  | (i, x) :: ps => (place i).bind fun (off, n) => (cX x).bind fun a => (cParts place ps).map ((off, n, a) :: ·)

def cBin (P : Program) (op : BinOp) (t : TypeId) (x y : Operand) : Option IOp :=
  (cX x).bind fun a => (cX y).bind fun b =>
  if op = .eql ∨ op = .neq then
    match P.underlying t with
    | some (.int _) => some (.bin op a b)
    | some .string => some (.bin op a b)
    | some .bool => some (.eqv (op = .neq) .scal a b)
    | some (.struct _) => if P.eqGuardType P.depth t then none else (plainEq P 20 t).map fun ks => .eqv (op = .neq) (.agg ks) a b
    | some (.pointer _) => some (.eqv (op = .neq) .ptr a b)
    | some (.slice _) => some (.eqv (op = .neq) .slice a b)
    | some (.map _ _) => some (.eqv (op = .neq) .map a b)
    | some (.func _ _ _) => some (.eqv (op = .neq) .func a b)
    | some (.interface _) => if isNilIface x || isNilIface y then some (.eqv (op = .neq) .iface a b) else none
    | _ => none
  else some (.bin op a b)

def cConv (P : Program) (src dst : TypeId) (x : Operand) : Option IOp :=
  (cX x).bind fun a =>
  match P.underlying src, P.underlying dst with
  | some (.int _), some (.int k) => some (.i2i k a)
  | some .string, some .string => some (.same a)
  | some (.slice e), some .string => match P.underlying e with
    | some (.int .u8) => some (.b2s a)
    | _ => none
  | some .string, some (.slice e) => match P.underlying e with
    | some (.int .u8) => some (.s2b a)
    | _ => none
  | some (.int _), some .string => some (.i2s a)
  | _, _ => none

def cSlice (P : Program) (t : TypeId) (x : Operand) (lo hi mx : Option Operand) : Option IOp :=
  (cX x).bind fun a => (cXo lo).bind fun lo => (cXo hi).bind fun hi => (cXo mx).bind fun mx =>
  match P.underlying t with
  | some .string => match mx with
    | none => some (.slcs a lo hi)
    | some _ => none
  | some (.slice e) => (tsz P e).map fun n => .slc n a lo hi mx
  | some (.array n e) => (tsz P e).map fun k => .slca k n a lo hi mx
  | some (.pointer r) => match P.underlying r with
    | some (.array n e) => (tsz P e).map fun k => .slca k n a lo hi mx
    | _ => none
  | _ => none

def cBuiltin (P : Program) (b : Builtin) (ts : Array TypeId) (args : Array Operand) : Option IOp :=
  (cXs args.toList).bind fun xs =>
  match b, xs with
  | .len, [x] => match (ts[0]?).bind P.underlying with
    | some .string => some (.lens x)
    | some (.slice _) => some (.lenv x)
    | some (.map _ _) => some (.lenm x)
    | some (.array n _) => some (.mov (.const (.int .i64 n)))
    | _ => none
  | .min, x :: xs => some (.mn (x :: xs))
  | .max, x :: xs => some (.mx (x :: xs))
  | .append, [x, y] => match (ts[0]?).bind P.underlying, (ts[1]?).bind P.underlying with
    | some (.slice e), some d => match d with
      | .int _ => none
      | _ => (tsz P e).bind fun n => (tby P e).bind fun k => (tzero P e).bind fun _ => if n = 0 ∨ k = 0 then none else some (.app e n k x y)
    | _, _ => none
  | .copy, [x, y] => match (ts[0]?).bind P.underlying with
    | some (.slice e) => (tsz P e).map fun n => .copy n x y
    | _ => none
  | _, _ => none

def cOp (P : Program) : Op → Option IOp
  | .move x => (cX x).map .mov
  | .assign x => (cX x).map .mov
  | .pick c a b => (cX c).bind fun c => (cX a).bind fun a => (cX b).map fun b => .pick c a b
  | .alloc t => (tzero P t).map fun z => .alloc t z.cells
  | .box t x => (cX x).map (.box t)
  | .build t ps => (tzero P t).bind fun z => match P.underlying t with
    | some (.struct fs) => (fs.toList.mapM fun f => (P.info? f.type).map fun i => (f.offset, i.size)).bind fun pl => (cParts (fun i => pl[i]?) ps.toList).map fun ps => .build z.cells ps
    | some (.array _ e) => (tsz P e).bind fun n => (cParts (fun i => some (i * n, n)) ps.toList).map fun ps => .build z.cells ps
    | _ => none
  | .buildSlice t len ps => match P.underlying t with
    | some (.slice e) => (tsz P e).bind fun n => (tzero P e).bind fun z => if len * n > 2 ^ 24 then none else
      (cParts (fun i => some (i * n, n)) ps.toList).map fun ps => .bslice ((List.replicate len z.cells).flatten) len ps
    | _ => none
  | .load t a => (cX a).bind fun a => (tagg P t).bind fun g => (tsz P t).map fun n => .load g n a
  | .store t a x => (cX a).bind fun a => (cX x).bind fun x => (tsz P t).map fun n => .store n a x
  | .nilCheck x => (cX x).map .nilChk
  | .binOp op t x y _ => cBin P op t x y
  | .unOp op _ x => (cX x).map (.un op)
  | .convert s d x => cConv P s d x
  | .slice t x lo hi mx => cSlice P t x lo hi mx
  | .fieldAddr t x i => match P.underlying t with
    | some (.struct fs) => (fs[i]?).bind fun f => (tsz P f.type).bind fun n => if n = 0 then none else (cX x).map (.faddr f.offset)
    | _ => none
  | .field t x i => match P.underlying t with
    | some (.struct fs) => (fs[i]?).bind fun f => (tsz P f.type).bind fun n => (tagg P f.type).bind fun g => (cX x).map (.fld f.offset n g)
    | _ => none
  | .indexAddr t x i => (cX x).bind fun a => (cX i).bind fun i => match P.underlying t with
    | some (.array n e) => (tsz P e).map fun k => .iaddr k (some n) a i
    | some (.slice e) => (tsz P e).map fun k => .iaddr k none a i
    | _ => none
  | .index t x i => (cX x).bind fun a => (cX i).bind fun i => match P.underlying t with
    | some (.array n e) => (tsz P e).bind fun k => (tagg P e).map fun g => .idx k g (some n) a i
    | some .string => some (.idx 1 false none a i)
    | _ => none
  | .lookup t m k ok => match P.underlying t with
    | some (.map kt e) => (keyOk P kt).bind fun kk => (tzero P e).bind fun z => (cX m).bind fun m => (cX k).map fun k => .look kk z ok m k
    | _ => none
  | .mapUpdate t m k v => match P.underlying t with
    | some (.map kt _) => (keyOk P kt).bind fun kk => (cX m).bind fun m => (cX k).bind fun k => (cX v).map fun v => .mupd kk m k v
    | _ => none
  | .insert t m k v => match P.underlying t with
    | some (.map kt _) => (keyOk P kt).bind fun kk => (cX m).bind fun m => (cX k).bind fun k => (cX v).map fun v => .mupd kk m k v
    | _ => none
  | .makeMap _ none => some .mkmap
  | .makeInterface t x => match P.underlying t with
    | some (.interface _) => none
    | some _ => (cX x).map (.mkif t)
    | none => none
  | .makeFunc (.func f) a b => (cXs a.toList).bind fun a => (cXs b.toList).map fun b => .mkfn f a b
  | .makeSlice t l c => match P.underlying t with
    | some (.slice e) => (tzero P e).bind fun z => (tsz P e).bind fun n => (tby P e).bind fun k => if n = 0 ∨ k = 0 then none else (cX l).bind fun l => (cX c).map fun c => .mkslice k z.cells l c
    | _ => none
  | .extract x i => (cX x).map (.extr · i)
  | .call c => match c.callee with
    | .value f => (cX f).bind fun f => (cXs c.args.toList).map fun xs => .call f xs
    | .builtin b => cBuiltin P b c.argTypes c.args
    | .invoke _ _ => none
  | _ => none

def cGuard (ops : Array Oper) : Option (Nat × Bool) → Option (Option (Nat × Bool))
  | none => some none
  | some (j, want) => ((ops[j]?).bind (·.dst)).map fun t => some (t, want)

/-- What has no form in the machine ends it without an answer. -/
def cOpB (P : Program) (o : Op) : Option IOp := some ((cOp P o).getD .bad)

theorem cOpB_cases {P : Program} {o : Op} {io : IOp} (h : cOpB P o = some io) : cOp P o = some io ∨ io = .bad := by
  unfold cOpB at h
  cases e : cOp P o with
  | none => rw [e] at h; cases h; exact .inr rfl
  | some x => rw [e] at h; exact .inl h

def cOper (P : Program) (ops : Array Oper) (o : Oper) : Option IOper :=
  (cOpB P o.op).bind fun op => (cGuard ops o.guard).map fun g => { dst := o.dst, op, guard := g }

def cOpers (P : Program) (ops : Array Oper) : List Oper → Option (List IOper)
  | [] => some []
  | o :: os => (cOper P ops o).bind fun i => (cOpers P ops os).map (i :: ·)

/-- What surely comes before each operation: a mask each. -/
def maskOf (acc : List Nat) (after : List Edge) : Nat :=
  after.foldl (fun m e => if Region.binds .any e then m ||| 2 ^ e.on ||| acc.getD e.on 0 else m) 0

def cMasks : List Nat → List Oper → List Nat
  | acc, [] => acc
  | acc, o :: os => cMasks (acc ++ [maskOf acc o.after.toList]) os

/- what an operation looks at -/
def IX.tmps : IX → List Nat
  | .tmp t => [t]
  | _ => []
def oTmps : Option IX → List Nat
  | none => []
  | some x => x.tmps
def IOp.tmps : IOp → List Nat
  | .mov x | .box _ x | .nilChk x | .un _ x | .i2i _ x | .same x | .b2s x | .s2b x | .i2s x | .faddr _ x | .fld _ _ _ x | .mkif _ x | .extr x _ | .lens x | .lenv x | .lenm x => x.tmps
  | .pick c a b => c.tmps ++ a.tmps ++ b.tmps
  | .alloc _ _ | .mkmap | .bad => []
  | .build _ ps | .bslice _ _ ps => ps.flatMap (·.2.2.tmps)
  | .load _ _ a => a.tmps
  | .store _ a x | .bin _ a x | .eqv _ _ a x | .iaddr _ _ a x | .idx _ _ _ a x | .app _ _ _ a x | .copy _ a x => a.tmps ++ x.tmps
  | .slcs x lo hi => x.tmps ++ oTmps lo ++ oTmps hi
  | .slc _ x lo hi m3 | .slca _ _ x lo hi m3 => x.tmps ++ oTmps lo ++ oTmps hi ++ oTmps m3
  | .look _ _ _ m k => m.tmps ++ k.tmps
  | .mupd _ m k v => m.tmps ++ k.tmps ++ v.tmps
  | .mkfn _ a b => a.flatMap IX.tmps ++ b.flatMap IX.tmps
  | .mkslice _ _ l c => l.tmps ++ c.tmps
  | .mn xs | .mx xs => xs.flatMap IX.tmps
  | .call f xs => f.tmps ++ xs.flatMap IX.tmps

def opTmps (o : Oper) : List Nat := o.op.operands.toList.filterMap fun
  | .tmp t => some t
  | _ => none
def gTmps : Option (Nat × Bool) → List Nat
  | none => []
  | some (t, _) => [t]
def dTmps : Option Nat → List Nat
  | none => []
  | some t => [t]
def namesOf (i : IOper) (o : Oper) : List Nat := i.op.tmps ++ opTmps o ++ gTmps i.guard ++ dTmps i.dst
def clash (d : Option Nat) (ns : List Nat) : Bool := match d with
  | some d => ns.contains d
  | none => false
/-- Two operations of which neither surely comes first have nothing to do with each other's temporaries; each waits for earlier ones alone. -/
def pairOk (xs : List (IOper × Oper)) (ms : List Nat) : Bool := (List.range xs.length).all fun j => match xs[j]? with
  | none => true
  | some y => (y.2.after.toList.all fun e => !Region.binds .any e || decide (e.on < j)) && (List.range j).all fun i => (ms.getD j 0).testBit i || match xs[i]? with
    | none => true
    | some x => !clash x.1.dst (namesOf y.1 y.2) && !clash y.1.dst (namesOf x.1 x.2)

def cCode (P : Program) : Code → Option ICode
  | .skip => some .skip
  | .region _ ops draw => (cOpers P ops ops.toList).bind fun is =>
    if draw then if pairOk (is.zip ops.toList) (cMasks [] ops.toList) then some (.dregion (is.zip (cMasks [] ops.toList))) else none else some (.region is)
  | .seq a b => (cCode P a).bind fun a => (cCode P b).map fun b => .seq a b
  | .cond c a b => (cX c).bind fun c => (cCode P a).bind fun a => (cCode P b).map fun b => .cond c a b
  | .block id b => (cCode P b).map (.block id)
  | .loop b => (cCode P b).map .loop
  | .exit id => some (.exit id)
  | .scope b => (cCode P b).map .scope
  | .label _ => some .skip
  | .ret => some .ret
  | _ => none

def cRes (P : Program) : ResultVar → Option IRes
  | .tmp t => some (.tmp t)
  | .cell a t => (tagg P t).bind fun g => (tsz P t).map fun n => .cell a g n

def cRess (P : Program) : List ResultVar → Option (List IRes)
  | [] => some []
  | r :: rs => (cRes P r).bind fun a => (cRess P rs).map (a :: ·)

def cFunc (P : Program) (fn : Func) : Option IFunc :=
  if fn.name = "runtime.NumGoroutine" then none else
  fn.body.bind fun c => (cCode P c).bind fun body => (cRess P fn.results.toList).map fun rs => { ntmps := fn.ntmps, results := rs, body }

end Fw
