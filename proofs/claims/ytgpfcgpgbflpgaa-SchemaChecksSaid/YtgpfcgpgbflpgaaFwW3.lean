/- The rules by which a rewriter computes what a piece of code comes to. -/
import Derived.Test.YtgpfcgpgbflpgaaFwW2
import Derived.Test.YtgpfcgpgbflpgaaFwR
import Derived.Attr
namespace Fw
open Go

section
variable {cx : Cx} {e : FE} {s : St}

/-- What follows a loop, kept out of a rewriter's sight. -/
class QB where
  q : Sig → FE → St → Prop
def WLoopB (cx : Cx) (b : ICode) (e : FE) (s : St) [i : QB] : Prop := WLoop cx b e s i.q
theorem WLoopB.of {cx : Cx} {b : ICode} {e : FE} {s : St} {Q : Sig → FE → St → Prop} (h : WLoop cx b e s Q) : @WLoopB cx b e s ⟨Q⟩ := h

def pifN (b : Bool) (p q : Prop) : Prop := pif b p q
@[go_sem, go_sem ↓] theorem pifN_true (p q : Prop) : pifN true p q = p := pif_true p q
@[go_sem, go_sem ↓] theorem pifN_false (p q : Prop) : pifN false p q = q := pif_false p q
@[go_sem low] theorem pifN_any (b : Bool) (p q : Prop) : pifN b p q = pif b p q := rfl
@[congr] theorem pifN_congr {b b' : Bool} {p q : Prop} (h : Unit → b = b') : pifN b p q = pifN b' p q := by rw [h ()]

@[go_sem ↓] theorem W_skip (Q : Sig → FE → St → Prop) : W cx .skip e s Q = Q .normal e s := rfl
@[go_sem ↓] theorem W_region (os : List IOper) (Q : Sig → FE → St → Prop) : W cx (.region os) e s Q = WO cx os e s fun e s => Q .normal e s := rfl
@[go_sem ↓] theorem W_dregion (os : List (IOper × Nat)) (Q : Sig → FE → St → Prop) : W cx (.dregion os) e s Q = WD cx os 0 [] e s fun e s => Q .normal e s := rfl
@[go_sem ↓] theorem W_seq (a b : ICode) (Q : Sig → FE → St → Prop) : W cx (.seq a b) e s Q = W cx a e s fun g e s => sqn g (W cx b e s Q) (Q g e s) := rfl
@[go_sem ↓] theorem W_cond (x : IX) (a b : ICode) (Q : Sig → FE → St → Prop) : W cx (.cond x a b) e s Q = oget (x.evF cx e) fun v => bcase v (W cx a e s Q) (W cx b e s Q) := rfl
@[go_sem ↓] theorem W_block (id : Nat) (b : ICode) (Q : Sig → FE → St → Prop) : W cx (.block id b) e s Q = W cx b e s fun g e s => Q (blk1 id g) e s := rfl
@[go_sem ↓] theorem W_loop (b : ICode) (Q : Sig → FE → St → Prop) : W cx (.loop b) e s Q = @WLoopB cx b e s ⟨Q⟩ := rfl
@[go_sem ↓] theorem W_exit (id : Nat) (Q : Sig → FE → St → Prop) : W cx (.exit id) e s Q = Q (.exit id) e s := rfl
@[go_sem ↓] theorem W_scope (b : ICode) (Q : Sig → FE → St → Prop) : W cx (.scope b) e s Q = W cx b e s Q := rfl
@[go_sem ↓] theorem W_ret (Q : Sig → FE → St → Prop) : W cx .ret e s Q = Q .ret e s := rfl
@[go_sem ↓] theorem WO_nil (Q : FE → St → Prop) : WO cx [] e s Q = Q e s := rfl
@[go_sem ↓] theorem WO_none (d : Option Nat) (op : IOp) (os : List IOper) (Q : FE → St → Prop) : WO cx (⟨d, op, none⟩ :: os) e s Q = WOp cx e s op fun v s => WO cx os (upd d v e) s Q := rfl
@[go_sem ↓] theorem WO_some (d : Option Nat) (op : IOp) (t : Nat) (w : Bool) (os : List IOper) (Q : FE → St → Prop) : WO cx (⟨d, op, some (t, w)⟩ :: os) e s Q =
    gcase (e t) w (WOp cx e s op fun v s => WO cx os (upd d v e) s Q) (WO cx os (upd d AV.undef e) s Q) := rfl
@[go_sem ↓] theorem WD_nil (i : Nat) (ds : List (Nat × Deed)) (Q : FE → St → Prop) : WD cx [] i ds e s Q = Q e s := rfl
@[go_sem ↓] theorem WD_none (d : Option Nat) (op : IOp) (m : Nat) (os : List (IOper × Nat)) (i : Nat) (ds : List (Nat × Deed)) (Q : FE → St → Prop) : WD cx ((⟨d, op, none⟩, m) :: os) i ds e s Q =
    WDeed cx e s op fun v s de => dcase de (WD cx os (i + 1) ds (upd d v e) s Q) fun de => pifN (freeAll m de ds) (WD cx os (i + 1) ((i, de) :: ds) (upd d v e) s Q) False := rfl
@[go_sem ↓] theorem WD_some (d : Option Nat) (op : IOp) (t : Nat) (w : Bool) (m : Nat) (os : List (IOper × Nat)) (i : Nat) (ds : List (Nat × Deed)) (Q : FE → St → Prop) : WD cx ((⟨d, op, some (t, w)⟩, m) :: os) i ds e s Q =
    gcase (e t) w (WDeed cx e s op fun v s de => dcase de (WD cx os (i + 1) ds (upd d v e) s Q) fun de => pifN (freeAll m de ds) (WD cx os (i + 1) ((i, de) :: ds) (upd d v e) s Q) False) (WD cx os (i + 1) ds (upd d AV.undef e) s Q) := rfl

/- operations -/
section
variable (K : AV → St → Prop)
@[go_sem ↓] theorem WOp_mov (x : IX) : WOp cx e s (.mov x) K = oget (x.evF cx e) fun a => K a s := rfl
@[go_sem ↓] theorem WOp_pick (c a b : IX) : WOp cx e s (.pick c a b) K = oget (c.evF cx e) fun c => oget (a.evF cx e) fun a => oget (b.evF cx e) fun b => oget (selB c a b) fun v => K v s := rfl
@[go_sem ↓] theorem WOp_alloc (t : TypeId) (z : List AV) : WOp cx e s (.alloc t z) K = K (.ptr s.next 0) (s.new (.cells (some t) z)) := rfl
@[go_sem ↓] theorem WOp_box (t : TypeId) (x : IX) : WOp cx e s (.box t x) K = oget (x.evF cx e) fun v => K (.ptr s.next 0) (s.new (.cells (some t) v.cells)) := rfl
@[go_sem ↓] theorem WOp_build (z : List AV) (ps : List (Nat × Nat × IX)) : WOp cx e s (.build z ps) K = oget (fillF cx e z ps) fun cs => K (.agg cs) s := rfl
@[go_sem ↓] theorem WOp_bslice (z : List AV) (len : Nat) (ps : List (Nat × Nat × IX)) : WOp cx e s (.bslice z len ps) K = oget (fillF cx e z ps) fun cs => K (.slice (cs.map AV.strip) len .full) s := rfl
@[go_sem ↓] theorem WOp_load (g : Bool) (n : Nat) (a : IX) : WOp cx e s (.load g n a) K = oget (a.evF cx e) fun a => oget (loadA s g n a) fun v => K v s := rfl
@[go_sem ↓] theorem WOp_store (n : Nat) (a x : IX) : WOp cx e s (.store n a x) K = oget (a.evF cx e) fun a => oget (x.evF cx e) fun x => oget (storeA s n a x) fun s => K AV.undef s := rfl
@[go_sem ↓] theorem WOp_nilChk (x : IX) : WOp cx e s (.nilChk x) K = oget (x.evF cx e) fun a => oget (isPtr a) fun v => K v s := rfl
@[go_sem ↓] theorem WOp_bin (op : BinOp) (x y : IX) : WOp cx e s (.bin op x y) K = oget (x.evF cx e) fun a => oget (y.evF cx e) fun b => oget (evBin op a b) fun v => K v s := rfl
@[go_sem ↓] theorem WOp_eqv (neg : Bool) (q : EqK) (x y : IX) : WOp cx e s (.eqv neg q x y) K = oget (x.evF cx e) fun a => oget (y.evF cx e) fun b => oget (evEq q a b) fun r => K (.bool (if neg then !r else r)) s := rfl
@[go_sem ↓] theorem WOp_un (op : UnOp) (x : IX) : WOp cx e s (.un op x) K = oget (x.evF cx e) fun a => oget (evUn op a) fun v => K v s := rfl
@[go_sem ↓] theorem WOp_i2i (k : IntKind) (x : IX) : WOp cx e s (.i2i k x) K = oget (x.evF cx e) fun a => oget (wrapA k a) fun v => K v s := rfl
@[go_sem ↓] theorem WOp_same (x : IX) : WOp cx e s (.same x) K = oget (x.evF cx e) fun a => oget (strA a) fun t => K (.str t) s := rfl
@[go_sem ↓] theorem WOp_b2s (x : IX) : WOp cx e s (.b2s x) K = oget (x.evF cx e) fun a => oget (b2sA s a) fun v => K v s := rfl
@[go_sem ↓] theorem WOp_s2b (x : IX) : WOp cx e s (.s2b x) K = oget (x.evF cx e) fun a => oget (strA a) fun t => K (.mslice s.next 0 t.length none) (s.new (.cells none (byteCells t))) := rfl
@[go_sem ↓] theorem WOp_i2s (x : IX) : WOp cx e s (.i2s x) K = oget (x.evF cx e) fun a => oget (i2sA a) fun v => K v s := rfl
@[go_sem ↓] theorem WOp_slcs (x : IX) (lo hi : Option IX) : WOp cx e s (.slcs x lo hi) K = oget (x.evF cx e) fun x => oget (evoF cx e lo) fun lo => oget (evoF cx e hi) fun hi => oget (slcsA x lo hi) fun v => K v s := rfl
@[go_sem ↓] theorem WOp_slc (z : Nat) (x : IX) (lo hi mx : Option IX) : WOp cx e s (.slc z x lo hi mx) K = oget (x.evF cx e) fun x => oget (evoF cx e lo) fun lo => oget (evoF cx e hi) fun hi => oget (evoF cx e mx) fun mx => oget (sliceA z x lo hi mx) fun v => K v s := rfl
@[go_sem ↓] theorem WOp_slca (z n : Nat) (x : IX) (lo hi mx : Option IX) : WOp cx e s (.slca z n x lo hi mx) K = oget (x.evF cx e) fun x => oget (evoF cx e lo) fun lo => oget (evoF cx e hi) fun hi => oget (evoF cx e mx) fun mx => oget (sliceArr z n x lo hi mx) fun v => K v s := rfl
@[go_sem ↓] theorem WOp_faddr (off : Nat) (x : IX) : WOp cx e s (.faddr off x) K = oget (x.evF cx e) fun a => oget (faddrA off a) fun v => K v s := rfl
@[go_sem ↓] theorem WOp_fld (off n : Nat) (g : Bool) (x : IX) : WOp cx e s (.fld off n g x) K = oget (x.evF cx e) fun a => oget (fldA off n g a) fun v => K v s := rfl
@[go_sem ↓] theorem WOp_iaddr (z : Nat) (arr : Option Nat) (x i : IX) : WOp cx e s (.iaddr z arr x i) K = oget (x.evF cx e) fun x => oget (i.evF cx e) fun i => oget (asI i) fun i => oget (iaddrA z arr x i) fun v => K v s := rfl
@[go_sem ↓] theorem WOp_idx (z : Nat) (g : Bool) (arr : Option Nat) (x i : IX) : WOp cx e s (.idx z g arr x i) K = oget (x.evF cx e) fun x => oget (i.evF cx e) fun i => oget (asI i) fun i => oget (idxA z g arr x i) fun v => K v s := rfl
@[go_sem ↓] theorem WOp_look (kk : CK) (z : AV) (ok : Bool) (m k : IX) : WOp cx e s (.look kk z ok m k) K = oget (m.evF cx e) fun m => oget (k.evF cx e) fun k => oget (entriesOf s m) fun es => oget (mapFind kk k es) fun (r : Option AV) => K (if ok then .tuple [r.getD z, .bool r.isSome] else r.getD z) s := rfl
@[go_sem ↓] theorem WOp_mupd (kk : CK) (m k v : IX) : WOp cx e s (.mupd kk m k v) K = oget (m.evF cx e) fun m => oget (k.evF cx e) fun k => oget (v.evF cx e) fun v => oget (mupdA kk s k v m) fun s => K AV.undef s := rfl
@[go_sem ↓] theorem WOp_mkmap : WOp cx e s .mkmap K = K (.map s.next) (s.new (.map [])) := rfl
@[go_sem ↓] theorem WOp_mkif (t : Nat) (x : IX) : WOp cx e s (.mkif t x) K = oget (x.evF cx e) fun v => K (.iface t v.strip) s := rfl
@[go_sem ↓] theorem WOp_mkfn (f : Nat) (a b : List IX) : WOp cx e s (.mkfn f a b) K = oget (evsF cx e a) fun a => oget (evsF cx e b) fun b => K (.func f a b) s := rfl
@[go_sem ↓] theorem WOp_mkslice (y : Nat) (z : List AV) (len cap : IX) : WOp cx e s (.mkslice y z len cap) K = oget (len.evF cx e) fun l => oget (cap.evF cx e) fun c => oget (mkslA s y z l c) fun p => K p.1 p.2 := rfl
@[go_sem ↓] theorem WOp_extr (x : IX) (i : Nat) : WOp cx e s (.extr x i) K = oget (x.evF cx e) fun a => oget (extrA i a) fun v => K v s := rfl
@[go_sem ↓] theorem WOp_lens (x : IX) : WOp cx e s (.lens x) K = oget (x.evF cx e) fun a => oget (lensA a) fun v => K v s := rfl
@[go_sem ↓] theorem WOp_lenv (x : IX) : WOp cx e s (.lenv x) K = oget (x.evF cx e) fun a => oget (lenvA a) fun v => K v s := rfl
@[go_sem ↓] theorem WOp_lenm (x : IX) : WOp cx e s (.lenm x) K = oget (x.evF cx e) fun a => oget (entriesOf s a) fun es => K (.int .i64 es.length) s := rfl
@[go_sem ↓] theorem WOp_mn (xs : List IX) : WOp cx e s (.mn xs) K = oget (evsF cx e xs) fun vs => oget (fold1 min2 vs) fun v => K v s := rfl
@[go_sem ↓] theorem WOp_mx (xs : List IX) : WOp cx e s (.mx xs) K = oget (evsF cx e xs) fun vs => oget (fold1 max2 vs) fun v => K v s := rfl
@[go_sem ↓] theorem WOp_app (ty z y : Nat) (a b : IX) : WOp cx e s (.app ty z y a b) K = oget (a.evF cx e) fun a => oget (b.evF cx e) fun b => oget (appendA s ty z y a b) fun p => K p.1 p.2 := rfl
@[go_sem ↓] theorem WOp_copy (z : Nat) (a b : IX) : WOp cx e s (.copy z a b) K = oget (a.evF cx e) fun a => oget (b.evF cx e) fun b => oget (copyA s z a b) fun p => K p.1 p.2 := rfl
@[go_sem ↓] theorem WOp_call (f : IX) (xs : List IX) : WOp cx e s (.call f xs) K = oget (f.evF cx e) fun f => oget (evsF cx e xs) fun vs => FunK cx f vs s K := rfl
@[go_sem ↓] theorem FunK_func (g : Nat) (a b vs : List AV) : FunK cx (.func g a b) vs s K = CallW cx g (a ++ vs ++ b) s K := rfl
end

/- operands -/
@[go_sem] theorem evF_tmp (t : Nat) : IX.evF cx e (.tmp t) = some (e t) := rfl
@[go_sem] theorem evF_const (a : AV) : IX.evF cx e (.const a) = some a := rfl
@[go_sem] theorem evF_glob (g : Nat) : IX.evF cx e (.glob g) = (cx.gl g).map (AV.vptr · 0) := rfl
@[go_sem] theorem evsF_nil : evsF cx e [] = some [] := rfl
@[go_sem] theorem evsF_cons (x : IX) (xs : List IX) : evsF cx e (x :: xs) = (x.evF cx e).bind fun a => (evsF cx e xs).map (a :: ·) := rfl
@[go_sem] theorem evoF_none : evoF cx e none = some none := rfl
@[go_sem] theorem evoF_some (x : IX) : evoF cx e (some x) = (x.evF cx e).map some := rfl
end

@[go_sem] theorem selB_bool (t : Bool) (a b : AV) : selB (.bool t) a b = some (if t = true then a else b) := rfl
@[go_sem] theorem ite_bool (c : Bool) (a b : Bool) : (if c = true then AV.bool a else AV.bool b) = .bool (if c = true then a else b) := by cases c <;> rfl
@[go_sem] theorem ite_int (c : Bool) (k : IntKind) (a b : Int) : (if c = true then AV.int k a else AV.int k b) = .int k (if c = true then a else b) := by cases c <;> rfl

/- plain arithmetic -/
@[go_sem] theorem bin_add (k : IntKind) (a b : Int) : evBin .add (.int k a) (.int k b) = some (.int k (k.wrap (a + b))) := by simp [evBin]
@[go_sem] theorem bin_sub (k : IntKind) (a b : Int) : evBin .sub (.int k a) (.int k b) = some (.int k (k.wrap (a - b))) := by simp [evBin]
@[go_sem] theorem bin_mul (k : IntKind) (a b : Int) : evBin .mul (.int k a) (.int k b) = some (.int k (k.wrap (a * b))) := by simp [evBin]
@[go_sem] theorem bin_quo (k : IntKind) (a b : Int) : evBin .quo (.int k a) (.int k b) = if b = 0 then none else some (.int k (k.wrap (a.tdiv b))) := by simp [evBin]
@[go_sem] theorem bin_rem (k : IntKind) (a b : Int) : evBin .rem (.int k a) (.int k b) = if b = 0 then none else some (.int k (a.tmod b)) := by simp [evBin]
@[go_sem] theorem bin_eql (k : IntKind) (a b : Int) : evBin .eql (.int k a) (.int k b) = some (.bool (decide (a = b))) := by simp [evBin]; rfl
@[go_sem] theorem bin_neq (k : IntKind) (a b : Int) : evBin .neq (.int k a) (.int k b) = some (.bool (decide (a ≠ b))) := by simp [evBin, bne]; rfl
@[go_sem] theorem bin_lss (k : IntKind) (a b : Int) : evBin .lss (.int k a) (.int k b) = some (.bool (decide (a < b))) := by simp [evBin]
@[go_sem] theorem bin_leq (k : IntKind) (a b : Int) : evBin .leq (.int k a) (.int k b) = some (.bool (decide (a ≤ b))) := by simp [evBin]
@[go_sem] theorem bin_gtr (k : IntKind) (a b : Int) : evBin .gtr (.int k a) (.int k b) = some (.bool (decide (b < a))) := by simp [evBin]
@[go_sem] theorem bin_geq (k : IntKind) (a b : Int) : evBin .geq (.int k a) (.int k b) = some (.bool (decide (b ≤ a))) := by simp [evBin]
@[go_sem] theorem bin_shl (k k' : IntKind) (a b : Int) : evBin .shl (.int k a) (.int k' b) = if b < 0 then none else some (.int k (k.wrap (a * 2 ^ (min b.toNat k.bits)))) := by simp [evBin]
@[go_sem] theorem bin_shr (k k' : IntKind) (a b : Int) : evBin .shr (.int k a) (.int k' b) = if b < 0 then none else some (.int k (a.fdiv (2 ^ (min b.toNat k.bits)))) := by simp [evBin]
@[go_sem] theorem bin_and (k : IntKind) (a b : Int) : evBin .and (.int k a) (.int k b) = some (.int k (k.wrap (BitVec.ofInt k.bits a &&& BitVec.ofInt k.bits b).toNat)) := by simp [evBin]
@[go_sem] theorem bin_or (k : IntKind) (a b : Int) : evBin .or (.int k a) (.int k b) = some (.int k (k.wrap (BitVec.ofInt k.bits a ||| BitVec.ofInt k.bits b).toNat)) := by simp [evBin]
@[go_sem] theorem bin_xor (k : IntKind) (a b : Int) : evBin .xor (.int k a) (.int k b) = some (.int k (k.wrap (BitVec.ofInt k.bits a ^^^ BitVec.ofInt k.bits b).toNat)) := by simp [evBin]
@[go_sem] theorem bin_sadd (a b : List UInt8) : evBin .add (.str a) (.str b) = if a.length + b.length ≤ 9223372036854775807 then some (.str (a ++ b)) else none := by simp [evBin]
@[go_sem] theorem bin_seql (a b : List UInt8) : evBin .eql (.str a) (.str b) = some (.bool (decide (a = b))) := by simp only [evBin, Option.some.injEq, AV.bool.injEq]; rw [Bool.eq_iff_iff]; simp
@[go_sem] theorem bin_sneq (a b : List UInt8) : evBin .neq (.str a) (.str b) = some (.bool (decide (a ≠ b))) := by simp only [evBin, Option.some.injEq, AV.bool.injEq]; rw [Bool.eq_iff_iff]; simp
@[go_sem] theorem un_not (a : Bool) : evUn .not (.bool a) = some (.bool (!a)) := rfl
@[go_sem] theorem un_neg (k : IntKind) (a : Int) : evUn .neg (.int k a) = some (.int k (k.wrap (0 - a))) := rfl
@[go_sem] theorem eq_bool (a b : Bool) : evEq .scal (.bool a) (.bool b) = some (a == b) := rfl
@[go_sem] theorem wrapA_int (k k' : IntKind) (n : Int) : wrapA k (.int k' n) = some (.int k (k.wrap n)) := rfl
@[go_sem] theorem strA_str (t : List UInt8) : strA (.str t) = some t := rfl
@[go_sem] theorem asI_int (k : IntKind) (n : Int) : asI (.int k n) = some n := rfl
@[go_sem] theorem isPtr_ptr (i o : Nat) : isPtr (.ptr i o) = some (.ptr i o) := rfl
@[go_sem] theorem isPtr_vptr (cs : List AV) (o : Nat) : isPtr (.vptr cs o) = some (.vptr cs o) := rfl
@[go_sem] theorem lensA_str (b : List UInt8) : lensA (.str b) = some (.int .i64 b.length) := rfl
@[go_sem] theorem lenvA_nil : lenvA .nilslice = some (.int .i64 0) := rfl
@[go_sem] theorem lenvA_slice (cs : List AV) (n : Nat) (o : Own) : lenvA (.slice cs n o) = some (.int .i64 n) := rfl
@[go_sem] theorem lenvA_mslice (i o n : Nat) (c : Option Nat) : lenvA (.mslice i o n c) = some (.int .i64 n) := rfl
@[go_sem] theorem faddrA_ptr (off i o : Nat) : faddrA off (.ptr i o) = some (.ptr i (o + off)) := rfl
@[go_sem] theorem faddrA_vptr (off o : Nat) (cs : List AV) : faddrA off (.vptr cs o) = some (.vptr cs (o + off)) := rfl
@[go_sem] theorem fldA_agg (off n : Nat) (g : Bool) (cs : List AV) : fldA off n g (.agg cs) = (sub cs off n).bind (ofCells g) := rfl
@[go_sem] theorem extrA_tuple (i : Nat) (vs : List AV) : extrA i (.tuple vs) = vs[i]? := rfl
@[go_sem] theorem idxA_str (z : Nat) (g : Bool) (b : List UInt8) (i : Int) : idxA z g none (.str b) i = if 0 ≤ i then (b[i.toNat]?).map fun c => .int .u8 c.toNat else none := rfl

/- state -/
@[go_sem] theorem new_eq (s : St) (o : AObj) : s.new o = { heap := (s.next, o) :: s.heap, next := s.next + 1, low := s.low } := rfl
@[go_sem] theorem set_eq (s : St) (id : Nat) (o : AObj) : s.set id o = { heap := put id o s.heap, next := s.next, low := min s.low id } := rfl
@[go_sem] theorem get_eq (s : St) (id : Nat) : s.get id = look id s.heap := rfl
@[go_sem] theorem look_cons (i j : Nat) (o : AObj) (h : List (Nat × AObj)) : look i ((j, o) :: h) = if j = i then some o else look i h := rfl
@[go_sem] theorem put_cons (i j : Nat) (o p : AObj) (h : List (Nat × AObj)) : put i o ((j, p) :: h) = if j = i then (j, o) :: h else (j, p) :: put i o h := rfl
@[go_sem] theorem min_next (a k : Nat) : min a (a + k) = a := by omega
def ldA (o : Option AObj) (g : Bool) (n off : Nat) : Option AV := match o with
  | some (.cells _ cs) => (sub cs off n).bind (ofCells g)
  | _ => none
@[go_sem] theorem loadA_ptr (s : St) (g : Bool) (n i off : Nat) : loadA s g n (.ptr i off) = ldA (s.get i) g n off := rfl
@[go_sem] theorem ldA_cells (ty : Option TypeId) (cs : List AV) (g : Bool) (n off : Nat) : ldA (some (.cells ty cs)) g n off = (sub cs off n).bind (ofCells g) := rfl
@[go_sem] theorem loadA_vptr (s : St) (g : Bool) (n off : Nat) (cs : List AV) : loadA s g n (.vptr cs off) = (sub cs off n).bind (ofCells g) := rfl
def stA (s : St) (n id off : Nat) (x : AV) (o : Option AObj) : Option St := match o with
  | some (.cells ty cs) => if x.cells.length = n ∧ x.cells.all AV.one = true then (patch cs off x.cells).map fun cs => s.set id (.cells ty cs) else none
  | _ => none
@[go_sem] theorem storeA_ptr (s : St) (n id off : Nat) (x : AV) : storeA s n (.ptr id off) x = stA s n id off x (s.get id) := rfl
@[go_sem] theorem stA_cells (s : St) (n id off : Nat) (x : AV) (ty : Option TypeId) (cs : List AV) : stA s n id off x (some (.cells ty cs)) =
    if x.cells.length = n ∧ x.cells.all AV.one = true then (patch cs off x.cells).map fun cs => s.set id (.cells ty cs) else none := rfl
/- stretches of given lists -/
@[go_sem] theorem sub_succ (c : AV) (cs : List AV) (off n : Nat) : sub (c :: cs) (off + 1) n = sub cs off n := by
  simp only [sub, List.length_cons, List.drop_succ_cons]
  by_cases h : off + n ≤ cs.length
  · rw [if_pos h, if_pos (by omega)]
  · rw [if_neg h, if_neg (by omega)]
@[go_sem] theorem sub_zero_succ (c : AV) (cs : List AV) (n : Nat) : sub (c :: cs) 0 (n + 1) = (sub cs 0 n).map (c :: ·) := by
  simp only [sub, List.length_cons, List.drop_zero, List.take_succ_cons]
  by_cases h : 0 + n ≤ cs.length
  · rw [if_pos h, if_pos (by omega)]; rfl
  · rw [if_neg h, if_neg (by omega)]; rfl
@[go_sem] theorem sub_zero_zero (cs : List AV) : sub cs 0 0 = some [] := by simp [sub]
@[go_sem] theorem patch_succ (c : AV) (cs vs : List AV) (off : Nat) : patch (c :: cs) (off + 1) vs = (patch cs off vs).map (c :: ·) := by
  simp only [patch, List.length_cons, List.take_succ_cons, show off + 1 + vs.length = (off + vs.length) + 1 by omega, List.drop_succ_cons]
  by_cases h : off + vs.length ≤ cs.length
  · rw [if_pos h, if_pos (by omega)]; rfl
  · rw [if_neg h, if_neg (by omega)]; rfl
@[go_sem] theorem patch_zero_cons (c v : AV) (cs vs : List AV) : patch (c :: cs) 0 (v :: vs) = (patch cs 0 vs).map (v :: ·) := by
  simp only [patch, List.length_cons, List.take_zero, show 0 + (vs.length + 1) = (0 + vs.length) + 1 by omega, List.drop_succ_cons]
  by_cases h : 0 + vs.length ≤ cs.length
  · rw [if_pos h, if_pos (by omega)]; rfl
  · rw [if_neg h, if_neg (by omega)]; rfl
@[go_sem] theorem patch_zero_nil (cs : List AV) : patch cs 0 [] = some cs := by simp [patch]
@[go_sem] theorem ofCells_true (cs : List AV) : ofCells true cs = some (.agg cs) := rfl
@[go_sem] theorem ofCells_false (c : AV) : ofCells false [c] = some c := rfl
attribute [go_sem] List.all_cons List.all_nil List.length_cons List.length_nil Option.bind_some Option.map_some Option.bind_none Option.map_none List.map_cons List.map_nil
  oget_some oget_none sqn_normal sqn_exit sqn_ret bcase_bool gcase_true gcase_false gcase_undef dcase_none dcase_some upd_none
  List.nil_append List.cons_append List.append_nil and_self if_true if_false Bool.and_self Bool.and_true Bool.true_and Nat.add_zero Nat.zero_add Nat.min_self true_and and_true eq_self
attribute [go_sem ↓] pif_true pif_false oget_some oget_none sqn_normal sqn_exit sqn_ret bcase_bool gcase_true gcase_false gcase_undef dcase_none dcase_some
attribute [congr] oget_congr bcase_congr gcase_congr dcase_congr sqn_congr CallW_congr FunK_congr WLoop_congr pif_congr
attribute [go_sem] Bool.not_true Bool.not_false Bool.not_not Bool.false_and Bool.and_false Bool.or_false Bool.false_or Bool.or_true Bool.true_or Bool.false_eq_true decide_true decide_false
attribute [go_sem ↓] upd_get
@[go_sem ↓] theorem ogf (K : AV → Prop) : oget none K = False := rfl

/- maps with given keys -/
@[go_sem] theorem mapFind_nil (kk : CK) (k : AV) : mapFind kk k [] = some none := rfl
@[go_sem] theorem mapFind_str (a b : List UInt8) (v : AV) (es : List (AV × AV)) : mapFind .str (.str a) ((.str b, v) :: es) = if a = b then some (some v) else mapFind .str (.str a) es := by
  simp only [mapFind, cellEqK]
  by_cases h : a = b
  · subst h; simp
  · have h' : (a == b) = false := by simpa using h
    simp [h', h]
@[go_sem] theorem mapFind_int (kd kd' : IntKind) (a b : Int) (v : AV) (es : List (AV × AV)) (hk : kd = kd') : mapFind .int (.int kd a) ((.int kd' b, v) :: es) = if a = b then some (some v) else mapFind .int (.int kd a) es := by
  simp only [mapFind, cellEqK, hk, if_true]
  by_cases h : a = b
  · subst h; simp
  · have h' : (a == b) = false := by simpa using h
    simp [h', h]
@[go_sem] theorem mapPut_nil (kk : CK) (k v : AV) : mapPut kk k v [] = some [(k, v)] := rfl
@[go_sem] theorem mapPut_str (a b : List UInt8) (v u : AV) (es : List (AV × AV)) : mapPut .str (.str a) v ((.str b, u) :: es) = if a = b then some ((.str a, v) :: es) else (mapPut .str (.str a) v es).map ((.str b, u) :: ·) := by
  simp only [mapPut, cellEqK]
  by_cases h : a = b
  · subst h; simp
  · have h' : (a == b) = false := by simpa using h
    simp [h', h]
def entM (o : Option AObj) : Option (List (AV × AV)) := match o with
  | some (.map es) => some es
  | _ => none
@[go_sem] theorem entriesOf_map (s : St) (i : Nat) : entriesOf s (.map i) = entM (s.get i) := rfl
@[go_sem] theorem entriesOf_nil (s : St) : entriesOf s .nilmap = some [] := rfl
@[go_sem] theorem entM_map (es : List (AV × AV)) : entM (some (.map es)) = some es := rfl
def mupM (kk : CK) (s : St) (k v : AV) (id : Nat) (o : Option AObj) : Option St := match o with
  | some (.map es) => (mapPut kk k v.strip es).map fun es => s.set id (.map es)
  | _ => none
@[go_sem] theorem mupdA_map (kk : CK) (s : St) (k v : AV) (id : Nat) : mupdA kk s k v (.map id) = mupM kk s k v id (s.get id) := rfl
@[go_sem] theorem mupM_map (kk : CK) (s : St) (k v : AV) (id : Nat) (es : List (AV × AV)) : mupM kk s k v id (some (.map es)) = (mapPut kk k v.strip es).map fun es => s.set id (.map es) := rfl

/- choices stand ahead of what follows -/
@[go_sem ↓] theorem oget_ite {α : Type} (c : Prop) [Decidable c] (x y : Option α) (K : α → Prop) : oget (if c then x else y) K = if c then oget x K else oget y K := by split <;> rfl
@[go_sem] theorem oget_ite' {α : Type} (c : Prop) [Decidable c] (x y : Option α) (K : α → Prop) : oget (if c then x else y) K = if c then oget x K else oget y K := by split <;> rfl

/- strings -/
def strAt (b : List UInt8) (i : Nat) : UInt8 := b.getD i 0
theorem oget_idx (z : Nat) (g : Bool) (b : List UInt8) (i : Int) (K : AV → Prop) : oget (idxA z g none (.str b) i) K = (0 ≤ i ∧ i < b.length ∧ K (.int .u8 (b.getD i.toNat 0).toNat)) := by
  simp only [idxA_str]
  by_cases h : 0 ≤ i
  · simp only [h, if_true, true_and]
    by_cases h2 : i < b.length
    · have h3 : i.toNat < b.length := by omega
      rw [List.getElem?_eq_getElem h3]
      simp [oget_some, h2, List.getD, h3]
    · rw [List.getElem?_eq_none (by omega)]
      simp only [Option.map_none, oget_none, h2, false_and]
  · simp only [h, if_false, oget_none, false_and]
def slOk (n : Nat) (lo hi : Int) : Prop := 0 ≤ lo ∧ lo ≤ hi ∧ hi ≤ n
def cut (b : List UInt8) (lo hi : Int) : List UInt8 := (b.drop lo.toNat).take (hi.toNat - lo.toNat)
theorem oget_slcs_full (b : List UInt8) (k k' : IntKind) (lo hi : Int) (K : AV → Prop) : oget (slcsA (.str b) (some (.int k lo)) (some (.int k' hi))) K = (slOk b.length lo hi ∧ K (.str (cut b lo hi))) := by
  simp only [slcsA, bounds, slOk, cut]
  by_cases h : 0 ≤ hi ∧ hi ≤ b.length
  · rw [if_pos h]
    by_cases h2 : 0 ≤ lo ∧ lo ≤ hi
    · rw [if_pos h2]; simp [oget, h.2, h2.1, h2.2]
    · rw [if_neg h2]; simp only [Option.map_none, oget_none, eq_iff_iff, false_iff]; omega
  · rw [if_neg h]; simp only [Option.map_none, oget_none, eq_iff_iff, false_iff]; omega
theorem oget_slcs_lo (b : List UInt8) (k : IntKind) (lo : Int) (K : AV → Prop) : oget (slcsA (.str b) (some (.int k lo)) none) K = ((0 ≤ lo ∧ lo ≤ b.length) ∧ K (.str (b.drop lo.toNat))) := by
  simp only [slcsA, bounds]
  by_cases h : 0 ≤ lo ∧ lo ≤ b.length
  · rw [if_pos h]
    have : b.length - lo.toNat = (b.drop lo.toNat).length := by simp
    simp only [Option.map_some, oget_some, h, and_self, true_and, this, List.take_length]
  · rw [if_neg h]; simp [oget, h]
theorem oget_slcs_hi (b : List UInt8) (k : IntKind) (hi : Int) (K : AV → Prop) : oget (slcsA (.str b) none (some (.int k hi))) K = ((0 ≤ hi ∧ hi ≤ b.length) ∧ K (.str (b.take hi.toNat))) := by
  simp only [slcsA, bounds]
  by_cases h : 0 ≤ hi ∧ hi ≤ b.length
  · rw [if_pos h]; simp [oget, h]
  · rw [if_neg h]; simp [oget, h]
theorem oget_slcs_none (b : List UInt8) (K : AV → Prop) : oget (slcsA (.str b) none none) K = K (.str b) := by
  simp [slcsA, bounds, oget]
attribute [go_sem ↓] oget_idx oget_slcs_full oget_slcs_lo oget_slcs_hi oget_slcs_none

/- what a caller sees -/
def LeaveW (s s' : St) (v : AV) (K : AV → St → Prop) : Prop := K (leave s s' v).1 (leave s s' v).2
@[go_sem ↓] theorem RetW_ret (s s' : St) (rs : List IRes) (K : AV → St → Prop) (e : FE) : RetW s rs K .ret e s' = oget (resF s' e rs) fun vs => LeaveW s s' (tupled vs) K := rfl
@[go_sem ↓] theorem RetW_normal (s s' : St) (rs : List IRes) (K : AV → St → Prop) (e : FE) : RetW s rs K .normal e s' = oget (resF s' e rs) fun vs => LeaveW s s' (tupled vs) K := rfl
theorem LeaveW_congr {s s' t' : St} {v v' : AV} {K : AV → St → Prop} (h : Unit → v = v') (h2 : Unit → s' = t') : LeaveW s s' v K = LeaveW s t' v' K := by rw [h (), h2 ()]
attribute [congr] LeaveW_congr
@[go_sem] theorem resF_nil (s : St) (e : FE) : resF s e [] = some [] := rfl
@[go_sem] theorem resF_tmp (s : St) (e : FE) (t : Nat) (rs : List IRes) : resF s e (.tmp t :: rs) = (resF s e rs).map (e t :: ·) := rfl
@[go_sem] theorem resF_cell (s : St) (e : FE) (t : Nat) (g : Bool) (n : Nat) (rs : List IRes) : resF s e (.cell t g n :: rs) = (loadA s g n (e t)).bind fun v => (resF s e rs).map (v :: ·) := rfl
@[go_sem] theorem tupled_one (v : AV) : tupled [v] = v := rfl
@[go_sem] theorem tupled_nil : tupled [] = .tuple [] := rfl
@[go_sem] theorem tupled_two (v u : AV) (vs : List AV) : tupled (v :: u :: vs) = .tuple (v :: u :: vs) := rfl
@[go_sem] theorem argsE_get (args : List AV) (t : Nat) : argsE args t = args.getD t AV.undef := rfl
@[go_sem] theorem blk1_exit (i j : Nat) : blk1 i (.exit j) = if i = j then .normal else .exit j := by
  simp only [blk1, Sig.exit.injEq]; split <;> split <;> simp_all
@[go_sem] theorem blk1_normal (i : Nat) : blk1 i .normal = .normal := rfl
@[go_sem] theorem blk1_ret (i : Nat) : blk1 i .ret = .ret := rfl
/-- Values without a number in them. -/
def AV.flat : AV → Bool
  | .bool _ | .int _ _ | .str _ | .nilptr | .nilslice | .nilmap | .nilfunc | .niliface => true
  | _ => false
/- the forms of values -/
@[go_sem] theorem cells_bool (b : Bool) : (AV.bool b).cells = [(AV.bool b)] := rfl
@[go_sem] theorem one_bool (b : Bool) : (AV.bool b).one = true := rfl
@[go_sem] theorem strip_bool (b : Bool) : (AV.bool b).strip = (AV.bool b) := rfl
@[go_sem] theorem flat_bool (b : Bool) : (AV.bool b).flat = true := rfl
@[go_sem] theorem cells_int (k : IntKind) (n : Int) : (AV.int k n).cells = [(AV.int k n)] := rfl
@[go_sem] theorem one_int (k : IntKind) (n : Int) : (AV.int k n).one = true := rfl
@[go_sem] theorem strip_int (k : IntKind) (n : Int) : (AV.int k n).strip = (AV.int k n) := rfl
@[go_sem] theorem flat_int (k : IntKind) (n : Int) : (AV.int k n).flat = true := rfl
@[go_sem] theorem cells_str (b : List UInt8) : (AV.str b).cells = [(AV.str b)] := rfl
@[go_sem] theorem one_str (b : List UInt8) : (AV.str b).one = true := rfl
@[go_sem] theorem strip_str (b : List UInt8) : (AV.str b).strip = (AV.str b) := rfl
@[go_sem] theorem flat_str (b : List UInt8) : (AV.str b).flat = true := rfl
@[go_sem] theorem cells_nilptr  : AV.nilptr.cells = [AV.nilptr] := rfl
@[go_sem] theorem one_nilptr  : AV.nilptr.one = true := rfl
@[go_sem] theorem strip_nilptr  : AV.nilptr.strip = AV.nilptr := rfl
@[go_sem] theorem flat_nilptr  : AV.nilptr.flat = true := rfl
@[go_sem] theorem cells_ptr (i o : Nat) : (AV.ptr i o).cells = [(AV.ptr i o)] := rfl
@[go_sem] theorem one_ptr (i o : Nat) : (AV.ptr i o).one = true := rfl
@[go_sem] theorem strip_ptr (i o : Nat) : (AV.ptr i o).strip = (AV.ptr i o) := rfl
@[go_sem] theorem cells_vptr (cs : List AV) (o : Nat) : (AV.vptr cs o).cells = [(AV.vptr cs o)] := rfl
@[go_sem] theorem one_vptr (cs : List AV) (o : Nat) : (AV.vptr cs o).one = true := rfl
@[go_sem] theorem strip_vptr (cs : List AV) (o : Nat) : (AV.vptr cs o).strip = (AV.vptr cs o) := rfl
@[go_sem] theorem cells_nilslice  : AV.nilslice.cells = [AV.nilslice] := rfl
@[go_sem] theorem one_nilslice  : AV.nilslice.one = true := rfl
@[go_sem] theorem strip_nilslice  : AV.nilslice.strip = AV.nilslice := rfl
@[go_sem] theorem flat_nilslice  : AV.nilslice.flat = true := rfl
@[go_sem] theorem cells_slice (cs : List AV) (n : Nat) (o : Own) : (AV.slice cs n o).cells = [(AV.slice cs n o)] := rfl
@[go_sem] theorem one_slice (cs : List AV) (n : Nat) (o : Own) : (AV.slice cs n o).one = true := rfl
@[go_sem] theorem cells_mslice (i o n : Nat) (c : Option Nat) : (AV.mslice i o n c).cells = [(AV.mslice i o n c)] := rfl
@[go_sem] theorem one_mslice (i o n : Nat) (c : Option Nat) : (AV.mslice i o n c).one = true := rfl
@[go_sem] theorem strip_mslice (i o n : Nat) (c : Option Nat) : (AV.mslice i o n c).strip = (AV.mslice i o n c) := rfl
@[go_sem] theorem cells_nilmap  : AV.nilmap.cells = [AV.nilmap] := rfl
@[go_sem] theorem one_nilmap  : AV.nilmap.one = true := rfl
@[go_sem] theorem strip_nilmap  : AV.nilmap.strip = AV.nilmap := rfl
@[go_sem] theorem flat_nilmap  : AV.nilmap.flat = true := rfl
@[go_sem] theorem cells_map (i : Nat) : (AV.map i).cells = [(AV.map i)] := rfl
@[go_sem] theorem one_map (i : Nat) : (AV.map i).one = true := rfl
@[go_sem] theorem strip_map (i : Nat) : (AV.map i).strip = (AV.map i) := rfl
@[go_sem] theorem cells_nilfunc  : AV.nilfunc.cells = [AV.nilfunc] := rfl
@[go_sem] theorem one_nilfunc  : AV.nilfunc.one = true := rfl
@[go_sem] theorem strip_nilfunc  : AV.nilfunc.strip = AV.nilfunc := rfl
@[go_sem] theorem flat_nilfunc  : AV.nilfunc.flat = true := rfl
@[go_sem] theorem cells_func (f : Nat) (a b : List AV) : (AV.func f a b).cells = [(AV.func f a b)] := rfl
@[go_sem] theorem one_func (f : Nat) (a b : List AV) : (AV.func f a b).one = true := rfl
@[go_sem] theorem strip_func (f : Nat) (a b : List AV) : (AV.func f a b).strip = (AV.func f a b) := rfl
@[go_sem] theorem cells_niliface  : AV.niliface.cells = [AV.niliface] := rfl
@[go_sem] theorem one_niliface  : AV.niliface.one = true := rfl
@[go_sem] theorem strip_niliface  : AV.niliface.strip = AV.niliface := rfl
@[go_sem] theorem flat_niliface  : AV.niliface.flat = true := rfl
@[go_sem] theorem cells_iface (t : Nat) (v : AV) : (AV.iface t v).cells = [(AV.iface t v)] := rfl
@[go_sem] theorem one_iface (t : Nat) (v : AV) : (AV.iface t v).one = true := rfl
@[go_sem] theorem strip_iface (t : Nat) (v : AV) : (AV.iface t v).strip = (AV.iface t v) := rfl
@[go_sem] theorem cells_anyiface  : AV.anyiface.cells = [AV.anyiface] := rfl
@[go_sem] theorem one_anyiface  : AV.anyiface.one = true := rfl
@[go_sem] theorem strip_anyiface  : AV.anyiface.strip = AV.anyiface := rfl
@[go_sem] theorem cells_agg (cs : List AV) : (AV.agg cs).cells = cs := rfl
@[go_sem] theorem strip_agg (cs : List AV) : (AV.agg cs).strip = .agg cs := rfl
@[go_sem] theorem strip_no (cs : List AV) (n : Nat) : (AV.slice cs n .no).strip = .slice cs n .no := rfl
@[go_sem] theorem strip_full (cs : List AV) (n : Nat) : (AV.slice cs n .full).strip = .slice cs n .full := rfl
@[go_sem] theorem strip_tok (cs : List AV) (n k e : Nat) : (AV.slice cs n (.tok k e)).strip = .slice cs n .no := rfl
theorem flat_leave {v : AV} (h : v.flat = true) (n : Nat) : v.drop0 n = v ∧ ∀ p, v.al p = true := by
  cases v <;> simp [AV.flat] at h <;> exact ⟨rfl, fun _ => rfl⟩
theorem LeaveW_flat {s s' : St} {v : AV} (h : v.flat = true) (hl : s.next ≤ s'.low) (K : AV → St → Prop) : LeaveW s s' v K = K v s := by
  obtain ⟨h1, h2⟩ := flat_leave h s.next
  have h3 : v.drop2 s.next = v := by
    cases v <;> simp [AV.flat] at h <;> rfl
  simp only [LeaveW, leave, h3, hl, h2, and_self, if_true]
theorem LeaveW_tuple {s s' : St} {vs : List AV} (h : vs.all AV.flat = true) (hl : s.next ≤ s'.low) (K : AV → St → Prop) : LeaveW s s' (.tuple vs) K = K (.tuple vs) s := by
  have h3 : (AV.tuple vs).drop2 s.next = .tuple vs := by
    simp only [AV.drop2, AV.tuple.injEq]
    conv => rhs; rw [← List.map_id vs]
    refine List.map_congr_left fun v hv => ?_
    have := List.all_eq_true.1 h v hv
    cases v <;> simp [AV.flat] at this <;> rfl
  have h4 : (AV.tuple vs).al (below s.next) = true := by
    simp only [AV.al]
    exact (alAll_iff vs).2 fun v hv => (flat_leave (List.all_eq_true.1 h v hv) 0).2 _
  simp only [LeaveW, leave, h3, hl, h4, and_self, if_true]
theorem LeaveW_agg {s s' : St} {vs : List AV} (h : vs.all AV.flat = true) (hl : s.next ≤ s'.low) (K : AV → St → Prop) : LeaveW s s' (.agg vs) K = K (.agg vs) s := by
  have h3 : (AV.agg vs).drop2 s.next = .agg vs := by
    simp only [AV.drop2, AV.drop1, AV.agg.injEq]
    conv => rhs; rw [← List.map_id vs]
    refine List.map_congr_left fun v hv => ?_
    exact (flat_leave (List.all_eq_true.1 h v hv) _).1
  have h4 : (AV.agg vs).al (below s.next) = true := by
    simp only [AV.al]
    exact (alAll_iff vs).2 fun v hv => (flat_leave (List.all_eq_true.1 h v hv) 0).2 _
  simp only [LeaveW, leave, h3, hl, h4, and_self, if_true]
@[go_sem] theorem LeaveW_bool {s s' : St} (b : Bool) (hl : s.next ≤ s'.low) (K : AV → St → Prop) : LeaveW s s' (.bool b) K = K (.bool b) s := LeaveW_flat rfl hl K
@[go_sem] theorem LeaveW_int {s s' : St} (k : IntKind) (b : Int) (hl : s.next ≤ s'.low) (K : AV → St → Prop) : LeaveW s s' (.int k b) K = K (.int k b) s := LeaveW_flat rfl hl K
@[go_sem] theorem LeaveW_str {s s' : St} (b : List UInt8) (hl : s.next ≤ s'.low) (K : AV → St → Prop) : LeaveW s s' (.str b) K = K (.str b) s := LeaveW_flat rfl hl K
attribute [go_sem] List.getD_cons_succ List.getD_cons_zero List.getD_nil LeaveW_tuple LeaveW_agg Nat.le_refl
end Fw
namespace Fw
open Go
theorem WLoop.rnd {cx : Cx} {b c : ICode} {e : FE} {s : St} {Q : Sig → FE → St → Prop} (hc : b = c) (h : W cx c e s fun g e s => sqn g (WLoop cx b e s Q) (Q g e s)) : WLoop cx b e s Q := by
  subst hc; exact WLoop.round h
theorem wrap_i64 {x : Int} (h : -9223372036854775808 ≤ x) (h2 : x ≤ 9223372036854775807) : IntKind.i64.wrap x = x := by
  show (if true && decide (x % (2 ^ 64 : Int) ≥ (2 ^ 63 : Int)) then x % (2 ^ 64 : Int) - (2 ^ 64 : Int) else x % (2 ^ 64 : Int)) = x

  simp only [Bool.true_and, decide_eq_true_eq]
  split <;> omega
theorem CallW.fn' {cx : Cx} {f nt : Nat} {rs : List IRes} {fn : IFunc} {c : ICode} {args : List AV} {s : St} {K : AV → St → Prop} (hx : cx.ext f = none) (hf : cx.fns f = some fn) (hd : dstOk fn.ntmps fn.body = true) (hc : fn = ⟨nt, rs, c⟩)
    (h : W cx c (argsE args) { s with low := s.next } (RetW s rs K)) : CallW cx f args s K := by
  subst hc; exact CallW.fn hx hf hd h
end Fw

/- operations in a region that draws its order -/
namespace Fw
open Go
section
variable {cx : Cx} {e : FE} {s : St} (K : AV → St → Option Deed → Prop)
@[go_sem ↓] theorem WDeed_mov (x : IX) : WDeed cx e s (.mov x) K = WOp cx e s (.mov x) fun v _ => K v s none := rfl
@[go_sem ↓] theorem WDeed_pick (c a b : IX) : WDeed cx e s (.pick c a b) K = WOp cx e s (.pick c a b) fun v _ => K v s none := rfl
@[go_sem ↓] theorem WDeed_build (z : List AV) (ps : List (Nat × Nat × IX)) : WDeed cx e s (.build z ps) K = WOp cx e s (.build z ps) fun v _ => K v s none := rfl
@[go_sem ↓] theorem WDeed_bslice (z : List AV) (l : Nat) (ps : List (Nat × Nat × IX)) : WDeed cx e s (.bslice z l ps) K = WOp cx e s (.bslice z l ps) fun v _ => K v s none := rfl
@[go_sem ↓] theorem WDeed_nilChk (x : IX) : WDeed cx e s (.nilChk x) K = WOp cx e s (.nilChk x) fun v _ => K v s none := rfl
@[go_sem ↓] theorem WDeed_bin (op : BinOp) (x y : IX) : WDeed cx e s (.bin op x y) K = WOp cx e s (.bin op x y) fun v _ => K v s none := rfl
@[go_sem ↓] theorem WDeed_eqv (n : Bool) (q : EqK) (x y : IX) : WDeed cx e s (.eqv n q x y) K = WOp cx e s (.eqv n q x y) fun v _ => K v s none := rfl
@[go_sem ↓] theorem WDeed_un (op : UnOp) (x : IX) : WDeed cx e s (.un op x) K = WOp cx e s (.un op x) fun v _ => K v s none := rfl
@[go_sem ↓] theorem WDeed_i2i (k : IntKind) (x : IX) : WDeed cx e s (.i2i k x) K = WOp cx e s (.i2i k x) fun v _ => K v s none := rfl
@[go_sem ↓] theorem WDeed_same (x : IX) : WDeed cx e s (.same x) K = WOp cx e s (.same x) fun v _ => K v s none := rfl
@[go_sem ↓] theorem WDeed_i2s (x : IX) : WDeed cx e s (.i2s x) K = WOp cx e s (.i2s x) fun v _ => K v s none := rfl
@[go_sem ↓] theorem WDeed_slcs (x : IX) (lo hi : Option IX) : WDeed cx e s (.slcs x lo hi) K = WOp cx e s (.slcs x lo hi) fun v _ => K v s none := rfl
@[go_sem ↓] theorem WDeed_slc (z : Nat) (x : IX) (lo hi m : Option IX) : WDeed cx e s (.slc z x lo hi m) K = WOp cx e s (.slc z x lo hi m) fun v _ => K v s none := rfl
@[go_sem ↓] theorem WDeed_slca (z n : Nat) (x : IX) (lo hi m : Option IX) : WDeed cx e s (.slca z n x lo hi m) K = WOp cx e s (.slca z n x lo hi m) fun v _ => K v s none := rfl
@[go_sem ↓] theorem WDeed_faddr (o : Nat) (x : IX) : WDeed cx e s (.faddr o x) K = WOp cx e s (.faddr o x) fun v _ => K v s none := rfl
@[go_sem ↓] theorem WDeed_fld (o n : Nat) (g : Bool) (x : IX) : WDeed cx e s (.fld o n g x) K = WOp cx e s (.fld o n g x) fun v _ => K v s none := rfl
@[go_sem ↓] theorem WDeed_iaddr (z : Nat) (arr : Option Nat) (x i : IX) : WDeed cx e s (.iaddr z arr x i) K = WOp cx e s (.iaddr z arr x i) fun v _ => K v s none := rfl
@[go_sem ↓] theorem WDeed_idx (z : Nat) (g : Bool) (arr : Option Nat) (x i : IX) : WDeed cx e s (.idx z g arr x i) K = WOp cx e s (.idx z g arr x i) fun v _ => K v s none := rfl
@[go_sem ↓] theorem WDeed_mkif (t : Nat) (x : IX) : WDeed cx e s (.mkif t x) K = WOp cx e s (.mkif t x) fun v _ => K v s none := rfl
@[go_sem ↓] theorem WDeed_mkfn (f : Nat) (a b : List IX) : WDeed cx e s (.mkfn f a b) K = WOp cx e s (.mkfn f a b) fun v _ => K v s none := rfl
@[go_sem ↓] theorem WDeed_extr (x : IX) (i : Nat) : WDeed cx e s (.extr x i) K = WOp cx e s (.extr x i) fun v _ => K v s none := rfl
@[go_sem ↓] theorem WDeed_mn (xs : List IX) : WDeed cx e s (.mn xs) K = WOp cx e s (.mn xs) fun v _ => K v s none := rfl
@[go_sem ↓] theorem WDeed_mx (xs : List IX) : WDeed cx e s (.mx xs) K = WOp cx e s (.mx xs) fun v _ => K v s none := rfl
@[go_sem ↓] theorem WDeed_lens (x : IX) : WDeed cx e s (.lens x) K = WOp cx e s (.lens x) fun v _ => K v s none := rfl
@[go_sem ↓] theorem WDeed_lenv (x : IX) : WDeed cx e s (.lenv x) K = WOp cx e s (.lenv x) fun v _ => K v s none := rfl
@[go_sem ↓] theorem WDeed_alloc (t : TypeId) (z : List AV) : WDeed cx e s (.alloc t z) K = WOp cx e s (.alloc t z) fun v s' => K v s' (some (.lay s.next)) := rfl
@[go_sem ↓] theorem WDeed_box (t : TypeId) (x : IX) : WDeed cx e s (.box t x) K = WOp cx e s (.box t x) fun v s' => K v s' (some (.lay s.next)) := rfl
@[go_sem ↓] theorem WDeed_b2s (x : IX) : WDeed cx e s (.b2s x) K = WOp cx e { heap := s.heap, next := s.next, low := s.next } (.b2s x) fun v s' => pifN (decide (s'.next = s.next ∧ s'.low = s.next)) (K v s (some .rdAll)) (K v { heap := s'.heap, next := s'.next, low := min s.low s'.low } (some .wrAll)) := rfl
@[go_sem ↓] theorem WDeed_s2b (x : IX) : WDeed cx e s (.s2b x) K = WOp cx e { heap := s.heap, next := s.next, low := s.next } (.s2b x) fun v s' => pifN (decide (s'.next = s.next ∧ s'.low = s.next)) (K v s (some .rdAll)) (K v { heap := s'.heap, next := s'.next, low := min s.low s'.low } (some .wrAll)) := rfl
@[go_sem ↓] theorem WDeed_look (kk : CK) (z : AV) (ok : Bool) (m k : IX) : WDeed cx e s (.look kk z ok m k) K = WOp cx e { heap := s.heap, next := s.next, low := s.next } (.look kk z ok m k) fun v s' => pifN (decide (s'.next = s.next ∧ s'.low = s.next)) (K v s (some .rdAll)) (K v { heap := s'.heap, next := s'.next, low := min s.low s'.low } (some .wrAll)) := rfl
@[go_sem ↓] theorem WDeed_mupd (kk : CK) (m k v : IX) : WDeed cx e s (.mupd kk m k v) K = WOp cx e { heap := s.heap, next := s.next, low := s.next } (.mupd kk m k v) fun v s' => pifN (decide (s'.next = s.next ∧ s'.low = s.next)) (K v s (some .rdAll)) (K v { heap := s'.heap, next := s'.next, low := min s.low s'.low } (some .wrAll)) := rfl
@[go_sem ↓] theorem WDeed_mkmap  : WDeed cx e s .mkmap K = WOp cx e { heap := s.heap, next := s.next, low := s.next } .mkmap fun v s' => pifN (decide (s'.next = s.next ∧ s'.low = s.next)) (K v s (some .rdAll)) (K v { heap := s'.heap, next := s'.next, low := min s.low s'.low } (some .wrAll)) := rfl
@[go_sem ↓] theorem WDeed_mkslice (y : Nat) (z : List AV) (l c : IX) : WDeed cx e s (.mkslice y z l c) K = WOp cx e { heap := s.heap, next := s.next, low := s.next } (.mkslice y z l c) fun v s' => pifN (decide (s'.next = s.next ∧ s'.low = s.next)) (K v s (some .rdAll)) (K v { heap := s'.heap, next := s'.next, low := min s.low s'.low } (some .wrAll)) := rfl
@[go_sem ↓] theorem WDeed_lenm (x : IX) : WDeed cx e s (.lenm x) K = WOp cx e { heap := s.heap, next := s.next, low := s.next } (.lenm x) fun v s' => pifN (decide (s'.next = s.next ∧ s'.low = s.next)) (K v s (some .rdAll)) (K v { heap := s'.heap, next := s'.next, low := min s.low s'.low } (some .wrAll)) := rfl
@[go_sem ↓] theorem WDeed_app (ty z y : Nat) (a b : IX) : WDeed cx e s (.app ty z y a b) K = WOp cx e { heap := s.heap, next := s.next, low := s.next } (.app ty z y a b) fun v s' => pifN (decide (s'.next = s.next ∧ s'.low = s.next)) (K v s (some .rdAll)) (K v { heap := s'.heap, next := s'.next, low := min s.low s'.low } (some .wrAll)) := rfl
@[go_sem ↓] theorem WDeed_copy (z : Nat) (a b : IX) : WDeed cx e s (.copy z a b) K = WOp cx e { heap := s.heap, next := s.next, low := s.next } (.copy z a b) fun v s' => pifN (decide (s'.next = s.next ∧ s'.low = s.next)) (K v s (some .rdAll)) (K v { heap := s'.heap, next := s'.next, low := min s.low s'.low } (some .wrAll)) := rfl
@[go_sem ↓] theorem WDeed_call (f : IX) (xs : List IX) : WDeed cx e s (.call f xs) K = WOp cx e { heap := s.heap, next := s.next, low := s.next } (.call f xs) fun v s' => pifN (decide (s'.next = s.next ∧ s'.low = s.next)) (K v s (some .rdAll)) (K v { heap := s'.heap, next := s'.next, low := min s.low s'.low } (some .wrAll)) := rfl
@[go_sem ↓] theorem WDeed_load (g : Bool) (n : Nat) (a : IX) : WDeed cx e s (.load g n a) K = oget (a.evF cx e) fun a => oget (loadA s g n a) fun v => K v s (deedOf a) := rfl
@[go_sem ↓] theorem WDeed_store (n : Nat) (a x : IX) : WDeed cx e s (.store n a x) K = oget (a.evF cx e) fun a => oget (x.evF cx e) fun x => oget (storeA s n a x) fun s => K AV.undef s (some (deedW a)) := rfl
end
@[go_sem] theorem deedOf_ptr (i o : Nat) : deedOf (.ptr i o) = some (.rd i) := rfl
@[go_sem] theorem deedOf_vptr (cs : List AV) (o : Nat) : deedOf (.vptr cs o) = none := rfl
@[go_sem] theorem deedW_ptr (i o : Nat) : deedW (.ptr i o) = .wr i := rfl
@[go_sem] theorem freeAll_nil (m : Nat) (d : Deed) : freeAll m d [] = true := rfl
@[go_sem] theorem freeAll_cons (m : Nat) (d : Deed) (j : Nat) (e : Deed) (ds : List (Nat × Deed)) : freeAll m d ((j, e) :: ds) = ((m.testBit j || e.free d) && freeAll m d ds) := rfl
@[go_sem] theorem free_rd_rd (i j : Nat) : (Deed.rd i).free (.rd j) = true := rfl
@[go_sem] theorem free_rd_all (i : Nat) : (Deed.rd i).free .rdAll = true := rfl
@[go_sem] theorem free_all_rd (i : Nat) : Deed.rdAll.free (.rd i) = true := rfl
@[go_sem] theorem free_all_all : Deed.rdAll.free .rdAll = true := rfl
@[go_sem] theorem free_rd_lay (i j : Nat) : (Deed.rd i).free (.lay j) = true := rfl
@[go_sem] theorem free_wr_lay (i j : Nat) : (Deed.wr i).free (.lay j) = true := rfl
@[go_sem] theorem free_lay_lay (i j : Nat) : (Deed.lay i).free (.lay j) = true := rfl
@[go_sem] theorem free_rda_lay (j : Nat) : Deed.rdAll.free (.lay j) = true := rfl
@[go_sem] theorem free_wra_lay (j : Nat) : Deed.wrAll.free (.lay j) = true := rfl
@[go_sem] theorem free_lay_rd (i j : Nat) : (Deed.lay i).free (.rd j) = decide (i ≠ j) := rfl
@[go_sem] theorem free_lay_wr (i j : Nat) : (Deed.lay i).free (.wr j) = decide (i ≠ j) := rfl
@[go_sem] theorem free_rd_wr (i j : Nat) : (Deed.rd i).free (.wr j) = decide (i ≠ j) := rfl
@[go_sem] theorem free_wr_rd (i j : Nat) : (Deed.wr i).free (.rd j) = decide (i ≠ j) := rfl
@[go_sem] theorem free_wr_wr (i j : Nat) : (Deed.wr i).free (.wr j) = decide (i ≠ j) := rfl
@[go_sem] theorem free_wra_rd (j : Nat) : Deed.wrAll.free (.rd j) = false := rfl
@[go_sem] theorem free_wra_rda : Deed.wrAll.free .rdAll = false := rfl
@[go_sem] theorem free_lay_rda (i : Nat) : (Deed.lay i).free .rdAll = false := rfl
@[go_sem] theorem free_wr_rda (i : Nat) : (Deed.wr i).free .rdAll = false := rfl
@[go_sem] theorem tb_zero (m : Nat) : m.testBit 0 = decide (m % 2 = 1) := Nat.testBit_zero m
@[go_sem] theorem tb_succ (m j : Nat) : m.testBit (j + 1) = (m / 2).testBit j := Nat.testBit_succ m j
end Fw

namespace Fw
open Go
theorem LeaveW_slice {s s' : St} {cs : List AV} {n : Nat} {o : Own} (ho : o = .no ∨ o = .full) (h : alAll (fun _ => false) cs = true) (hl : s.next ≤ s'.low) (K : AV → St → Prop) : LeaveW s s' (.slice cs n o) K = K (.slice cs n o) s := by
  have h3 : (AV.slice cs n o).drop2 s.next = .slice cs n o := by rcases ho with rfl | rfl <;> rfl
  have h4 : (AV.slice cs n o).al (below s.next) = true := by
    have := alAll_mono (m := below s.next) (fun _ h => by cases h) _ h
    rcases ho with rfl | rfl <;> simp [AV.al, Own.al, this]
  simp only [LeaveW, leave, h3, hl, h4, and_self, if_true]
theorem oget_iaddr_slice (z : Nat) (cs : List AV) (n : Nat) (o : Own) (i : Int) (K : AV → Prop) : oget (iaddrA z none (.slice cs n o) i) K = ((0 ≤ i ∧ i < n) ∧ K (.vptr cs (i.toNat * z))) := by
  simp only [iaddrA]
  by_cases h : 0 ≤ i ∧ i < n
  · rw [if_pos h]; simp [oget, h]
  · rw [if_neg h]; simp [oget, h]
theorem oget_iaddr_mslice (z id o n : Nat) (c : Option Nat) (i : Int) (K : AV → Prop) : oget (iaddrA z none (.mslice id o n c) i) K = ((0 ≤ i ∧ i < n) ∧ K (.ptr id (o + i.toNat * z))) := by
  simp only [iaddrA]
  by_cases h : 0 ≤ i ∧ i < n
  · rw [if_pos h]; simp [oget, h]
  · rw [if_neg h]; simp [oget, h]
attribute [go_sem ↓] oget_iaddr_slice oget_iaddr_mslice
theorem sub_one {cs : List AV} {i : Nat} (h : i < cs.length) : sub cs i 1 = some [cs.getD i AV.undef] := by
  unfold sub
  rw [if_pos (by omega), List.drop_eq_getElem_cons h, List.take_succ_cons, List.take_zero]
  simp [List.getD, h]
@[go_sem] theorem Nat_mul_one (n : Nat) : n * 1 = n := Nat.mul_one n
end Fw

namespace Fw
open Go
theorem LeaveW_map {s s' : St} {i : Nat} (h : s.next ≤ i) (K : AV → St → Prop) : LeaveW s s' (.map i) K = K (.map i) { heap := s'.heap, next := s'.next, low := min s.low s'.low } := by
  have h4 : (AV.map i).al (below s.next) = false := by simp [AV.al, below]; exact h
  simp only [LeaveW, leave, AV.drop2, AV.drop1, AV.drop0, h4, Bool.false_eq_true, and_false, if_false]
theorem LeaveW_ptr {s s' : St} {i o : Nat} (h : s.next ≤ i) (K : AV → St → Prop) : LeaveW s s' (.ptr i o) K = K (.ptr i o) { heap := s'.heap, next := s'.next, low := min s.low s'.low } := by
  have h4 : (AV.ptr i o).al (below s.next) = false := by simp [AV.al, below]; exact h
  simp only [LeaveW, leave, AV.drop2, AV.drop1, AV.drop0, h4, Bool.false_eq_true, and_false, if_false]
@[go_sem] theorem next_ne (n k : Nat) : (n + k = n) = (k = 0) := by simp
@[go_sem] theorem ne_next (n k : Nat) : (n = n + k) = (k = 0) := by simp
@[go_sem] theorem next_add (n a b : Nat) : n + a + b = n + (a + b) := Nat.add_assoc n a b
end Fw

attribute [go_sem] List.getElem?_cons_zero List.getElem?_cons_succ Option.getD_some Option.getD_none Option.isSome_some Option.isSome_none Nat.add_lt_add_iff_left Nat.lt_add_right_iff_pos

namespace Fw
open Go
theorem LeaveW_new {s s' : St} {v : AV} (hd : v.drop2 s.next = v) (ha : v.al (below s.next) = false) (K : AV → St → Prop) : LeaveW s s' v K = K v { heap := s'.heap, next := s'.next, low := min s.low s'.low } := by
  simp only [LeaveW, leave, hd, ha, Bool.false_eq_true, and_false, if_false]
end Fw

namespace Fw
open Go
theorem WLoop.rndB {cx : Cx} {b c : ICode} {e : FE} {s : St} {Q : Sig → FE → St → Prop} (hc : b = c) (h : W cx c e s fun g e s => sqn g (@WLoopB cx b e s ⟨Q⟩) (Q g e s)) : WLoop cx b e s Q := WLoop.rnd hc h
@[go_sem] theorem fold1_cons (f : AV → AV → Option AV) (v : AV) (vs : List AV) : fold1 f (v :: vs) = fold2 f v vs := rfl
@[go_sem] theorem fold2_nil (f : AV → AV → Option AV) (v : AV) : fold2 f v [] = some v := rfl
@[go_sem] theorem fold2_cons (f : AV → AV → Option AV) (v b : AV) (bs : List AV) : fold2 f v (b :: bs) = (f v b).bind fun c => fold2 f c bs := rfl
@[go_sem] theorem max2_int (k k' : IntKind) (x y : Int) : max2 (.int k x) (.int k' y) = some (.int k (max x y)) := by
  simp only [max2]; congr 2; split <;> omega
@[go_sem] theorem min2_int (k k' : IntKind) (x y : Int) : min2 (.int k x) (.int k' y) = some (.int k (min x y)) := by
  simp only [min2]; congr 2; split <;> omega
end Fw

namespace Fw
open Go
def AV.flat1 : AV → Bool
  | .agg cs => cs.all AV.flat
  | v => v.flat
@[go_sem] theorem flat1_agg (cs : List AV) : (AV.agg cs).flat1 = cs.all AV.flat := rfl
@[go_sem] theorem flat1_bool (b : Bool) : (AV.bool b).flat1 = true := rfl
@[go_sem] theorem flat1_int (k : IntKind) (n : Int) : (AV.int k n).flat1 = true := rfl
@[go_sem] theorem flat1_str (b : List UInt8) : (AV.str b).flat1 = true := rfl
@[go_sem] theorem flat1_nilslice : AV.nilslice.flat1 = true := rfl
theorem flat1_leave {v : AV} (h : v.flat1 = true) (n : Nat) : v.drop1 n = v ∧ ∀ p, v.al p = true := by
  by_cases ha : ∃ cs, v = .agg cs
  · obtain ⟨cs, rfl⟩ := ha
    have h1 : ∀ x ∈ cs, x.flat = true := List.all_eq_true.1 h
    refine ⟨?_, fun p => (alAll_iff cs).2 fun x hx => (flat_leave (h1 x hx) 0).2 p⟩
    simp only [AV.drop1, AV.agg.injEq]
    conv => rhs; rw [← List.map_id cs]
    exact List.map_congr_left fun x hx => (flat_leave (h1 x hx) n).1
  · have h1 : v.flat = true := by
      cases v <;> first | exact absurd ⟨_, rfl⟩ ha | exact h
    obtain ⟨h2, h3⟩ := flat_leave h1 n
    refine ⟨?_, h3⟩
    cases v <;> first | exact absurd ⟨_, rfl⟩ ha | exact h2
@[go_sem] theorem LeaveW_tuple2 {s s' : St} {vs : List AV} (h : vs.all AV.flat1 = true) (hl : s.next ≤ s'.low) (K : AV → St → Prop) : LeaveW s s' (.tuple vs) K = K (.tuple vs) s := by
  have h3 : (AV.tuple vs).drop2 s.next = .tuple vs := by
    simp only [AV.drop2, AV.tuple.injEq]
    conv => rhs; rw [← List.map_id vs]
    exact List.map_congr_left fun v hv => (flat1_leave (List.all_eq_true.1 h v hv) _).1
  have h4 : (AV.tuple vs).al (below s.next) = true := by
    simp only [AV.al]
    exact (alAll_iff vs).2 fun v hv => (flat1_leave (List.all_eq_true.1 h v hv) 0).2 _
  simp only [LeaveW, leave, h3, hl, h4, and_self, if_true]
@[go_sem] theorem eq_agg (ks : List CK) (a b : List AV) : evEq (.agg ks) (.agg a) (.agg b) = cellsEq ks a b := rfl
@[go_sem] theorem cellsEq_nil : cellsEq [] [] [] = some true := rfl
@[go_sem] theorem cellsEq_int (ks : List CK) (k : IntKind) (a b : Int) (us vs : List AV) (h1 : us.length = ks.length) (h2 : vs.length = ks.length) : cellsEq (.int :: ks) (.int k a :: us) (.int k b :: vs) = if a = b then cellsEq ks us vs else some false := by
  simp only [cellsEq, cellEqK, if_true, h1, h2, and_self]
  by_cases h : a = b
  · subst h; simp
  · have h' : (a == b) = false := by simpa using h
    rw [h', if_neg h]
@[go_sem] theorem cellsEq_str (ks : List CK) (a b : List UInt8) (us vs : List AV) (h1 : us.length = ks.length) (h2 : vs.length = ks.length) : cellsEq (.str :: ks) (.str a :: us) (.str b :: vs) = if a = b then cellsEq ks us vs else some false := by
  simp only [cellsEq, cellEqK, if_true, h1, h2, and_self]
  by_cases h : a = b
  · subst h; simp
  · have h' : (a == b) = false := by simpa using h
    rw [h', if_neg h]
@[go_sem] theorem cellsEq_bool (ks : List CK) (a b : Bool) (us vs : List AV) (h1 : us.length = ks.length) (h2 : vs.length = ks.length) : cellsEq (.bool :: ks) (.bool a :: us) (.bool b :: vs) = if a = b then cellsEq ks us vs else some false := by
  simp only [cellsEq, cellEqK, if_true, h1, h2, and_self]
  by_cases h : a = b
  · subst h; simp
  · have h' : (a == b) = false := by simpa using h
    rw [h', if_neg h]
end Fw

namespace Fw
open Go
@[go_sem] theorem fillF_nil (cx : Cx) (e : FE) (cells : List AV) : fillF cx e cells [] = some cells := rfl
@[go_sem] theorem fillF_cons (cx : Cx) (e : FE) (cells : List AV) (off n : Nat) (x : IX) (ps : List (Nat × Nat × IX)) : fillF cx e cells ((off, n, x) :: ps) =
    (x.evF cx e).bind fun v => if v.cells.length = n then (patch cells off v.cells).bind fun cs => fillF cx e cs ps else none := rfl
end Fw
