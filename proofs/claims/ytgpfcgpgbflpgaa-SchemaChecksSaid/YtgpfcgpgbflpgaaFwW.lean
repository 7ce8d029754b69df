/- The evaluator without fuel and without lists of temporaries: what a piece of code comes to, as a proposition that a rewriter computes. -/
import Derived.Test.YtgpfcgpgbflpgaaFwM
namespace Fw
open Go

abbrev FE := Nat → AV
def upd (d : Option Nat) (v : AV) (e : FE) : FE := match d with
  | some d => fun t => if t = d then v else e t
  | none => e

theorem upd_eq (d : Nat) (v : AV) (e : FE) : upd (some d) v e d = v := by simp [upd]
theorem upd_ne {d t : Nat} (v : AV) (e : FE) (h : t ≠ d) : upd (some d) v e t = e t := by simp [upd, h]
theorem upd_get (d t : Nat) (v : AV) (e : FE) : upd (some d) v e t = if t = d then v else e t := rfl
theorem upd_none (v : AV) (e : FE) : upd none v e = e := rfl

def Fits (n : Nat) (ρ : Env) (e : FE) : Prop := n ≤ ρ.length ∧ ∀ t, ρ.get t = e t

def dOk (n : Nat) : Option Nat → Bool
  | some d => decide (d < n)
  | none => true

theorem Fits.put {n : Nat} {ρ : Env} {e : FE} (h : Fits n ρ e) {d : Option Nat} (hd : dOk n d = true) (v : AV) : Fits n (ρ.put d v) (upd d v e) := by
  cases d with
  | none => exact h
  | some d =>
    simp only [dOk, decide_eq_true_eq] at hd
    refine ⟨by simp [Env.put]; exact h.1, fun t => ?_⟩
    have h1 := h.1
    have h2 := h.2 t
    simp only [Env.get, List.getD, Env.put, upd, List.getElem?_set] at h2 ⊢
    by_cases ht : t = d
    · subst ht; simp [show t < ρ.length by omega]
    · rw [if_neg (fun e => ht e.symm), if_neg ht]; exact h2

def IX.evF (cx : Cx) (e : FE) : IX → Option AV
  | .tmp t => some (e t)
  | .const a => some a
  | .glob g => (cx.gl g).map (AV.vptr · 0)

def evsF (cx : Cx) (e : FE) : List IX → Option (List AV)
  | [] => some []
  | x :: xs => (x.evF cx e).bind fun a => (evsF cx e xs).map (a :: ·)

def evoF (cx : Cx) (e : FE) : Option IX → Option (Option AV)
  | none => some none
  | some x => (x.evF cx e).map some

theorem ev_fits {cx : Cx} {n : Nat} {ρ : Env} {e : FE} (h : Fits n ρ e) (x : IX) : x.ev cx ρ = x.evF cx e := by
  cases x <;> simp [IX.ev, IX.evF, h.2]
theorem evs_fits {cx : Cx} {n : Nat} {ρ : Env} {e : FE} (h : Fits n ρ e) : ∀ xs, evs cx ρ xs = evsF cx e xs
  | [] => rfl
  | x :: xs => by simp only [evs, evsF, ev_fits h, evs_fits h xs]
theorem evo_fits {cx : Cx} {n : Nat} {ρ : Env} {e : FE} (h : Fits n ρ e) (x : Option IX) : evo cx ρ x = evoF cx e x := by
  cases x <;> simp [evo, evoF, ev_fits h]

def fillF (cx : Cx) (e : FE) (cells : List AV) : List (Nat × Nat × IX) → Option (List AV)
  | [] => some cells
  | (off, n, x) :: ps => (x.evF cx e).bind fun v =>
    if v.cells.length = n then (patch cells off v.cells).bind fun cs => fillF cx e cs ps else none
theorem fill_fits {cx : Cx} {n : Nat} {ρ : Env} {e : FE} (h : Fits n ρ e) : ∀ ps cells, fillA cx ρ cells ps = fillF cx e cells ps
  | [], _ => rfl
  | (off, m, x) :: ps, cells => by
    simp only [fillA, fillF, ev_fits h]
    congr; funext v; split
    · congr; funext cs; exact fill_fits h ps cs
    · rfl

/-- What is handed on if there is something. -/
def oget {α : Type} (o : Option α) (K : α → Prop) : Prop := match o with
  | some a => K a
  | none => False
theorem oget_some {α : Type} (a : α) (K : α → Prop) : oget (some a) K = K a := rfl
theorem oget_none {α : Type} (K : α → Prop) : oget none K = False := rfl
theorem oget_congr {α : Type} {o o' : Option α} {K : α → Prop} (h : Unit → o = o') : oget o K = oget o' K := by rw [h ()]
theorem oget_iff {α : Type} {o : Option α} {K : α → Prop} : oget o K ↔ ∃ a, o = some a ∧ K a := by
  cases o <;> simp [oget]

/-- The call of a function: it comes to an end, and so. -/
def CallW (cx : Cx) (f : Nat) (args : List AV) (s : St) (K : AV → St → Prop) : Prop := ∃ k v s', callF cx k f args s = some (v, s') ∧ K v s'

def pif (b : Bool) (p q : Prop) : Prop := if b = true then p else q
def bcase (v : AV) (a b : Prop) : Prop := match v with
  | .bool t => pif t a b
  | _ => False
theorem bcase_bool (t : Bool) (a b : Prop) : bcase (.bool t) a b = pif t a b := rfl
theorem bcase_congr {v v' : AV} {a b : Prop} (h : Unit → v = v') : bcase v a b = bcase v' a b := by rw [h ()]

def selB (v : AV) (a b : AV) : Option AV := match v with
  | .bool t => some (if t then a else b)
  | _ => none

def isPtr (x : AV) : Option AV := match x with
  | .ptr id off => some (.ptr id off)
  | .vptr cs off => some (.vptr cs off)
  | .func f a b => some (.func f a b)
  | _ => none
def wrapA (k : IntKind) : AV → Option AV
  | .int _ n => some (.int k (k.wrap n))
  | _ => none
def strA : AV → Option (List UInt8)
  | .str t => some t
  | _ => none
def b2sA (s : St) : AV → Option AV
  | .nilslice => some (.str [])
  | .str _ => none
  | v => ((cellsOf s 1 v).bind bytesOf).map .str
def i2sA : AV → Option AV
  | .int _ n => some (.str (Utf8.encode n).data.toList)
  | _ => none
def faddrA (off : Nat) : AV → Option AV
  | .ptr id o => some (.ptr id (o + off))
  | .vptr cs o => some (.vptr cs (o + off))
  | _ => none
def fldA (off n : Nat) (agg : Bool) : AV → Option AV
  | .agg cs => (sub cs off n).bind (ofCells agg)
  | _ => none
def extrA (i : Nat) : AV → Option AV
  | .tuple vs => vs[i]?
  | _ => none
def lensA : AV → Option AV
  | .str b => some (.int .i64 b.length)
  | _ => none
def lenvA : AV → Option AV
  | .nilslice => some (.int .i64 0)
  | .slice _ n _ => some (.int .i64 n)
  | .mslice _ _ n _ => some (.int .i64 n)
  | _ => none
def mupdA (kk : CK) (s : St) (k v : AV) : AV → Option St
  | .map id => match s.get id with
    | some (.map es) => (mapPut kk k v.strip es).map fun es => s.set id (.map es)
    | _ => none
  | _ => none
def slcsA (x : AV) (lo hi : Option AV) : Option AV := match x with
  | .str b => (bounds b.length lo hi).map fun p => .str ((b.drop p.1).take (p.2 - p.1))
  | _ => none
def mkslA (s : St) (bytes : Nat) (z : List AV) : AV → AV → Option (AV × St)
  | .int .i64 l, .int .i64 c => if 0 ≤ l ∧ l ≤ c ∧ c.toNat * bytes ≤ room then
        some (.mslice s.next 0 l.toNat (some c.toNat), s.new (.cells none ((List.replicate c.toNat z).flatten)))
      else none
  | _, _ => none
def fold1 (f : AV → AV → Option AV) : List AV → Option AV
  | v :: vs => fold2 f v vs
  | [] => none

def FunK (cx : Cx) (f : AV) (vs : List AV) (s : St) (K : AV → St → Prop) : Prop := match f with
  | .func g a b => CallW cx g (a ++ vs ++ b) s K
  | _ => False

def WOp (cx : Cx) (e : FE) (s : St) (o : IOp) (K : AV → St → Prop) : Prop := match o with
  | .mov x => oget (x.evF cx e) fun a => K a s
  | .pick c a b => oget (c.evF cx e) fun c => oget (a.evF cx e) fun a => oget (b.evF cx e) fun b => oget (selB c a b) fun v => K v s
  | .alloc t z => K (.ptr s.next 0) (s.new (.cells (some t) z))
  | .box t x => oget (x.evF cx e) fun v => K (.ptr s.next 0) (s.new (.cells (some t) v.cells))
  | .build z ps => oget (fillF cx e z ps) fun cs => K (.agg cs) s
  | .bslice z len ps => oget (fillF cx e z ps) fun cs => K (.slice (cs.map AV.strip) len .full) s
  | .load agg n a => oget (a.evF cx e) fun a => oget (loadA s agg n a) fun v => K v s
  | .store n a x => oget (a.evF cx e) fun a => oget (x.evF cx e) fun x => oget (storeA s n a x) fun s => K AV.undef s
  | .nilChk x => oget (x.evF cx e) fun a => oget (isPtr a) fun v => K v s
  | .bin op x y => oget (x.evF cx e) fun a => oget (y.evF cx e) fun b => oget (evBin op a b) fun v => K v s
  | .eqv neg q x y => oget (x.evF cx e) fun a => oget (y.evF cx e) fun b => oget (evEq q a b) fun r => K (.bool (if neg then !r else r)) s
  | .un op x => oget (x.evF cx e) fun a => oget (evUn op a) fun v => K v s
  | .i2i k x => oget (x.evF cx e) fun a => oget (wrapA k a) fun v => K v s
  | .same x => oget (x.evF cx e) fun a => oget (strA a) fun t => K (.str t) s
  | .b2s x => oget (x.evF cx e) fun a => oget (b2sA s a) fun v => K v s
  | .s2b x => oget (x.evF cx e) fun a => oget (strA a) fun t => K (.mslice s.next 0 t.length none) (s.new (.cells none (byteCells t)))
  | .i2s x => oget (x.evF cx e) fun a => oget (i2sA a) fun v => K v s
  | .slcs x lo hi => oget (x.evF cx e) fun x => oget (evoF cx e lo) fun lo => oget (evoF cx e hi) fun hi => oget (slcsA x lo hi) fun v => K v s
  | .slc esz x lo hi mx => oget (x.evF cx e) fun x => oget (evoF cx e lo) fun lo => oget (evoF cx e hi) fun hi => oget (evoF cx e mx) fun mx => oget (sliceA esz x lo hi mx) fun v => K v s
  | .slca esz n x lo hi mx => oget (x.evF cx e) fun x => oget (evoF cx e lo) fun lo => oget (evoF cx e hi) fun hi => oget (evoF cx e mx) fun mx => oget (sliceArr esz n x lo hi mx) fun v => K v s
  | .faddr off x => oget (x.evF cx e) fun a => oget (faddrA off a) fun v => K v s
  | .fld off n agg x => oget (x.evF cx e) fun a => oget (fldA off n agg a) fun v => K v s
  | .iaddr esz arr x i => oget (x.evF cx e) fun x => oget (i.evF cx e) fun i => oget (asI i) fun i => oget (iaddrA esz arr x i) fun v => K v s
  | .idx esz agg arr x i => oget (x.evF cx e) fun x => oget (i.evF cx e) fun i => oget (asI i) fun i => oget (idxA esz agg arr x i) fun v => K v s
  | .look kk z ok m k => oget (m.evF cx e) fun m => oget (k.evF cx e) fun k => oget (entriesOf s m) fun es => oget (mapFind kk k es) fun (r : Option AV) => K (if ok then .tuple [r.getD z, .bool r.isSome] else r.getD z) s
  | .mupd kk m k v => oget (m.evF cx e) fun m => oget (k.evF cx e) fun k => oget (v.evF cx e) fun v => oget (mupdA kk s k v m) fun s => K AV.undef s
  | .mkmap => K (.map s.next) (s.new (.map []))
  | .mkif t x => oget (x.evF cx e) fun v => K (.iface t v.strip) s
  | .mkfn f a b => oget (evsF cx e a) fun a => oget (evsF cx e b) fun b => K (.func f a b) s
  | .mkslice bytes z len cap => oget (len.evF cx e) fun l => oget (cap.evF cx e) fun c => oget (mkslA s bytes z l c) fun p => K p.1 p.2
  | .extr x i => oget (x.evF cx e) fun a => oget (extrA i a) fun v => K v s
  | .lens x => oget (x.evF cx e) fun a => oget (lensA a) fun v => K v s
  | .lenv x => oget (x.evF cx e) fun a => oget (lenvA a) fun v => K v s
  | .lenm x => oget (x.evF cx e) fun a => oget (entriesOf s a) fun es => K (.int .i64 es.length) s
  | .mn xs => oget (evsF cx e xs) fun vs => oget (fold1 min2 vs) fun v => K v s
  | .mx xs => oget (evsF cx e xs) fun vs => oget (fold1 max2 vs) fun v => K v s
  | .app ty esz bytes a b => oget (a.evF cx e) fun a => oget (b.evF cx e) fun b => oget (appendA s ty esz bytes a b) fun p => K p.1 p.2
  | .copy esz a b => oget (a.evF cx e) fun a => oget (b.evF cx e) fun b => oget (copyA s esz a b) fun p => K p.1 p.2
  | .call f xs => oget (f.evF cx e) fun f => oget (evsF cx e xs) fun vs => FunK cx f vs s K
  | .bad => False

theorem exec_mono {cx : Cx} {k k' : Nat} (h : k ≤ k') : XLe (exec cx k) (exec cx k') := by
  induction h with
  | refl => exact fun _ _ _ _ h => h
  | step _ ih => exact fun c ρ s r h => exec_le _ c ρ s r (ih c ρ s r h)
theorem callF_mono {cx : Cx} {k k' : Nat} (h : k ≤ k') : CLe (callF cx k) (callF cx k') := callWith_le (exec_mono h)

theorem WOp_sound {cx : Cx} {n : Nat} {ρ : Env} {e : FE} {s : St} {o : IOp} {K : AV → St → Prop} (hF : Fits n ρ e) (h : WOp cx e s o K) : ∃ k v s', evOp cx (callF cx k) ρ s o = some (v, s') ∧ K v s' := by
  cases o
  case call f xs =>
    simp only [WOp, oget_iff] at h
    obtain ⟨a, h1, vs, h2, h3⟩ := h
    unfold FunK at h3
    split at h3
    · obtain ⟨k, v, s', h4, h5⟩ := h3
      refine ⟨k, v, s', ?_, h5⟩
      simp only [evOp, ev_fits hF, h1, evs_fits hF, h2, Option.bind_some]; exact h4
    · exact h3.elim
  case bad => exact h.elim
  case pick c a b =>
    simp only [WOp, oget_iff] at h
    obtain ⟨c', h1, a', h2, b', h3, v, h4, h5⟩ := h
    refine ⟨0, v, s, ?_, h5⟩
    unfold selB at h4
    split at h4 <;> cases h4
    rename_i t
    simp only [evOp, ev_fits hF, h1]
    cases t <;> simp [h2, h3]
  all_goals
    refine ⟨0, ?_⟩
    simp only [WOp, oget_iff] at h
    simp only [evOp, ev_fits hF, evs_fits hF, evo_fits hF, fill_fits hF]
  case mov => obtain ⟨a, h1, h2⟩ := h; exact ⟨_, _, by simp [h1], h2⟩
  case alloc => exact ⟨_, _, rfl, h⟩
  case box => obtain ⟨a, h1, h2⟩ := h; exact ⟨_, _, by simp [h1], h2⟩
  case build => obtain ⟨a, h1, h2⟩ := h; exact ⟨_, _, by simp [h1], h2⟩
  case bslice => obtain ⟨a, h1, h2⟩ := h; exact ⟨_, _, by simp [h1], h2⟩
  case load => obtain ⟨a, h1, v, h2, h3⟩ := h; exact ⟨_, _, by simp [h1, h2], h3⟩
  case store => obtain ⟨a, h1, b, h2, t, h3, h4⟩ := h; exact ⟨_, _, by simp [h1, h2, h3], h4⟩
  case nilChk =>
    obtain ⟨a, h1, v, h2, h3⟩ := h
    unfold isPtr at h2
    split at h2 <;> cases h2 <;> exact ⟨_, _, by simp [h1], h3⟩
  case bin => obtain ⟨a, h1, b, h2, t, h3, h4⟩ := h; exact ⟨_, _, by simp [h1, h2, h3], h4⟩
  case eqv neg q x y => obtain ⟨a, h1, b, h2, t, h3, h4⟩ := h; exact ⟨_, _, by simp only [h1, h2, h3, Option.bind_some, Option.map_some], h4⟩
  case un => obtain ⟨a, h1, v, h2, h3⟩ := h; exact ⟨_, _, by simp [h1, h2], h3⟩
  case i2i =>
    obtain ⟨a, h1, v, h2, h3⟩ := h
    unfold wrapA at h2
    split at h2 <;> cases h2; exact ⟨_, _, by simp [h1], h3⟩
  case same =>
    obtain ⟨a, h1, v, h2, h3⟩ := h
    unfold strA at h2
    split at h2 <;> cases h2; exact ⟨_, _, by simp [h1], h3⟩
  case b2s =>
    obtain ⟨a, h1, v, h2, h3⟩ := h
    unfold b2sA at h2
    split at h2
    · cases h2; exact ⟨_, _, by simp [h1], h3⟩
    · cases h2
    · rename_i x1 x2
      simp only [Option.map_eq_some_iff] at h2; obtain ⟨b, h4, rfl⟩ := h2
      refine ⟨_, _, ?_, h3⟩
      rw [h1]
      split
      · rename_i heq; cases heq; exact absurd rfl x1
      · rename_i heq; cases heq; exact absurd rfl (x2 _)
      · rename_i heq; cases heq; rw [h4]; rfl
      · rename_i heq; cases heq
  case s2b =>
    obtain ⟨a, h1, v, h2, h3⟩ := h
    unfold strA at h2
    split at h2 <;> cases h2; exact ⟨_, _, by simp [h1], h3⟩
  case i2s =>
    obtain ⟨a, h1, v, h2, h3⟩ := h
    unfold i2sA at h2
    split at h2 <;> cases h2; exact ⟨_, _, by simp [h1], h3⟩
  case slcs =>
    obtain ⟨a, h1, lo, h2, hi, h3, v, h4, h5⟩ := h
    unfold slcsA at h4
    split at h4 <;> try cases h4
    simp only [Option.map_eq_some_iff] at h4; obtain ⟨p, h6, rfl⟩ := h4
    exact ⟨_, _, by simp [h1, h2, h3, h6], h5⟩
  case slc => obtain ⟨a, h1, lo, h2, hi, h3, m, h4, v, h5, h6⟩ := h; exact ⟨_, _, by simp [h1, h2, h3, h4, h5], h6⟩
  case slca => obtain ⟨a, h1, lo, h2, hi, h3, m, h4, v, h5, h6⟩ := h; exact ⟨_, _, by simp [h1, h2, h3, h4, h5], h6⟩
  case faddr =>
    obtain ⟨a, h1, v, h2, h3⟩ := h
    unfold faddrA at h2
    split at h2 <;> cases h2 <;> exact ⟨_, _, by simp [h1], h3⟩
  case fld =>
    obtain ⟨a, h1, v, h2, h3⟩ := h
    unfold fldA at h2
    split at h2
    · exact ⟨_, _, by simp only [h1, h2, Option.map_some], h3⟩
    · cases h2
  case iaddr =>
    obtain ⟨a, h1, i, h2, j, h3, v, h4, h5⟩ := h
    unfold asI at h3
    split at h3 <;> cases h3; exact ⟨_, _, by simp [h1, h2, h4], h5⟩
  case idx =>
    obtain ⟨a, h1, i, h2, j, h3, v, h4, h5⟩ := h
    unfold asI at h3
    split at h3 <;> cases h3; exact ⟨_, _, by simp [h1, h2, h4], h5⟩
  case look => obtain ⟨a, h1, b, h2, es, h3, r, h4, h5⟩ := h; exact ⟨_, _, by simp only [h1, h2, h3, h4, Option.bind_some, Option.map_some], h5⟩
  case mupd =>
    obtain ⟨a, h1, b, h2, c, h3, t, h4, h5⟩ := h
    unfold mupdA at h4
    split at h4 <;> try cases h4
    split at h4 <;> try cases h4
    rename_i id es hes
    simp only [Option.map_eq_some_iff] at h4; obtain ⟨es', h6, rfl⟩ := h4
    exact ⟨_, _, by simp [h1, h2, h3, hes, h6], h5⟩
  case mkmap => exact ⟨_, _, rfl, h⟩
  case mkif => obtain ⟨a, h1, h2⟩ := h; exact ⟨_, _, by simp [h1], h2⟩
  case mkfn => obtain ⟨a, h1, b, h2, h3⟩ := h; exact ⟨_, _, by simp [h1, h2], h3⟩
  case mkslice =>
    obtain ⟨a, h1, b, h2, p, h3, h4⟩ := h
    unfold mkslA at h3
    split at h3 <;> try cases h3
    split at h3 <;> cases h3
    rename_i hq
    exact ⟨_, _, by simp only [h1, h2, Option.bind_some]; rw [if_pos hq], h4⟩
  case extr =>
    obtain ⟨a, h1, v, h2, h3⟩ := h
    unfold extrA at h2
    split at h2
    · exact ⟨_, _, by simp [h1, h2], h3⟩
    · cases h2
  case lens =>
    obtain ⟨a, h1, v, h2, h3⟩ := h
    unfold lensA at h2
    split at h2 <;> cases h2; exact ⟨_, _, by simp [h1], h3⟩
  case lenv =>
    obtain ⟨a, h1, v, h2, h3⟩ := h
    unfold lenvA at h2
    split at h2 <;> cases h2 <;> exact ⟨_, _, by simp [h1], h3⟩
  case lenm => obtain ⟨a, h1, es, h2, h3⟩ := h; exact ⟨_, _, by simp [h1, h2], h3⟩
  case mn =>
    obtain ⟨a, h1, v, h2, h3⟩ := h
    unfold fold1 at h2
    split at h2
    · exact ⟨_, _, by simp [h1, h2], h3⟩
    · cases h2
  case mx =>
    obtain ⟨a, h1, v, h2, h3⟩ := h
    unfold fold1 at h2
    split at h2
    · exact ⟨_, _, by simp [h1, h2], h3⟩
    · cases h2
  case app => obtain ⟨a, h1, b, h2, p, h3, h4⟩ := h; exact ⟨p.1, p.2, by simp [h1, h2, h3], h4⟩
  case copy => obtain ⟨a, h1, b, h2, p, h3, h4⟩ := h; exact ⟨p.1, p.2, by simp [h1, h2, h3], h4⟩
end Fw
