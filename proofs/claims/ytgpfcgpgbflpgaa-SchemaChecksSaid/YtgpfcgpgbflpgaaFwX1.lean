/- The contracts of library functions in the machine's terms: what such a contract is; internal/bytealg's search for a byte; strings.Builder's inner check and its String. -/
import Derived.Test.YtgpfcgpgbflpgaaFwV6
import Derived.Laws.Externs
import Derived.Lib.UnsafeStr
namespace Fw
open Go Go.RowKit

/-- A function's contract in the machine's terms. -/
structure ExtOk (P : Program) (f : FuncId) (g : List AV → St → Option (AV × St)) : Prop where
  kept : ∀ args s v s', Whole s → alAll (below s.next) args = true → g args s = some (v, s') → Kept s s' ∧ v.al (below s'.next) = true
  does : ∀ X args s v s', Whole s → alAll (below s.next) args = true → g args s = some (v, s') → ∀ σ w vs, Inv X σ s.get w → Rs σ args vs → Does P f vs.toArray w (Answer X σ s w v s')

section
variable {P : Program} {X : Bs} {σ : Gh} {g : Hp} {w : World} {s : St}

/-- A function of plain values that leaves the state alone, answered by the model itself. -/
theorem ExtOk.entry {f : FuncId} {fn : Func} {e : Array Value → Sem Value} {g : List AV → St → Option (AV × St)} (hf : P.funcs[f]? = some fn) (hname : (fn.name == "runtime.NumGoroutine") = false)
    (hb : fn.body.isNone = true) (hn : Extern.findNext fn = none) (he : Extern.find fn = some e)
    (hg : ∀ args s v s', g args s = some (v, s') → s' = s ∧ v.al (fun _ => false) = true ∧ ∀ σ vs, Rs σ args vs → ∀ w, ∃ u, (e vs.toArray).run P w = .ok u w ∧ R σ v u) : ExtOk P f g where
  kept := fun args s v s' hw hal h => by
    obtain ⟨rfl, h2, _⟩ := hg _ _ _ _ h
    exact ⟨Kept.refl hw, AV.al_mono (fun _ h => by cases h) _ h2⟩
  does := fun X args s v s' hw hal h σ w vs hI hR => by
    obtain ⟨rfl, h2, h3⟩ := hg _ _ _ _ h
    obtain ⟨u, h4, h5⟩ := h3 σ vs hR w
    refine Does.of_value (u := u) (w' := w) ?_ ⟨σ, Step.refl hI, h5⟩
    rw [run_callFunc_extern hf hname hb hn he, h4]; rfl

def findByte (c : UInt8) : List UInt8 → Nat → Int
  | [], _ => -1
  | b :: bs, i => if b = c then i else findByte c bs (i + 1)

def xIndexByte (args : List AV) (s : St) : Option (AV × St) :=
  match args with
  | [.str b, .int .u8 c] => some (.int .i64 (findByte c.toNat.toUInt8 b 0), s)
  | _ => none

theorem firstIdx_eq (l : List UInt8) (c : UInt8) : firstIdx ⟨l.toArray⟩ c = findByte c l 0 := by
  have key : ∀ (m : List UInt8) (k : Nat), (∀ i, i < m.length → (⟨l.toArray⟩ : ByteArray)[k + i]! = m[i]!) → (match (List.range' k m.length).find? fun i => (⟨l.toArray⟩ : ByteArray)[i]! == c with | some i => (i : Int) | none => -1) = findByte c m k := by
    intro m
    induction m with
    | nil => intro k _; simp [findByte]
    | cons b m ih =>
      intro k h
      have h0 := h 0 (by simp)
      simp only [Nat.add_zero, List.getElem!_cons_zero] at h0
      simp only [List.length_cons, List.range'_succ, List.find?_cons, h0, findByte]
      by_cases hb : b = c
      · simp [hb]
      · have hbc : (b == c) = false := by simpa using hb
        simp only [hbc, hb, if_false]
        exact ih (k + 1) fun i hi => by
          have := h (i + 1) (by simp; omega)
          rw [show k + (i + 1) = k + 1 + i by omega] at this
          simpa using this
  unfold firstIdx
  have hs : (⟨l.toArray⟩ : ByteArray).size = l.length := by simp [ByteArray.size]
  rw [hs, List.range_eq_range']
  exact key l 0 fun i hi => by
    rw [Nat.zero_add]
    have h2 : i < (⟨l.toArray⟩ : ByteArray).size := by rw [hs]; exact hi
    rw [getElem!_pos _ i h2, getElem!_pos l i hi]
    rfl

theorem xIndexByte_ok {f : FuncId} {fn : Func} (hf : P.funcs[f]? = some fn) (hname : (fn.name == "runtime.NumGoroutine") = false) (hb : fn.body.isNone = true) (hn : Extern.findNext fn = none)
    (he : Extern.find fn = some Extern.BytealgIndexByte.indexByte) : ExtOk P f xIndexByte := by
  refine ExtOk.entry hf hname hb hn he fun args s v s' h => ?_
  unfold xIndexByte at h
  split at h <;> cases h
  rename_i b c
  refine ⟨rfl, rfl, fun σ vs hR w => ?_⟩
  simp only [Rs, R] at hR
  obtain ⟨v1, r1, rfl, rfl, v2, r2, rfl, rfl, rfl⟩ := hR
  exact ⟨_, run_indexByte_string _ _ _, by simp only [R]; rw [firstIdx_eq]⟩

/- strings.Builder -/
def xCopyCheck (T : TypeId) (args : List AV) (s : St) : Option (AV × St) :=
  match args with
  | [.ptr id 0] => match s.get id with
    | some (.cells (some t) [.nilptr, v]) => if t = T then some (.tuple [], s.set id (.cells (some t) [.ptr id 0, v])) else none
    | some (.cells (some t) [.ptr j o, _]) => if t = T ∧ j = id ∧ o = 0 then some (.tuple [], s) else none
    | _ => none
  | _ => none

theorem run_storeCells_one {b : Nat} {old v : Value} (hcell : w.cell? ⟨b, 0, none⟩ = some old) (hf : w.frozen? ⟨b, 0, none⟩ = false) (h1 : v.oneCell' = true) :
    (storeCells ⟨b, 0, none⟩ [v]).run P w = .ok () (w.setCell ⟨b, 0, none⟩ v) := by
  have hadd : (⟨b, 0, none⟩ : Addr).add 0 = ⟨b, 0, none⟩ := Addr.add_lit b 0 0
  have hst : (store ((⟨b, 0, none⟩ : Addr).add 0) v).run P w = .ok () (w.setCell ⟨b, 0, none⟩ v) := by
    rw [hadd, run_store P w _ v _ h1, hcell]; simp [hf]
  simp only [storeCells, Sem.run_bind, hst, Result.andThen_ok]; rfl

/-- What the world has of a block that an object of two cells stands for. -/
theorem two_cells {X : Bs} (hI : Inv X σ g w) {id : Nat} {T : TypeId} {x y : AV} (hg : g id = some (.cells (some T) [x, y])) :
    ∃ ux uy, R σ x ux ∧ R σ y uy ∧ w.cell? ⟨σ.φ id, 0, none⟩ = some ux ∧ w.cell? ⟨σ.φ id, 1, none⟩ = some uy ∧ w.shape? (σ.φ id) = some (T, 2) ∧ w.frozen? ⟨σ.φ id, 0, none⟩ = false := by
  obtain ⟨_, ⟨⟨c, E, fr, h1, h2, h3, h4, hty⟩, _⟩, _⟩ := hI.obj id _ hg
  obtain ⟨rfl, h5⟩ := hty T rfl
  simp only [List.length_cons, List.length_nil] at h5 h3 h4 h2
  have hl : c.toList.length = 2 := by simpa using h5
  match hc : c.toList, hl with
  | [a, b], _ =>
    rw [hc] at h4
    simp only [List.take_succ_cons, List.take_zero, Rs, List.cons.injEq, Nat.zero_add] at h4
    obtain ⟨_, _, ⟨rfl, rfl⟩, h6, _, _, ⟨rfl, rfl⟩, h7, _⟩ := h4
    have e0 : c[0]? = some a := by rw [← Array.getElem?_toList, hc]; rfl
    have e1 : c[1]? = some b := by rw [← Array.getElem?_toList, hc]; rfl
    refine ⟨a, b, h6, h7, by rw [cell_of_block h1]; exact e0, by rw [cell_of_block h1]; exact e1, by simp [World.shape?, h1, h5], ?_⟩
    have := h3 0 (by omega)
    obtain ⟨lo, hi⟩ := fr
    simp only [World.frozen?, h1, Bool.and_eq_false_iff, decide_eq_false_iff_not]
    simp only at this
    omega

theorem xCopyCheck_ok {f : FuncId} {T : TypeId} {fn : Func} (hf : P.funcs[f]? = some fn) (hn : fn.name ≠ "runtime.NumGoroutine") (hb : fn.body.isSome = true)
    (used : ∀ (b : Nat) (w : World), w.cell? ⟨b, 0, none⟩ = some (.pointer (some ⟨b, 0, none⟩)) → Calls P f #[.pointer (some ⟨b, 0, none⟩)] w fun e w' => e = .returned (.tuple #[]) ∧ w' = w)
    (fresh : ∀ (b : Nat) (w : World), w.cell? ⟨b, 0, none⟩ = some (.pointer none) → w.shape? b = some (T, 2) → w.frozen? ⟨b, 0, none⟩ = false →
      Calls P f #[.pointer (some ⟨b, 0, none⟩)] w fun e w' => e = .returned (.tuple #[]) ∧ w' = w.setCell ⟨b, 0, none⟩ (.pointer (some ⟨b, 0, none⟩))) : ExtOk P f (xCopyCheck T) where
  kept := fun args s v s' hw hal h => by
    unfold xCopyCheck at h
    split at h
    · rename_i id
      split at h
      · rename_i t v hg
        split at h <;> cases h
        refine ⟨Kept.set hw hg ?_, rfl⟩
        have h1 := hw.shut id _ hg
        simp only [alAll, AV.al, Bool.and_true] at hal
        simp only [AObj.al, alAll, AV.al, Bool.and_true, Bool.true_and] at h1 ⊢
        rw [hal, h1]; rfl
      · split at h <;> cases h
        exact ⟨Kept.refl hw, rfl⟩
      · cases h
    · cases h
  does := fun X args s v s' hw hal h σ w vs hI hR => by
    unfold xCopyCheck at h
    split at h
    · rename_i id
      simp only [Rs, R] at hR
      obtain ⟨_, _, rfl, rfl, rfl⟩ := hR
      split at h
      · rename_i t v hg
        split at h <;> cases h
        rename_i ht; subst ht
        obtain ⟨ux, uy, h1, h2, h3, h4, h5, h6⟩ := two_cells hI hg
        simp only [R] at h1; subst h1
        refine Does.of_calls hf hn hb (Calls.mono (fresh _ w h3 h5 h6) ?_)
        rintro e w' ⟨rfl, rfl⟩
        obtain ⟨w', h7, h8⟩ := store_stepG (P := P) (g' := (s.set id (.cells (some t) [.ptr id 0, v])).get) hI hg (fun j => get_set' hw hg j) (xs := [.ptr id 0]) (us := [.pointer (some ⟨σ.φ id, 0, none⟩)]) (by simp [Rs, R])
          (by rw [dm_get hw]; exact hal) rfl (off := 0) (by simp [patch])
        rw [run_storeCells_one h3 h6 rfl] at h7
        cases h7
        exact ⟨_, rfl, σ, h8, by simp [R, Rs]⟩
      · rename_i t j o v hg
        split at h <;> cases h
        rename_i ht; obtain ⟨rfl, rfl, rfl⟩ := ht
        obtain ⟨ux, uy, h1, h2, h3, h4, h5, h6⟩ := two_cells hI hg
        simp only [R] at h1; subst h1
        refine Does.of_calls hf hn hb (Calls.mono (used _ w h3) ?_)
        rintro e w' ⟨rfl, rfl⟩
        exact ⟨_, rfl, σ, Step.refl hI, by simp [R, Rs]⟩
      · cases h
    · cases h

/-- The head of a row is frozen, up to the end that its token knows. -/
theorem Step.freeze (hI : Inv X σ g w) {t : Nat} {ty : TypeId} {e esz b eo slack : Nat} (hg : g t = some (.tok ty e esz)) (hT : σ.T t e = some (b, eo, slack, esz)) {o n : Nat} (ho : o + n ≤ eo) :
    Step X σ g w σ g (w.freeze ⟨b, o, none⟩ n) := by
  by_cases hn : n = 0
  · subst hn; exact Step.refl hI
  obtain ⟨_, ⟨b', eo', slack', hT', ⟨c, fr, h1, h2, h3⟩, h4, h5⟩, hbase⟩ := hI.obj t _ hg
  rw [hT] at hT'; cases hT'
  have hblk : blk σ t (.tok ty e esz) = b := by simp only [blk, hT]
  rw [hblk] at hbase
  obtain ⟨lo, hi⟩ := fr
  have hb' : (w.freeze ⟨b, o, none⟩ n).heap[b]? = some (.cells c ty (if lo == hi then (o, o + n) else (min lo o, max hi (o + n)))) := by
    simp only [World.freeze, hn, if_false, Array.getElem?_modify, if_true, h1, Option.map_some]
  have hoth : ∀ k, k ≠ b → (w.freeze ⟨b, o, none⟩ n).heap[k]? = w.heap[k]? := fun k hk => by
    simp [World.freeze, hn, Array.getElem?_modify]
    intro h; exact absurd h.symm hk
  have hsz : (w.freeze ⟨b, o, none⟩ n).heap.size = w.heap.size := by simp [World.freeze, hn]
  refine Step.change t (fun k => k = b) hI (Go.Lib.below_freeze hI.below (p := ⟨b, o, none⟩) hbase n) (by rw [hsz]; exact Nat.le_refl _) (Ext.refl _ _) ?_ ?_ ?_ ?_ ?_ ?_ ?_ ?_ ?_
  · intro j p hp hj hq; exact hI.inj j t p _ hp hg hj (by rw [hblk]; exact hq)
  · intro k _ hk; exact hoth k hk
  · intro k hk _; subst hk; exact ⟨_, hg, hblk⟩
  · intro k q v hv hk
    subst hk
    have hcell := hI.gh _ q v hv
    rw [cell_of_block h1] at hcell
    rw [cell_of_block hb']; exact hcell
  · intro k q v hv; exact .inl hv
  · intro j _; rfl
  · intro j _; rfl
  · exact fun h => h
  · intro p hp
    rw [hg] at hp; cases hp
    refine ⟨rfl, ⟨b, eo, slack, hT, ⟨c, _, hb', h2, ?_⟩, h4, h5⟩, by rw [hblk]; exact hbase, .inl hblk⟩
    dsimp only at h3
    split
    · exact ho
    · show max hi (o + n) ≤ eo; omega

def xString (T tb : TypeId) (args : List AV) (s : St) : Option (AV × St) :=
  match args with
  | [.ptr id 0] => match s.get id with
    | some (.cells (some t) [_, .nilslice]) => if t = T then some (.str [], s) else none
    | some (.cells (some t) [_, .slice cs n (.tok k e)]) => if t = T ∧ n ≠ 0 ∧ cs.length = n ∧ n ≤ room then
        match s.get k with
        | some (.tok ty e' esz) => if ty = tb ∧ e' = e ∧ esz = 1 then (bytesOf cs).map fun b => (.str b, s) else none
        | _ => none
      else none
    | _ => none
  | _ => none

theorem run_loadBytesI : ∀ (l : List Int) (a : Addr) (acc : ByteArray), (∀ j x, l[j]? = some x → w.cell? (a.add j) = some (.int .u8 x)) →
    (loadBytes a acc l.length).run P w = .ok ⟨acc.data ++ (l.map fun n => UInt8.ofNat n.toNat).toArray⟩ w
  | [], a, acc, _ => by simp [loadBytes]
  | x :: l, a, acc, h => by
    have h0 : w.cell? a = some (.int .u8 x) := by
      have := h 0 x rfl
      simpa [Addr.add] using this
    have ih := run_loadBytesI l (a.add 1) (acc.push (UInt8.ofNat x.toNat)) (fun j y hy => by
      have := h (j + 1) y (by simpa using hy)
      have e : (a.add 1).add j = a.add (j + 1) := by
        unfold Addr.add
        by_cases hj : j = 0
        · subst hj; simp
        · simp [hj]; omega
      rw [e]; exact this)
    have hx : x.toNat.toUInt8 = UInt8.ofNat x.toNat := rfl
    simp only [List.length_cons, loadBytes, Sem.run_bind, run_load, h0, Result.andThen, hx]
    rw [ih]
    simp [ByteArray.push]

theorem liesAt_row {e : TypeId} (hc : P.cellsOf e = 1) (count o n : Nat) (hn : o + n ≤ count) : liesAt P P.depth e count o e n = true := by
  have hd : P.depth = (2 * (P.types.size + Made.depth) + 1) + 1 := rfl
  rw [hd]
  simp only [liesAt, Bool.or_eq_true]
  left
  rw [hd]
  simp [rowAt, hc, hn, sameLayout, Nat.mod_one]

/-- unsafe.String over a stretch of a row of bytes. -/
theorem run_unsafeString_at (pt it ty e : TypeId) (hp : P.underlying pt = some (.pointer e)) (hc : P.cellsOf e = 1) (b o cells : Nat) (hsh : w.shape? b = some (e, cells)) (l : List Int) (h0 : l ≠ []) (hn : o + l.length ≤ cells) (h63 : l.length ≤ 9223372036854775807)
    (hcell : ∀ j x, l[j]? = some x → w.cell? ((⟨b, o, none⟩ : Addr).add j) = some (.int .u8 x)) :
    (Builtin.unsafeString_ #[pt, it] ty #[.pointer (some ⟨b, o, none⟩), .int .i64 l.length]).run P w = .ok (.string ⟨(l.map fun n => UInt8.ofNat n.toNat).toArray⟩) (w.freeze ⟨b, o, none⟩ l.length) := by
  have hl : l.length ≠ 0 := by simpa using h0
  have hlb := run_loadBytesI (P := P) l ⟨b, o, none⟩ .empty hcell
  have hlies := liesAt_row (P := P) hc (cells / P.cellsOf e) o l.length (by rw [hc]; simpa using hn)
  have h63' : ¬ (9223372036854775807 : Int) < (l.length : Int) := by omega
  have hdef : Builtin.unsafeString_ #[pt, it] ty #[.pointer (some ⟨b, o, none⟩), .int .i64 l.length] =
      (do
        let n ← asInt (.int .i64 l.length)
        if n < 0 then runtimePanic (.error "unsafe.String: len out of range")
        if n > IntKind.i64.max then unsupported (.unsafePointer "String: a length above the largest int")
        if n = 0 then pure (.string .empty)
        else if ← variablesAt ⟨b, o, none⟩ (← elemOf pt) n.toNat then do
          let s ← loadBytes ⟨b, o, none⟩ .empty n.toNat
          freeze ⟨b, o, none⟩ n.toNat
          pure (.string s)
        else unsupported (.unsafePointer "String: not so many bytes at ptr")) := rfl
  rw [hdef]
  have hmax : IntKind.i64.max = 9223372036854775807 := rfl
  have hneg : ¬ (l.length : Int) < 0 := by omega
  simp [asInt, asIntOf, hmax, h63', hneg, hl, variablesAt, hsh, elemOf, run_underlying hp, hlies, hlb]

theorem xString_ok {f : FuncId} {T tb : TypeId} {fn : Func} (hf : P.funcs[f]? = some fn) (hn : fn.name ≠ "runtime.NumGoroutine") (hb : fn.body.isSome = true)
    (none_ : ∀ (b : Nat) (w : World), w.cell? ⟨b, 1, none⟩ = some (.slice none 0 0) → Calls P f #[.pointer (some ⟨b, 0, none⟩)] w fun e w' => e = .returned (.string ⟨#[]⟩) ∧ w' = w.drew)
    (some_ : ∀ (b g o cap cells : Nat) (l : List Int) (w : World), w.cell? ⟨b, 1, none⟩ = some (.slice (some ⟨g, o, none⟩) l.length cap) → l ≠ [] → l.length ≤ cap → w.shape? g = some (tb, cells) → o + l.length ≤ cells → l.length ≤ 9223372036854775807 →
      (∀ j x, l[j]? = some x → w.cell? ((⟨g, o, none⟩ : Addr).add j) = some (.int .u8 x)) →
      Calls P f #[.pointer (some ⟨b, 0, none⟩)] w fun e w' => e = .returned (.string ⟨(l.map fun n => UInt8.ofNat n.toNat).toArray⟩) ∧ w' = w.drew.freeze ⟨g, o, none⟩ l.length) : ExtOk P f (xString T tb) where
  kept := fun args s v s' hw hal h => by
    unfold xString at h
    split at h
    · split at h
      · split at h <;> cases h; exact ⟨Kept.refl hw, rfl⟩
      · split at h
        · split at h
          · split at h
            · simp only [Option.map_eq_some_iff] at h; obtain ⟨b, _, h⟩ := h; cases h; exact ⟨Kept.refl hw, rfl⟩
            · cases h
          · cases h
        · cases h
      · cases h
    · cases h
  does := fun X args s v s' hw hal h σ w vs hI hR => by
    unfold xString at h
    split at h
    · rename_i id
      simp only [Rs, R] at hR
      obtain ⟨_, _, rfl, rfl, rfl⟩ := hR
      have hdr : Step X σ s.get w σ s.get w.drew := Step.heap_same hI hI.below.drew rfl
      split at h
      · rename_i t x hg
        split at h <;> cases h
        rename_i ht; subst ht
        obtain ⟨ux, uy, h1, h2, h3, h4, h5, h6⟩ := two_cells hI hg
        simp only [R] at h2; subst h2
        refine Does.of_calls hf hn hb (Calls.mono (none_ _ w h4) ?_)
        rintro e w' ⟨rfl, rfl⟩
        exact ⟨_, rfl, σ, hdr, by simp [R]⟩
      · rename_i t x cs n k e hg
        split at h
        case isFalse => cases h
        rename_i hq
        obtain ⟨rfl, hn0, hcl, hroom⟩ := hq
        split at h
        case h_2 => cases h
        rename_i ty e' esz hk
        split at h
        case isFalse => cases h
        rename_i hq2
        obtain ⟨rfl, rfl, rfl⟩ := hq2
        simp only [Option.map_eq_some_iff] at h; obtain ⟨b, hbs, h⟩ := h; cases h
        obtain ⟨ux, uy, h1, h2, h3, h4, h5, h6⟩ := two_cells hI hg
        simp only [R] at h2
        rcases h2 with ⟨g, o, cap, rfl, h7, h8, h9⟩ | ⟨_, h7, _⟩
        case inr => exact absurd h7 hn0
        obtain ⟨slack, esz, h10, h11⟩ := h8
        obtain ⟨_, ⟨g', eo, slack', h12, ⟨c, fr, h13, h14, h15⟩, _, _⟩, _⟩ := hI.obj k _ hk
        rw [h10] at h12; cases h12
        obtain ⟨us, h16, h17⟩ := cells_RC hI.gh _ _ _ h9
        obtain ⟨ns, rfl, rfl⟩ := bytesOf_R cs hbs h16
        have hl := Rs_length _ _ h16
        simp only [List.length_map] at hl
        have hnl : n = ns.length := by omega
        subst hnl
        have h63 : ns.length ≤ 9223372036854775807 := by
          unfold room at hroom; omega
        refine Does.of_calls hf hn hb (Calls.mono (some_ _ g o cap c.size ns w h4 (by intro e; apply hn0; simp [e]) h7 (by simp [World.shape?, h13]) (by omega) h63 fun j x hj => ?_) ?_)
        · rw [Addr.add_lit]
          exact h17 j _ (by rw [List.getElem?_map, hj]; rfl)
        · rintro e w' ⟨rfl, rfl⟩
          exact ⟨_, rfl, σ, hdr.trans (Step.freeze hdr.inv hk h10 (by omega)), by simp [R]⟩
      · cases h
    · cases h
end
end Fw
