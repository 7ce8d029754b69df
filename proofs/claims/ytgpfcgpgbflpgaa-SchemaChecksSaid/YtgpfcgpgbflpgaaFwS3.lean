/- The operations that read or change memory, continued: rows. -/
import Derived.Test.YtgpfcgpgbflpgaaFwS2
namespace Fw
open Go Go.RowKit

section
variable {P : Program} {X : Bs} {cx : Cx} {callee : Callee} {σ : Gh} {ρ : Env} {a : Act} {w w' : World} {s s' : St} {v : AV}

theorem RC_of {cs : List AV} {vs : List Value} {b o : Nat} (h : Rs σ cs vs) (hG : ∀ (j : Nat) (v : Value), vs[j]? = some v → σ.G b (o + j) v) : RC σ cs b o := by
  rw [RC_iff]
  intro j a ha
  obtain ⟨v, h1, h2⟩ := Rs_get _ _ h j a ha
  exact ⟨v, hG j v h1, h2⟩

theorem Rs_flat {zs : List AV} {vs : List Value} (h : Rs σ zs vs) : ∀ n, Rs σ ((List.replicate n zs).flatten) ((List.replicate n vs).flatten)
  | 0 => by simp [Rs]
  | n + 1 => by simp only [List.replicate_succ, List.flatten_cons]; exact Rs_append h (Rs_flat h n)

theorem flat_get (z : Array Value) (n j : Nat) (hz : 0 < z.size) (hj : j < n * z.size) : ((List.replicate n z.toList).flatten)[j]? = some z[j % z.size]! := by
  induction n generalizing j with
  | zero => simp at hj
  | succ n ih =>
    simp only [List.replicate_succ, List.flatten_cons]
    by_cases h : j < z.size
    · rw [List.getElem?_append_left (by simpa using h), Nat.mod_eq_of_lt h]
      simp [h]
    · rw [List.getElem?_append_right (by simp; omega)]
      have := ih (j - z.size) (by rw [Nat.succ_mul] at hj; omega)
      simp only [Array.length_toList]
      rw [this, Nat.mod_eq_sub_mod (a := j) (by omega)]

theorem flat_len (z : Array Value) (n : Nat) : ((List.replicate n z.toList).flatten).length = n * z.size := by simp

theorem made_list (z : Array Value) (n : Nat) : ((Array.range (n * z.size)).map (z[· % z.size]!)).toList = (List.replicate n z.toList).flatten := by
  apply List.ext_getElem?
  intro j
  by_cases hj : j < n * z.size
  · have hz : 0 < z.size := by rcases Nat.eq_zero_or_pos z.size with h | h; (rw [h] at hj; simp at hj); exact h
    rw [flat_get z n j hz hj]
    simp [hj]
  · rw [List.getElem?_eq_none (by simp; omega), List.getElem?_eq_none (by rw [flat_len]; omega)]

theorem bslice_left {g : Hp} (hI : Inv X σ g w) (hG : Gls cx σ) (hE : EnvOk σ ρ a) {t e : TypeId} {len n : Nat} {parts : Array (Nat × Operand)} {z : AV} {ips : List (Nat × Nat × IX)} {cs : List AV} (ht : P.underlying t = some (.slice e)) (hn : tsz P e = some n) (hz : tzero P e = some z) (hlim : ¬ len * n > 2 ^ 24)
    (hp : cParts (fun i => some (i * n, n)) parts.toList = some ips) (he : fillA cx ρ ((List.replicate len z.cells).flatten) ips = some cs) (hal : alAll (dm g) cs = true) :
    LeftG X σ g w (.slice (cs.map AV.strip) len .full) g ((do pure (Next.value (← Instr.buildSlice t len (parts.map fun (i, x) => (i, a.eval x)))) : Sem Next).run P w) := by
  obtain ⟨zu, i, h1, h2, h3, h4, h5⟩ := run_tzero (w := w) hz
  have hi : i.size = n := by simp [tsz, h1] at hn; exact hn
  have hzR := R_cells (ofConst_R h3 σ)
  have hfl : Rs σ ((List.replicate len z.cells).flatten) ((Array.range (len * n)).map (zu.cells[· % zu.cells.size]!)).toList := by
    rw [← hi, ← h5, made_list]; exact Rs_flat hzR len
  obtain ⟨ys, h6, h7⟩ := fill_R hG hE _ _ hp he hfl
  have hl := Rs_length _ _ h7
  simp only [Array.length_toList] at hl
  have hst := Step.newRow hI ys e (0, 0) cs.length
  refine ⟨.slice (some ⟨w.heap.size, 0, none⟩) len len, _, _, hst, ?_, .inl (run_nv ?_)⟩
  · simp only [R]
    exact .inl ⟨_, 0, len, rfl, Nat.le_refl _, rfl, RC_row (p := dm g) (alAll_strip hal) (by simp) (Rs_strip (by simp only [List.length_map]; exact Rs_take_all h7))⟩
  · have hr0 : ∀ f : Nat → Value, (Array.range 0).map f = #[] := fun f => by simp [Array.range_zero']
    have hlim' : ¬ 16777216 < len * n := by simpa using hlim
    by_cases h0 : len * n = 0
    · have h6' : Instr.fill (fun i => some (i * n, n)) #[] (parts.map fun (i, x) => (i, a.eval x)).toList = some ys := by
        rw [map_parts, ← h6, h0, hr0]
      simp only [Instr.buildSlice, Sem.run_bind, run_und ht, run_tsz hn, Result.andThen_ok, hlim, if_false, if_pos h0, Sem.run_ite, Sem.run_pure]
      rw [h0, hr0, h6']
      simp [newRow, Result.andThen]
    · have h6' : Instr.fill (fun i => some (i * n, n)) ((Array.range (len * n)).map (zu.cells[· % zu.cells.size]!)) (parts.map fun (i, x) => (i, a.eval x)).toList = some ys := by
        rw [map_parts]; exact h6
      simp only [Instr.buildSlice, Sem.run_bind, run_und ht, run_tsz hn, Result.andThen_ok, h0, hlim, if_false, Sem.run_ite, h2, Sem.run_pure]
      rw [h6']
      simp [newRow, Result.andThen, hlim']

theorem mkslice_left (hw : Whole s) (hI : Inv X σ s.get w) {t e : TypeId} {n by' : Nat} {z : AV} {l c : Int} {ul uc : Value} (ht : P.underlying t = some (.slice e)) (hn : tsz P e = some n) (hb : tby P e = some by') (hz : tzero P e = some z)
    (hs : alAll (fun _ => false) z.cells = true) (hl : R σ (.int .i64 l) ul) (hc : R σ (.int .i64 c) uc) (h0 : 0 ≤ l) (hlc : l ≤ c) (hr : c.toNat * by' ≤ room) (hb0 : by' ≠ 0) :
    Left X σ s w (.mslice s.next 0 l.toNat (some c.toNat)) (s.new (.cells none ((List.replicate c.toNat z.cells).flatten))) ((do pure (Next.value (← Instr.makeSlice t ul uc)) : Sem Next).run P w) := by
  obtain ⟨zu, i, h1, h2, h3, h4, h5⟩ := run_tzero (w := w) hz
  have hi : i.size = n := by simp [tsz, h1] at hn; exact hn
  have hib : i.bytes = by' := by simp [tby, h1] at hb; exact hb
  have hzz : i.zero = some zu := by
    simp only [zeroValue, Sem.run_bind, typeInfo] at h2
    simp only [run_program, Result.andThen_ok, h1, Sem.run_pure] at h2
    cases hq : i.zero with
    | none => simp [hq] at h2
    | some q => simp [hq] at h2; rw [h2]
  simp only [R] at hl hc; subst hl hc
  have hbb : (i.bytes : Int) * c ≤ 281474976710656 := by
    rw [hib]
    have : ((c.toNat * by' : Nat) : Int) ≤ ((2 ^ 47 : Nat) : Int) := by exact_mod_cast hr
    rw [Int.natCast_mul, Int.toNat_of_nonneg (by omega), Int.mul_comm] at this
    have h47 : ((2 ^ 47 : Nat) : Int) = 140737488355328 := by decide
    rw [h47] at this
    exact Int.le_trans this (by decide)
  have h63 : c ≤ 9223372036854775807 := by
    have h1 : c.toNat * 1 ≤ c.toNat * by' := Nat.mul_le_mul_left _ (by omega)
    have h47 : room = 140737488355328 := by decide
    omega
  have hm := run_make (P := P) w t e i zu ht h1 hzz .i64 .i64 l c h0 hlc hbb h63
  have hzR := R_cells (ofConst_R h3 σ)
  have hmade : (madeCells zu.cells (c.toNat * i.size)).toList = (List.replicate c.toNat zu.cells.toList).flatten := by
    rw [← h5]; exact made_list zu.cells c.toNat
  refine ⟨_, _, _, new_step hw hI (c := madeCells zu.cells (c.toNat * i.size)) e (flat_al (alAll_false hs) _) (by rw [hmade]; exact Rs_flat hzR _) (fun _ e => by cases e), ?_, .inl (run_nv hm)⟩
  simp only [R]
  exact ⟨c.toNat, by simp [Gh.setφ], by omega, fun c' h => by cases h; rfl⟩

theorem s2b_left (hw : Whole s) (hI : Inv X σ s.get w) {src dst e : TypeId} {t : List UInt8} {u : Value} (hs : P.underlying src = some .string) (hd : P.underlying dst = some (.slice e)) (he : P.underlying e = some (.int .u8)) (hu : R σ (.str t) u) :
    Left X σ s w (.mslice s.next 0 t.length none) (s.new (.cells none (byteCells t))) ((do pure (Next.value (← convert src dst u)) : Sem Next).run P w) := by
  simp only [R] at hu; subst hu
  have hsz : ByteArray.size ⟨t.toArray⟩ = t.length := by simp [ByteArray.size]
  have hrun := run_bytes_of_string (P := P) w src dst e ⟨t.toArray⟩ hs hd he
  rw [hsz] at hrun
  have hdr : Step X σ s.get w σ s.get w.drew := Step.heap_same hI hI.below.drew rfl
  have hge := grownCap_ge w t.length 0 e
  have hbt : ∀ c, (bytesRow ⟨t.toArray⟩ c).toList.take t.length = t.map fun b => Value.int .u8 b.toNat := by
    intro c; simp [bytesRow]
  have hbs : ∀ c, (bytesRow ⟨t.toArray⟩ c).size = t.length + (c - t.length) := by
    intro c; simp [bytesRow, hsz]
  have hR : Rs σ (byteCells t) (t.map fun b => Value.int .u8 b.toNat) := by
    rw [Rs_iff]
    refine ⟨by simp [byteCells], fun j a ha => ?_⟩
    simp only [byteCells, List.getElem?_map] at ha ⊢
    cases hq : t[j]? with
    | none => simp [hq] at ha
    | some b => simp [hq] at ha; subst ha; exact ⟨_, rfl, rfl⟩
  have hlen : (byteCells t).length = t.length := by simp [byteCells]
  have hst := Step.newCells (g' := (s.new (.cells none (byteCells t))).get) hdr.inv (next_none hw) (new_get s _) (byteCells_al t) (c := bytesRow ⟨t.toArray⟩ (grownCap w t.length 0 e)) e ((bytesRow ⟨t.toArray⟩ (grownCap w t.length 0 e)).size, (bytesRow ⟨t.toArray⟩ (grownCap w t.length 0 e)).size + 1)
    (fun j hj h => by rw [hlen] at hj; rw [hbs] at h; simp only at h; omega) (by rw [hbs, hlen]; omega) (by rw [hlen, hbt]; exact hR) (fun _ e => by cases e)
  refine ⟨_, _, _, hdr.trans hst, ?_, .inl (run_nv hrun)⟩
  simp only [R]
  exact ⟨_, by simp [Gh.setφ], hge, fun c' h => by cases h⟩

/-- What can be copied from: its cells. -/
theorem cellsOf_R (hI : Inv X σ s.get w) {x : AV} {u : Value} {k n : Nat} {cs : List AV} (hx : R σ x u) (he : cellsOf s k x = some cs) (hc : x.count = some n) :
    (Builtin.lenOf u).run P w = .ok n w ∧ cs.length = n * k ∧ ∃ vs, Rs σ cs vs ∧ ∀ (w2 : World) (m : Nat), w2.heap = w.heap → m ≤ n → (Builtin.firstCells k m u).run P w2 = .ok (vs.take (m * k)).toArray w2 := by
  have fin : ∀ (b o cap : Nat) (vs : List Value), Rs σ cs vs → cs.length = n * k → (∀ (j : Nat) (v : Value), vs[j]? = some v → w.cell? ⟨b, o + j, none⟩ = some v) →
      ∀ (w2 : World) (m : Nat), w2.heap = w.heap → m ≤ n → (Builtin.firstCells k m (.slice (some ⟨b, o, none⟩) n cap)).run P w2 = .ok (vs.take (m * k)).toArray w2 := by
    intro b o cap vs h1 h2 h3 w2 m h4 h5
    have hl := Rs_length _ _ h1
    have hmk : m * k ≤ n * k := Nat.mul_le_mul_right _ h5
    refine run_firstCells_some w2 k m ⟨b, o, none⟩ n cap (vs.take (m * k)) (by simp; omega) fun j v hv => ?_
    rw [List.getElem?_take] at hv
    split at hv
    · rw [addr_add, cell_same (w := w) (by rw [h4])]; exact h3 j v hv
    · cases hv
  unfold cellsOf at he
  split at he
  · rename_i b
    split at he <;> cases he
    rename_i hk; subst hk
    simp only [AV.count, Option.some.injEq] at hc; subst hc
    simp only [R] at hx; subst hx
    refine ⟨by simp [Builtin.lenOf, ByteArray.size], by simp [byteCells], b.map fun b => Value.int .u8 b.toNat, ?_, fun w2 m _ hm => ?_⟩
    · rw [Rs_iff]
      refine ⟨by simp [byteCells], fun j a ha => ?_⟩
      simp only [byteCells, List.getElem?_map] at ha ⊢
      cases hq : b[j]? with
      | none => simp [hq] at ha
      | some b => simp [hq] at ha; subst ha; exact ⟨_, rfl, rfl⟩
    · simp only [Builtin.firstCells, Sem.run_pure, Nat.mul_one]
      congr 1
      apply Array.ext'
      simp [ByteArray.data_extract, List.extract, List.map_take]
  · cases he
    simp only [AV.count, Option.some.injEq] at hc; subst hc
    simp only [R] at hx; subst hx
    exact ⟨by simp [Builtin.lenOf], by simp, [], by simp [Rs], fun w2 m _ _ => by simp [Builtin.firstCells]⟩
  · rename_i cs' n' own
    split at he <;> cases he
    rename_i hl
    simp only [AV.count, Option.some.injEq] at hc; subst hc
    simp only [R] at hx
    rcases hx with ⟨b, o, cap, rfl, h1, _, h2⟩ | ⟨rfl, rfl, _, a, rfl⟩
    · obtain ⟨vs, h3, h4⟩ := cells_RC hI.gh _ _ _ h2
      exact ⟨by simp [Builtin.lenOf], hl, vs, h3, fin b o cap vs h3 hl h4⟩
    · refine ⟨by simp [Builtin.lenOf], hl, [], by simp [Rs], fun w2 m _ hm => ?_⟩
      have : m = 0 := by omega
      subst this
      simp [Builtin.firstCells, loadCells, loadCellsFrom]
  · rename_i id off n' cap
    split at he
    · rename_i cs' hg
      simp only [AV.count, Option.some.injEq] at hc; subst hc
      simp only [R] at hx; obtain ⟨c, rfl, h1, _⟩ := hx
      obtain ⟨vs, h3, h4, h5⟩ := cells_obj hI hg he
      exact ⟨by simp [Builtin.lenOf], h4, vs, h3, fin _ _ c vs h3 h4 h5⟩
    · cases he
  · cases he

theorem copy_left (hw : Whole s) (hI : Inv X σ s.get w) {t e ty : TypeId} {ts : Array TypeId} {k : Nat} {d x : AV} {ud ux : Value} (h0 : ts[0]? = some t) (ht : P.underlying t = some (.slice e)) (hn : tsz P e = some k) (hd : R σ d ud) (hx : R σ x ux) (hal : x.al (below s.next) = true)
    (he : copyA s k d x = some (v, s')) : Left X σ s w v s' ((do pure (Next.value (← Builtin.copy_ ts ty #[ud, ux])) : Sem Next).run P w) := by
  unfold copyA at he
  split at he
  · rename_i m hm
    cases he
    simp only [R] at hd; subst hd
    have hf : (Builtin.lenOf ux).run P w = .ok m w ∧ (Builtin.firstCells k 0 ux).run P w = .ok #[] w := by
      cases x <;> simp only [AV.count, Option.some.injEq, reduceCtorEq] at hm <;> subst hm <;> simp only [R] at hx
      · subst hx; exact ⟨by simp [Builtin.lenOf, ByteArray.size], by simp [Builtin.firstCells, ByteArray.data_extract]⟩
      · subst hx; exact ⟨by simp [Builtin.lenOf], by simp [Builtin.firstCells]⟩
      · rcases hx with ⟨b, o, cap, rfl, _⟩ | ⟨_, rfl, _, a, rfl⟩ <;> exact ⟨by simp [Builtin.lenOf], by simp [Builtin.firstCells, loadCells, loadCellsFrom]⟩
      · obtain ⟨c, rfl, _⟩ := hx; exact ⟨by simp [Builtin.lenOf], by simp [Builtin.firstCells, loadCells, loadCellsFrom]⟩
    refine Left.same hI (run_nv (u := .int .i64 0) ?_) rfl
    simp [Builtin.copy_, h0, run_und ht, hf.1, run_tsz hn, hf.2, goInt]
  · rename_i id off n cap m cs hm hcs
    split at he
    · rename_i ty ds hg
      split at he
      · cases he
      · rename_i hone
        simp only [Option.map_eq_some_iff] at he; obtain ⟨ds', h1, h2⟩ := he; cases h2
        simp only [R] at hd; obtain ⟨c, rfl, h3, _⟩ := hd
        obtain ⟨h4, h5, vs, h6, h7⟩ := cellsOf_R (P := P) hI hx hcs hm
        have hmin : min m n ≤ m := Nat.min_le_left _ _
        have hcal := cellsOf_al hw hal hcs
        obtain ⟨w', h8, h9⟩ := store_step (P := P) hw hI hg (Rs_take h6 (min m n * k)) (alAll_take hcal _) (by
          rw [List.all_eq_true]; intro a ha
          have hone' : cs.all AV.one = true := by simpa using hone
          exact List.all_eq_true.1 hone' a (List.mem_of_mem_take ha)) h1
        refine ⟨.int .i64 (min m n : Nat), w', σ, h9, rfl, .inl (run_nv ?_)⟩
        have hf := h7 w (min m n) rfl hmin
        have hmn : Nat.min m n = min m n := rfl
        simp only [Builtin.copy_, h0, Sem.run_bind, run_und ht, Result.andThen_ok, h4, run_tsz hn, hf, hmn, List.toList_toArray, h8, goInt, Sem.run_pure, List.getElem?_toArray, List.getElem?_cons_zero, List.getElem?_cons_succ]
    · cases he
  · cases he
end
end Fw
