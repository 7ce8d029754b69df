/- The abstract machine by itself: what it keeps. A state is whole if its blocks are numbered without gaps and lead to blocks of the state alone. -/
import Derived.Test.YtgpfcgpgbflpgaaFwR
namespace Fw
open Go

def AObj.al (p : Nat → Bool) : AObj → Bool
  | .cells _ cs => alAll p cs
  | .map es => es.all fun (k, v) => k.al p && v.al p
  | .tok _ _ _ => true

theorem AObj.al_mono {n m : Nat → Bool} (h : ∀ i, n i = true → m i = true) {o : AObj} (ho : o.al n = true) : o.al m = true := by
  cases o with
  | cells ty cs => exact alAll_mono h cs ho
  | map es =>
    simp only [AObj.al, List.all_eq_true, Bool.and_eq_true] at ho ⊢
    exact fun x hx => ⟨AV.al_mono h _ (ho x hx).1, AV.al_mono h _ (ho x hx).2⟩
  | tok => rfl

theorem below_mono {n m : Nat} (h : n ≤ m) (i : Nat) (hi : below n i = true) : below m i = true := by simp [below] at *; omega
theorem below_iff {n i : Nat} : below n i = true ↔ i < n := by simp [below]

structure Whole (s : St) : Prop where
  full : ∀ id, (s.get id).isSome = below s.next id
  shut : ∀ id o, s.get id = some o → o.al (below s.next) = true

theorem look_put (id j : Nat) (o : AObj) (h : List (Nat × AObj)) : look j (put id o h) = if j = id then (if (look id h).isSome then some o else none) else look j h := by
  induction h with
  | nil => simp [look, put]
  | cons x h ih =>
    obtain ⟨k, p⟩ := x
    simp only [put]
    by_cases hk : k = id
    · subst hk
      rw [if_pos rfl]
      by_cases hj : j = k
      · subst hj; simp [look]
      · have hj' : ¬ k = j := fun e => hj e.symm
        simp only [look, if_neg hj, if_neg hj']
    · rw [if_neg hk]
      by_cases hj : j = id
      · subst hj
        simp only [look, if_neg hk, ih, if_true]
      · simp only [look, ih, if_neg hj]

theorem get_set (s : St) (id j : Nat) (o : AObj) : (s.set id o).get j = if j = id then (if (s.get id).isSome then some o else none) else s.get j := look_put id j o s.heap
theorem get_new (s : St) (o : AObj) (j : Nat) : (s.new o).get j = if j = s.next then some o else s.get j := by
  simp only [St.get, St.new, look]
  by_cases h : j = s.next
  · subst h; simp
  · have h' : ¬ s.next = j := fun e => h e.symm
    simp only [if_neg h, if_neg h']

/-- What a step from s to s' keeps. -/
structure Kept (s s' : St) : Prop where
  whole : Whole s'
  next : s.next ≤ s'.next
  low : s'.low ≤ s.low
  same : ∀ id, id < s.next → id < s'.low → s'.get id = s.get id

theorem Kept.refl {s : St} (h : Whole s) : Kept s s := ⟨h, Nat.le_refl _, Nat.le_refl _, fun _ _ _ => rfl⟩
theorem Kept.trans {a b c : St} (h : Kept a b) (k : Kept b c) : Kept a c :=
  ⟨k.whole, Nat.le_trans h.next k.next, Nat.le_trans k.low h.low, fun id h1 h2 => (k.same id (by have := h.next; omega) h2).trans (h.same id h1 (by have := k.low; omega))⟩

theorem Kept.new {s : St} (h : Whole s) {o : AObj} (ho : o.al (below (s.next + 1)) = true) : Kept s (s.new o) := by
  refine ⟨⟨fun id => ?_, fun id o' hg => ?_⟩, by simp [St.new], by simp [St.new], fun id h1 _ => ?_⟩
  · rw [get_new]
    by_cases hi : id = s.next
    · subst hi; simp [St.new, below]
    · rw [if_neg hi, h.full, Bool.eq_iff_iff, below_iff, below_iff]
      show id < s.next ↔ id < s.next + 1
      omega
  · rw [get_new] at hg
    by_cases hi : id = s.next
    · rw [if_pos hi] at hg; cases hg; exact ho
    · rw [if_neg hi] at hg
      exact AObj.al_mono (below_mono (by simp [St.new])) (h.shut id o' hg)
  · rw [get_new, if_neg (by omega)]

theorem Kept.set {s : St} (h : Whole s) {id : Nat} {o o0 : AObj} (h0 : s.get id = some o0) (ho : o.al (below s.next) = true) : Kept s (s.set id o) := by
  have hid : id < s.next := by have := h.full id; rw [h0] at this; simp [below] at this; exact this
  refine ⟨⟨fun j => ?_, fun j o' hg => ?_⟩, Nat.le_refl _, by simp [St.set]; omega, fun j h1 h2 => ?_⟩
  · rw [get_set]
    by_cases hi : j = id
    · subst hi; simp [h0, St.set, below, hid]
    · rw [if_neg hi, h.full]; rfl
  · rw [get_set] at hg
    by_cases hi : j = id
    · rw [if_pos hi, h0] at hg; simp at hg; subst hg; exact ho
    · rw [if_neg hi] at hg; exact h.shut j o' hg
  · rw [get_set, if_neg (by simp [St.set] at h2; omega)]

theorem Whole.lt {s : St} (h : Whole s) {id : Nat} {o : AObj} (hg : s.get id = some o) : id < s.next := by
  have := h.full id; rw [hg] at this; simp [below] at this; exact this

/-- The globals' cells are plain. -/
def Cx.GlOk (cx : Cx) : Prop := ∀ g cs, cx.gl g = some cs → alAll (fun _ => false) cs = true

mutual
theorem AV.al_false {p : Nat → Bool} {a : AV} (h : a.al (fun _ => false) = true) : a.al p = true := AV.al_mono (fun _ h => by simp at h) a h
end

theorem alAll_false {p : Nat → Bool} {as : List AV} (h : alAll (fun _ => false) as = true) : alAll p as = true := alAll_mono (fun _ h => by simp at h) as h

/-- The constants of the code lead to no block. -/
def IX.shut : IX → Bool
  | .const a => a.al (fun _ => false)
  | _ => true

section
variable {cx : Cx} {ρ : Env} {p : Nat → Bool}

theorem Env.get_al (h : alAll p ρ = true) (t : Nat) : (ρ.get t).al p = true := by
  simp only [Env.get, List.getD]
  cases hx : ρ[t]? with
  | none => simp [AV.undef, AV.al, alAll]
  | some a => exact (alAll_iff ρ).1 h a (List.mem_of_getElem? hx)

theorem ev_al (hg : cx.GlOk) (h : alAll p ρ = true) {x : IX} (hx : x.shut = true) {a : AV} (he : x.ev cx ρ = some a) : a.al p = true := by
  cases x with
  | tmp t => simp only [IX.ev, Option.some.injEq] at he; subst he; exact Env.get_al h t
  | const b => simp only [IX.ev, Option.some.injEq] at he; subst he; exact AV.al_false hx
  | glob g =>
    simp only [IX.ev, Option.map_eq_some_iff] at he
    obtain ⟨cs, h1, rfl⟩ := he
    simp only [AV.al]
    exact alAll_false (hg g cs h1)

theorem evs_al (hg : cx.GlOk) (h : alAll p ρ = true) : ∀ (xs : List IX), xs.all IX.shut = true → ∀ {as : List AV}, evs cx ρ xs = some as → alAll p as = true
  | [], _, as, he => by simp only [evs, Option.some.injEq] at he; subst he; rfl
  | x :: xs, hx, as, he => by
    simp only [List.all_cons, Bool.and_eq_true] at hx
    simp only [evs, Option.bind_eq_some_iff, Option.map_eq_some_iff] at he
    obtain ⟨a, h1, bs, h2, rfl⟩ := he
    simp only [alAll, Bool.and_eq_true]
    exact ⟨ev_al hg h hx.1 h1, evs_al hg h xs hx.2 h2⟩

theorem sub_al {cs ds : List AV} {off n : Nat} (h : alAll p cs = true) (hs : sub cs off n = some ds) : alAll p ds = true := by
  simp only [sub] at hs
  split at hs
  · cases hs; exact alAll_take (alAll_drop h _) _
  · cases hs

theorem ofCells_al {cs : List AV} {g : Bool} {a : AV} (h : alAll p cs = true) (hs : ofCells g cs = some a) : a.al p = true := by
  simp only [ofCells] at hs
  split at hs
  · cases hs; simpa [AV.al] using h
  · split at hs
    · cases hs; simpa [alAll] using h
    · cases hs

theorem patch_al {cs vs ds : List AV} {off : Nat} (h : alAll p cs = true) (hv : alAll p vs = true) (hs : patch cs off vs = some ds) : alAll p ds = true := by
  simp only [patch] at hs
  split at hs
  · cases hs; simp only [alAll_append, Bool.and_eq_true]; exact ⟨⟨alAll_take h _, hv⟩, alAll_drop h _⟩
  · cases hs

theorem fillA_al (hg : cx.GlOk) (h : alAll p ρ = true) : ∀ (ps : List (Nat × Nat × IX)) (cs ds : List AV), ps.all (·.2.2.shut) = true → alAll p cs = true → fillA cx ρ cs ps = some ds → alAll p ds = true
  | [], cs, ds, _, hc, he => by simp only [fillA, Option.some.injEq] at he; subst he; exact hc
  | (off, n, x) :: ps, cs, ds, hs, hc, he => by
    simp only [List.all_cons, Bool.and_eq_true] at hs
    simp only [fillA, Option.bind_eq_some_iff] at he
    obtain ⟨v, h1, h2⟩ := he
    split at h2
    · simp only [Option.bind_eq_some_iff] at h2
      obtain ⟨cs', h3, h4⟩ := h2
      exact fillA_al hg h ps cs' ds hs.2 (patch_al hc (al_cells (ev_al hg h hs.1 h1)) h3) h4
    · cases h2

theorem loadA_al {s : St} (hw : Whole s) {g : Bool} {n : Nat} {a v : AV} (ha : a.al (below s.next) = true) (he : loadA s g n a = some v) : v.al (below s.next) = true := by
  cases a <;> simp only [loadA] at he <;> try cases he
  case ptr id off =>
    split at he
    · rename_i cs hg
      simp only [Option.bind_eq_some_iff] at he
      obtain ⟨ds, h1, h2⟩ := he
      exact ofCells_al (sub_al (by simpa [AObj.al] using hw.shut id _ hg) h1) h2
    · cases he
  case vptr cs off =>
    simp only [Option.bind_eq_some_iff] at he
    obtain ⟨ds, h1, h2⟩ := he
    exact ofCells_al (sub_al (by simpa [AV.al] using ha) h1) h2

theorem storeA_kept {s s' : St} (hw : Whole s) {n : Nat} {a x : AV} (hx : x.al (below s.next) = true) (he : storeA s n a x = some s') : Kept s s' := by
  cases a <;> simp only [storeA] at he <;> try cases he
  rename_i id off
  split at he
  · rename_i cs hg
    split at he
    · simp only [Option.map_eq_some_iff] at he
      obtain ⟨ds, h1, rfl⟩ := he
      exact Kept.set hw hg (by simpa [AObj.al] using patch_al (by simpa [AObj.al] using hw.shut id _ hg) (al_cells hx) h1)
    · cases he
  · cases he

theorem byteCells_al (b : List UInt8) : alAll p (byteCells b) = true := by
  rw [alAll_iff]; intro a ha
  simp only [byteCells, List.mem_map] at ha
  obtain ⟨x, _, rfl⟩ := ha
  rfl

theorem cellsOf_al {s : St} (hw : Whole s) {k : Nat} {a : AV} {cs : List AV} (ha : a.al (below s.next) = true) (he : cellsOf s k a = some cs) : alAll (below s.next) cs = true := by
  cases a <;> simp only [cellsOf] at he <;> try cases he
  case str b => split at he <;> cases he; exact byteCells_al b
  case nilslice => rfl
  case slice cs' n own =>
    split at he <;> cases he
    simp only [AV.al, Bool.and_eq_true] at ha; exact ha.2
  case mslice id off n cap =>
    split at he
    · rename_i ds hg; exact sub_al (by simpa [AObj.al] using hw.shut id _ hg) he
    · cases he

theorem sliceA_al {k : Nat} {x v : AV} {lo hi mx : Option AV} (hx : x.al p = true) (he : sliceA k x lo hi mx = some v) : v.al p = true := by
  cases x <;> simp only [sliceA] at he <;> try cases he
  case nilslice =>
    split at he
    · simp at he; obtain ⟨_, rfl⟩ := he; rfl
    · cases he
  case slice cs n own =>
    simp only [AV.al, Bool.and_eq_true] at hx
    split at he
    · simp only [Option.bind_eq_some_iff] at he
      obtain ⟨⟨l, h⟩, _, h2⟩ := he
      split at h2
      · cases h2
        simp only [AV.al, Bool.and_eq_true]
        refine ⟨?_, alAll_take (alAll_drop hx.2 _) _⟩
        split <;> first | exact hx.1 | rfl
      · split at h2 <;> cases h2
        simp only [AV.al, Bool.and_eq_true]
        exact ⟨rfl, alAll_take (alAll_drop hx.2 _) _⟩
      · cases h2
    · cases he
  case mslice id off n cap =>
    split at he
    · simp only [Option.bind_eq_some_iff] at he
      obtain ⟨⟨l, h⟩, _, h2⟩ := he
      split at h2
      · cases h2; exact hx
      · split at h2 <;> cases h2; exact hx
    · cases he

theorem sliceArr_al {k n : Nat} {x v : AV} {lo hi mx : Option AV} (hx : x.al p = true) (he : sliceArr k n x lo hi mx = some v) : v.al p = true := by
  unfold sliceArr at he
  split at he
  · simp at he; obtain ⟨l, h, _, rfl⟩ := he; exact hx
  · simp only [Option.bind_eq_some_iff] at he
    obtain ⟨⟨l, h⟩, _, h2⟩ := he
    split at h2
    · simp only [Option.map_eq_some_iff] at h2
      obtain ⟨cs, h3, rfl⟩ := h2
      simp only [AV.al, Own.al, Bool.true_and]
      exact sub_al (by simpa [AV.al] using hx) h3
    · cases h2
  · cases he

theorem mapFind_al {kk : CK} {k : AV} : ∀ (es : List (AV × AV)) {r : Option AV} {z : AV}, (es.all fun (k, v) => k.al p && v.al p) = true → z.al p = true → mapFind kk k es = some r → (r.getD z).al p = true
  | [], r, z, _, hz, he => by simp only [mapFind, Option.some.injEq] at he; subst he; exact hz
  | (j, v) :: es, r, z, h, hz, he => by
    simp only [List.all_cons, Bool.and_eq_true] at h
    simp only [mapFind] at he
    split at he
    · cases he; exact h.1.2
    · exact mapFind_al es h.2 hz he
    · cases he

theorem mapPut_al {kk : CK} {k v : AV} (hk : k.al p = true) (hv : v.al p = true) : ∀ (es es' : List (AV × AV)), (es.all fun (k, v) => k.al p && v.al p) = true → mapPut kk k v es = some es' → (es'.all fun (k, v) => k.al p && v.al p) = true
  | [], es', _, he => by simp only [mapPut, Option.some.injEq] at he; subst he; simp [hk, hv]
  | (j, u) :: es, es', h, he => by
    simp only [List.all_cons, Bool.and_eq_true] at h
    simp only [mapPut] at he
    split at he
    · cases he; simp only [List.all_cons, Bool.and_eq_true]; exact ⟨⟨hk, hv⟩, h.2⟩
    · simp only [Option.map_eq_some_iff] at he
      obtain ⟨es2, h2, rfl⟩ := he
      simp only [List.all_cons, Bool.and_eq_true]; exact ⟨h.1, mapPut_al hk hv es es2 h.2 h2⟩
    · cases he

theorem entriesOf_al {s : St} (hw : Whole s) {a : AV} {es : List (AV × AV)} (he : entriesOf s a = some es) : (es.all fun (k, v) => k.al (below s.next) && v.al (below s.next)) = true := by
  cases a <;> simp only [entriesOf] at he <;> try cases he
  · rfl
  · split at he
    · rename_i es' hg; cases he; exact hw.shut _ _ hg
    · cases he

theorem evBin_al {op : BinOp} {x y v : AV} (he : evBin op x y = some v) : v.al p = true := by
  unfold evBin at he
  repeat' split at he
  all_goals first | (simp only [Option.some.injEq] at he; subst he; rfl) | cases he

theorem evUn_al {op : UnOp} {x v : AV} (he : evUn op x = some v) : v.al p = true := by
  unfold evUn at he
  split at he <;> first | (simp only [Option.some.injEq] at he; subst he; rfl) | cases he

theorem fold2_al {f : AV → AV → Option AV} (hf : ∀ a b c, f a b = some c → c.al p = true) : ∀ (as : List AV) (a v : AV), a.al p = true → fold2 f a as = some v → v.al p = true
  | [], a, v, ha, he => by simp only [fold2, Option.some.injEq] at he; subst he; exact ha
  | b :: bs, a, v, ha, he => by
    simp only [fold2, Option.bind_eq_some_iff] at he
    obtain ⟨c, h1, h2⟩ := he
    exact fold2_al hf bs c v (hf a b c h1) h2

theorem min2_al {a b c : AV} (h : min2 a b = some c) : c.al p = true := by unfold min2 at h; split at h <;> cases h; rfl
theorem max2_al {a b c : AV} (h : max2 a b = some c) : c.al p = true := by unfold max2 at h; split at h <;> cases h; rfl
end

theorem appendA_kept {s s' : St} (hw : Whole s) {ty : TypeId} {k w : Nat} {x y v : AV} (hx : x.al (below s.next) = true) (hy : y.al (below s.next) = true) (he : appendA s ty k w x y = some (v, s')) :
    Kept s s' ∧ v.al (below s'.next) = true := by
  unfold appendA at he
  split at he
  case h_2 => cases he
  rename_i new m hc hm
  have hn : alAll (below s.next) (new.map AV.strip) = true := alAll_strip (cellsOf_al hw hy hc)
  split at he
  · cases he
  dsimp only at he
  have up : ∀ {as : List AV}, alAll (below s.next) as = true → alAll (below (s.next + 1)) as = true := fun h => alAll_mono (below_mono (by omega)) _ h
  split at he
  · split at he
    · cases he; exact ⟨Kept.refl hw, rfl⟩
    · split at he <;> cases he
      exact ⟨Kept.new hw rfl, by simp [AV.al, Own.al, St.new, up hn]; simp [below]⟩
  · rename_i cs n own
    simp only [AV.al, Bool.and_eq_true] at hx
    split at he
    · split at he
      · cases he; exact ⟨Kept.refl hw, by simp [AV.al, hx.1, hx.2]⟩
      · split at he
        · split at he
          · cases he
            exact ⟨Kept.new hw rfl, by simp [AV.al, Own.al, St.new, alAll_append, up hn, up hx.2]; simp [below]⟩
          · split at he
            · rename_i e' esz' hg
              split at he <;> cases he
              exact ⟨Kept.set hw hg rfl, by simp [AV.al, alAll_append, St.set, hn, hx.2]; exact hx.1⟩
            · cases he
          · cases he
        · cases he
    · cases he
  · split at he
    · cases he; exact ⟨Kept.refl hw, hx⟩
    · split at he
      · rename_i c old _ ho
        split at he
        · split at he <;> cases he
          exact ⟨Kept.new hw rfl, by simp [AV.al, Own.al, St.new, alAll_append, up hn, up (alAll_strip (cellsOf_al hw hx ho))]; simp [below]⟩
        · cases he
      · cases he
  · cases he

theorem copyA_kept {s s' : St} (hw : Whole s) {k : Nat} {x y v : AV} (hy : y.al (below s.next) = true) (he : copyA s k x y = some (v, s')) :
    Kept s s' ∧ v.al (below s'.next) = true := by
  unfold copyA at he
  split at he
  · cases he; exact ⟨Kept.refl hw, rfl⟩
  · rename_i id off n cap m cs hc hcs
    split at he
    · rename_i ds hg
      split at he
      · cases he
      · simp only [Option.map_eq_some_iff] at he
        obtain ⟨ds', h1, h2⟩ := he
        cases h2
        exact ⟨Kept.set hw hg (by simpa [AObj.al] using patch_al (by simpa [AObj.al] using hw.shut id _ hg) (alAll_take (cellsOf_al hw hy hcs) _) h1), rfl⟩
    · cases he
  · cases he

end Fw
