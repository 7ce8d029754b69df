/- The operations that read or change memory, one by one. -/
import Derived.Test.YtgpfcgpgbflpgaaFwQ
import Derived.MapKept
import Derived.Lib.FrozenHead
import Derived.Laws.IdiomStrings
import Derived.Laws.MakeOwn
namespace Fw
open Go Go.RowKit

section
variable {P : Program} {X : Bs} {cx : Cx} {callee : Callee} {σ : Gh} {ρ : Env} {a : Act} {w w' : World} {s s' : St} {v : AV}

theorem next_none (hw : Whole s) : s.get s.next = none := by
  have := hw.full s.next
  simp [below] at this
  exact this

theorem get_set' (hw : Whole s) {id : Nat} {o o' : AObj} (h : s.get id = some o) (j : Nat) : (s.set id o').get j = if j = id then some o' else s.get j := by
  rw [get_set]; simp [h]

/-- What an operation leaves. -/
def LeftG (X : Bs) (σ : Gh) (g : Hp) (w : World) (v : AV) (g' : Hp) (r : Result Next) : Prop :=
  ∃ u w' σ', Step X σ g w σ' g' w' ∧ R σ' v u ∧ (r = .ok (.value u) w' ∨ (u = undef ∧ r = .ok .skip w'))

abbrev Left (X : Bs) (σ : Gh) (s : St) (w : World) (v : AV) (s' : St) (r : Result Next) : Prop := LeftG X σ s.get w v s'.get r

theorem LeftG.same {g : Hp} (hI : Inv X σ g w) {u : Value} {r : Result Next} (hr : r = .ok (.value u) w) (hR : R σ v u) : LeftG X σ g w v g r := ⟨u, w, σ, Step.refl hI, hR, .inl hr⟩
theorem Left.same (hI : Inv X σ s.get w) {u : Value} {r : Result Next} (hr : r = .ok (.value u) w) (hR : R σ v u) : Left X σ s w v s r := ⟨u, w, σ, Step.refl hI, hR, .inl hr⟩

theorem addr_add (b o n : Nat) : Addr.add ⟨b, o, none⟩ n = ⟨b, o + n, none⟩ := Addr.add_lit b o n

/-- The model's values in a run of cells that never change. -/
theorem cells_RC (hG : ∀ b o v, σ.G b o v → w.cell? ⟨b, o, none⟩ = some v) : ∀ (cs : List AV) (b o : Nat), RC σ cs b o → ∃ vs, Rs σ cs vs ∧ ∀ (j : Nat) (v : Value), vs[j]? = some v → w.cell? ⟨b, o + j, none⟩ = some v
  | [], b, o, _ => ⟨[], by simp [Rs], by simp⟩
  | c :: cs, b, o, h => by
    simp only [RC] at h
    obtain ⟨⟨v, h1, h2⟩, h3⟩ := h
    obtain ⟨vs, h4, h5⟩ := cells_RC hG cs b (o + 1) h3
    refine ⟨v :: vs, by simp only [Rs]; exact ⟨v, vs, rfl, h2, h4⟩, fun j u hu => ?_⟩
    cases j with
    | zero => simp at hu; subst hu; simpa using hG b o v h1
    | succ j =>
      simp at hu
      have := h5 j u hu
      rwa [show o + 1 + j = o + (j + 1) by omega] at this

/-- The model's values in a stretch of an object. -/
theorem cells_obj {g : Hp} (hI : Inv X σ g w) {id off n : Nat} {ty : Option TypeId} {cs ds : List AV} (hg : g id = some (.cells ty cs)) (hs : sub cs off n = some ds) : ∃ vs, Rs σ ds vs ∧ ds.length = n ∧ ∀ (j : Nat) (v : Value), vs[j]? = some v → w.cell? ⟨σ.φ id, off + j, none⟩ = some v := by
  obtain ⟨_, ⟨⟨c, E, fr, h1, h2, h3, h4, _⟩, _⟩, _⟩ := hI.obj id _ hg
  simp only [sub] at hs
  split at hs <;> cases hs
  rename_i hq
  refine ⟨((c.toList.take cs.length).drop off).take n, Rs_take (Rs_drop h4 off) n, by simp; omega, fun j u hu => ?_⟩
  rw [cell_of_block h1]
  rw [List.getElem?_take] at hu
  split at hu
  · rw [List.getElem?_drop, List.getElem?_take] at hu
    split at hu
    · simpa using hu
    · cases hu
  · cases hu

theorem run_loadVar {g : Bool} {n : Nat} {t : TypeId} {ds : List AV} {vs : List Value} {b o : Nat} (hg : tagg P t = some g) (hn : tsz P t = some n) (hR : Rs σ ds vs) (hl : ds.length = n) (hc : ∀ (j : Nat) (v : Value), vs[j]? = some v → w.cell? ⟨b, o + j, none⟩ = some v)
    (hv : ofCells g ds = some v) : ∃ u, (loadVar t ⟨b, o, none⟩).run P w = .ok u w ∧ R σ v u := by
  have hlen := Rs_length _ _ hR
  cases g with
  | true =>
    simp only [ofCells, if_true, Option.some.injEq] at hv; subst hv
    have := run_loadCells_list (P := P) w ⟨b, o, none⟩ vs (fun j u hu => by rw [addr_add]; exact hc j u hu)
    refine ⟨.agg vs.toArray, ?_, ?_⟩
    · rw [show vs.length = n by omega] at this
      simp [loadVar, run_tagg hg, run_tsz hn, this]
    · simp only [R]; exact ⟨_, rfl, by simpa using hR⟩
  | false =>
    simp only [ofCells, Bool.false_eq_true, if_false] at hv
    split at hv <;> cases hv
    simp only [Rs] at hR
    obtain ⟨u, rest, rfl, h1, rfl⟩ := hR
    have hcu := hc 0 u rfl
    simp only [Nat.add_zero] at hcu
    exact ⟨u, by simp [loadVar, run_tagg hg, hcu], h1⟩

theorem load_R {h : Hp} (hI : Inv X σ h w) {g : Bool} {n : Nat} {t : TypeId} {x : AV} {u : Value} (hh : ∀ id off, x = .ptr id off → h id = s.get id) (hg : tagg P t = some g) (hn : tsz P t = some n) (hx : R σ x u) (he : loadA s g n x = some v) :
    ∃ b o, u = .pointer (some ⟨b, o, none⟩) ∧ ∃ u', (loadVar t ⟨b, o, none⟩).run P w = .ok u' w ∧ R σ v u' := by
  unfold loadA at he
  split at he
  · rename_i id off
    split at he
    · rename_i cs hcs
      simp only [Option.bind_eq_some_iff] at he; obtain ⟨ds, h1, h2⟩ := he
      simp only [R] at hx; subst hx
      obtain ⟨vs, h3, h4, h5⟩ := cells_obj hI ((hh _ _ rfl).trans hcs) h1
      exact ⟨_, _, rfl, run_loadVar hg hn h3 h4 h5 h2⟩
    · cases he
  · rename_i cs off
    simp only [Option.bind_eq_some_iff] at he; obtain ⟨ds, h1, h2⟩ := he
    simp only [R] at hx; obtain ⟨b, o, rfl, h3⟩ := hx
    simp only [sub] at h1
    split at h1 <;> cases h1
    rename_i hq
    obtain ⟨vs, h4, h5⟩ := cells_RC hI.gh _ _ _ (RC_sub h3 off n)
    exact ⟨_, _, rfl, run_loadVar hg hn h4 (by simp; omega) h5 h2⟩
  · cases he

theorem run_storeCells_free (P : Program) (g o : Nat) (t : TypeId) (fz : Nat × Nat) : ∀ (vs : List Value) (i : Nat) (cur : Array Value) (w : World), w.heap[g]? = some (.cells cur t fz) → (∀ j, o + i ≤ j → j < o + i + vs.length → ¬ (fz.1 ≤ j ∧ j < fz.2)) → o + i + vs.length ≤ cur.size → (∀ v ∈ vs, v.oneCell' = true) →
    (storeCells ⟨g, o, none⟩ vs i).run P w = .ok () (w.setRow g (cur.toList.take (o + i) ++ vs ++ cur.toList.drop (o + i + vs.length)).toArray)
  | [], i, cur, w, hg, _, _, _ => by
    simp only [storeCells, List.append_nil, List.length_nil, Nat.add_zero, List.take_append_drop, Array.toArray_toList]
    rw [setRow_self w g cur t fz hg]
    rfl
  | v :: rest, i, cur, w, hg, hfz, hl, h1 => by
    have hi : o + i < cur.size := by simp at hl; omega
    have hadd : (⟨g, o, none⟩ : Addr).add i = ⟨g, o + i, none⟩ := Addr.add_lit g o i
    have hcell : w.cell? ⟨g, o + i, none⟩ = some cur[o + i] := by simp [World.cell?, hg, hi]
    have hfro : w.frozen? ⟨g, o + i, none⟩ = false := by
      have := hfz (o + i) (Nat.le_refl _) (by simp)
      obtain ⟨lo, hi'⟩ := fz
      simp only [World.frozen?, hg, Bool.and_eq_false_iff, decide_eq_false_iff_not]
      simp only at this
      omega
    have hst : (store ((⟨g, o, none⟩ : Addr).add i) v).run P w = .ok () (w.setRow g (cur.setIfInBounds (o + i) v)) := by
      rw [hadd, run_store P w _ v _ (h1 v (by simp)), hcell]
      simp [hfro, setCell_eq_setRow w g (o + i) cur t fz v hg]
    have ih := run_storeCells_free P g o t fz rest (i + 1) (cur.setIfInBounds (o + i) v) (w.setRow g (cur.setIfInBounds (o + i) v)) (setRow_heap w g cur _ t _ hg) (fun j h2 h3 => hfz j (by omega) (by simp at h3 ⊢; omega)) (by simp at hl ⊢; omega) (fun x hx => h1 x (by simp [hx]))
    simp only [storeCells, Sem.run_bind, hst, Result.andThen_ok, ih, setRow_setRow]
    congr 3
    have e := list_seg_step cur.toList (o + i) v rest (by simp at hl ⊢; omega)
    simpa [Array.toList_setIfInBounds, Nat.add_assoc] using e

theorem Rs_one {as : List AV} {vs : List Value} (h : Rs σ as vs) (h1 : as.all AV.one = true) : ∀ u ∈ vs, u.oneCell' = true := by
  intro u hu
  obtain ⟨j, hj⟩ := List.mem_iff_getElem?.1 hu
  have hlt : j < as.length := by have := (List.getElem?_eq_some_iff.1 hj).1; rw [Rs_length _ _ h] at this; exact this
  obtain ⟨u', h2, h3⟩ := Rs_get _ _ h j as[j] (by simp [hlt])
  rw [hj] at h2; cases h2
  rw [R_one h3]
  exact List.all_eq_true.1 h1 _ (by simp)

/-- Cells of an object are written. -/
theorem store_stepG {g g' : Hp} (hI : Inv X σ g w) {id off : Nat} {ty : Option TypeId} {cs xs ds : List AV} {us : List Value} (hg : g id = some (.cells ty cs)) (hg' : ∀ j, g' j = if j = id then some (.cells ty ds) else g j) (hx : Rs σ xs us) (hal : alAll (dm g) xs = true) (hone : xs.all AV.one = true) (hp : patch cs off xs = some ds) :
    ∃ w', (storeCells ⟨σ.φ id, off, none⟩ us).run P w = .ok () w' ∧ Step X σ g w σ g' w' := by
  obtain ⟨hcal, ⟨⟨c, E, fr, h1, h2, h3, h4, hty⟩, _⟩, _⟩ := hI.obj id _ hg
  have hlen := Rs_length _ _ hx
  have hpr := patch_R h4 hx hp
  have hbnd : off + xs.length ≤ cs.length ∧ ds.length = cs.length ∧ ds = cs.take off ++ xs ++ cs.drop (off + xs.length) := by
    simp only [patch] at hp
    split at hp <;> cases hp
    refine ⟨by assumption, by simp; omega, rfl⟩
  have hst := run_storeCells_free P (σ.φ id) off E fr us 0 c w h1 (fun j _ h6 => h3 j (by omega)) (by omega) (Rs_one hx hone)
  simp only [Nat.add_zero] at hst
  refine ⟨_, hst, Step.setCells hI hg hg' ?_ h1 ?_ ?_ ?_ ?_⟩
  · rw [hbnd.2.2, alAll_append, alAll_append]
    simp only [AObj.al] at hcal
    simp [alAll_take hcal, alAll_drop hcal, hal]
  · rw [hbnd.2.1]; simp; omega
  · intro j hj; exact h3 j (by omega)
  · have e : (c.toList.take off ++ us ++ c.toList.drop (off + us.length)).take ds.length = (c.toList.take cs.length).take off ++ us ++ (c.toList.take cs.length).drop (off + us.length) := by
      have hc : c.toList.length = c.size := by simp
      rw [hbnd.2.1, List.take_append, List.take_append, List.take_take, List.take_take, List.drop_take]
      rw [show min off cs.length = off by omega, show min cs.length off = off by omega]
      rw [List.take_of_length_le (l := us) (by simp; omega)]
      congr 2
      simp; omega
    show Rs σ ds ((c.toList.take off ++ us ++ c.toList.drop (off + us.length)).toArray.toList.take ds.length)
    rw [List.toList_toArray, e]; exact hpr
  · intro t ht
    obtain ⟨e1, e2⟩ := hty t ht
    refine ⟨e1, ?_⟩
    rw [hbnd.2.1]; simp; omega

theorem store_step (hw : Whole s) (hI : Inv X σ s.get w) {id off : Nat} {ty : Option TypeId} {cs xs ds : List AV} {us : List Value} (hg : s.get id = some (.cells ty cs)) (hx : Rs σ xs us) (hal : alAll (below s.next) xs = true) (hone : xs.all AV.one = true) (hp : patch cs off xs = some ds) :
    ∃ w', (storeCells ⟨σ.φ id, off, none⟩ us).run P w = .ok () w' ∧ Step X σ s.get w σ (s.set id (.cells ty ds)).get w' :=
  store_stepG hI hg (fun j => get_set' hw hg j) hx (by rw [dm_get hw]; exact hal) hone hp
end
end Fw
