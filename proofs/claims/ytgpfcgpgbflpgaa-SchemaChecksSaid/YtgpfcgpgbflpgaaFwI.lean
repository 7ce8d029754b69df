/- The invariant between an abstract state and a world of the model, and what a change of one block does to it. -/
import Derived.Test.YtgpfcgpgbflpgaaFwK2
namespace Fw
open Go Go.RowKit

abbrev Hp := Nat → Option AObj
def dm (g : Hp) : Nat → Bool := fun id => (g id).isSome

/-- The block of memory that an object of the state has for itself. -/
def blk (σ : Gh) (id : Nat) : AObj → Nat
  | .tok _ e _ => match σ.T id e with
    | some (b, _) => b
    | none => 0
  | _ => σ.φ id

def ObjOk (σ : Gh) (w : World) (id : Nat) : AObj → Prop
  | .cells ty cs => (∃ c E fr, w.heap[σ.φ id]? = some (.cells c E fr) ∧ cs.length ≤ c.size ∧ (∀ j, j < cs.length → ¬ (fr.1 ≤ j ∧ j < fr.2)) ∧ Rs σ cs (c.toList.take cs.length) ∧ ∀ t, ty = some t → E = t ∧ c.size = cs.length) ∧
      ∀ o v, ¬ σ.G (σ.φ id) o v
  | .map es => (∃ ms ck, w.heap[σ.φ id]? = some (.map ms ck) ∧ Rs σ (es.map (·.1)) (ms.toList.map (·.key)) ∧ Rs σ (es.map (·.2)) (ms.toList.map (·.val))) ∧
      ∀ o v, ¬ σ.G (σ.φ id) o v
  | .tok ty e esz => ∃ b eo slack, σ.T id e = some (b, eo, slack, esz) ∧
      (∃ c fr, w.heap[b]? = some (.cells c ty fr) ∧ eo + slack * esz ≤ c.size ∧ fr.2 ≤ eo) ∧
      (∀ o v, eo ≤ o → ¬ σ.G b o v) ∧ ∀ e', e < e' → σ.T id e' = none

/-- What stays the same all through: the first block of the call's own, the world in which it began, the variables of the program that are read. -/
structure Bs where
  B0 : Nat
  w0 : World
  gl : Nat → Option (List AV)
  hB : B0 ≤ w0.heap.size

structure Inv (X : Bs) (σ : Gh) (g : Hp) (w : World) : Prop where
  below : Below X.B0 X.w0 w
  gls : ∀ n cs, X.gl n = some cs → alAll (fun _ => false) cs = true ∧ RC σ cs n 0
  gh : ∀ b o v, σ.G b o v → w.cell? ⟨b, o, none⟩ = some v
  obj : ∀ id o, g id = some o → o.al (dm g) = true ∧ ObjOk σ w id o ∧ X.B0 ≤ blk σ id o
  inj : ∀ i j oi oj, g i = some oi → g j = some oj → i ≠ j → blk σ i oi ≠ blk σ j oj

structure Step (X : Bs) (σ : Gh) (g : Hp) (w : World) (σ' : Gh) (g' : Hp) (w' : World) : Prop where
  inv : Inv X σ' g' w'
  ext : Ext (dm g) σ σ'
  dom : ∀ id, dm g id = true → dm g' id = true
  size : w.heap.size ≤ w'.heap.size
  frame : ∀ b, b < w.heap.size → (∀ id o, g id = some o → blk σ id o ≠ b) → w'.heap[b]? = w.heap[b]?
  own : ∀ id o, g' id = some o → (∃ i p, g i = some p ∧ blk σ i p = blk σ' id o) ∨ w.heap.size ≤ blk σ' id o
  gnew : ∀ b q v, σ'.G b q v → σ.G b q v ∨ (∃ i p, g i = some p ∧ blk σ i p = b) ∨ w.heap.size ≤ b

theorem Step.refl {X : Bs} {σ : Gh} {g : Hp} {w : World} (h : Inv X σ g w) : Step X σ g w σ g w :=
  ⟨h, Ext.refl _ _, fun _ h => h, Nat.le_refl _, fun _ _ _ => rfl, fun id o ho => .inl ⟨id, o, ho, rfl⟩, fun _ _ _ h => .inl h⟩

theorem Step.trans {X : Bs} {σ σ' σ'' : Gh} {g g' g'' : Hp} {w w' w'' : World} (h : Step X σ g w σ' g' w') (k : Step X σ' g' w' σ'' g'' w'') : Step X σ g w σ'' g'' w'' where
  inv := k.inv
  ext := h.ext.trans k.ext h.dom
  dom := fun id hi => k.dom id (h.dom id hi)
  size := Nat.le_trans h.size k.size
  frame := fun b hb hn => (k.frame b (Nat.lt_of_lt_of_le hb h.size) (fun id o ho e => by
    rcases h.own id o ho with ⟨i, p, hp, hq⟩ | hq
    · exact hn i p hp (hq.trans e)
    · omega)).trans (h.frame b hb hn)
  own := fun id o ho => by
    rcases k.own id o ho with ⟨i, p, hp, hq⟩ | hq
    · rcases h.own i p hp with ⟨j, q, hq1, hq2⟩ | hq1
      · exact .inl ⟨j, q, hq1, hq2.trans hq⟩
      · exact .inr (by omega)
    · exact .inr (Nat.le_trans h.size hq)
  gnew := fun b q v hv => by
    rcases k.gnew b q v hv with h1 | ⟨i, p, hp, hq⟩ | h1
    · exact h.gnew b q v h1
    · rcases h.own i p hp with ⟨j, r, hr, hs⟩ | hs
      · exact .inr (.inl ⟨j, r, hr, hs.trans hq⟩)
      · exact .inr (.inr (by omega))
    · exact .inr (.inr (Nat.le_trans h.size h1))

theorem cell_block {w : World} {b o : Nat} {v : Value} (h : w.cell? ⟨b, o, none⟩ = some v) : ∃ c E fr, w.heap[b]? = some (.cells c E fr) ∧ c[o]? = some v := by
  unfold World.cell? at h
  split at h
  · rename_i c E fr hb
    exact ⟨c, E, fr, hb, by simpa using h⟩
  · cases h

theorem cell_of_block {w : World} {b o : Nat} {c : Array Value} {E : TypeId} {fr : Nat × Nat} (h : w.heap[b]? = some (.cells c E fr)) : w.cell? ⟨b, o, none⟩ = c[o]? := by
  unfold World.cell?
  simp [h]

theorem block_lt {w : World} {b : Nat} {o : Obj} (h : w.heap[b]? = some o) : b < w.heap.size := (Array.getElem?_eq_some_iff.1 h).1

theorem cell_same {w w' : World} {b o : Nat} (h : w'.heap[b]? = w.heap[b]?) : w'.cell? ⟨b, o, none⟩ = w.cell? ⟨b, o, none⟩ := by
  unfold World.cell?; simp [h]

theorem blk_mono {σ σ' : Gh} {w : World} {p : Nat → Bool} (ext : Ext p σ σ') {id : Nat} (hp : p id = true) {o : AObj} (h : ObjOk σ w id o) : blk σ' id o = blk σ id o := by
  cases o with
  | cells ty cs => exact ext.φ id hp
  | map es => exact ext.φ id hp
  | tok ty e esz =>
    obtain ⟨b, eo, slack, h1, _⟩ := h
    simp only [blk, h1, ext.T id hp e _ h1]

theorem ObjOk.block {σ : Gh} {w : World} {id : Nat} {o : AObj} (h : ObjOk σ w id o) : blk σ id o < w.heap.size := by
  cases o with
  | cells ty cs => obtain ⟨⟨c, E, fr, h1, _⟩, _⟩ := h; exact block_lt h1
  | map es => obtain ⟨⟨ms, ck, h1, _⟩, _⟩ := h; exact block_lt h1
  | tok ty e esz => obtain ⟨b, eo, slack, h1, ⟨c, fr, h2, _⟩, _⟩ := h; simp only [blk, h1]; exact block_lt h2

/-- An object whose block has not been touched. -/
theorem ObjOk.mono {σ σ' : Gh} {w w' : World} {p : Nat → Bool} (ext : Ext p σ σ') {id : Nat} (hp : p id = true) {o : AObj} (ho : o.al p = true) (h : ObjOk σ w id o)
    (hw : w'.heap[blk σ id o]? = w.heap[blk σ id o]?) (hG : ∀ q v, σ'.G (blk σ id o) q v → σ.G (blk σ id o) q v) (hT : σ'.T id = σ.T id) : ObjOk σ' w' id o := by
  cases o with
  | cells ty cs =>
    simp only [blk] at hw hG
    obtain ⟨⟨c, E, fr, h1, h2, h3, h4, h6⟩, h5⟩ := h
    simp only [ObjOk, ext.φ id hp]
    exact ⟨⟨c, E, fr, hw.trans h1, h2, h3, Rs_mono ext _ _ ho h4, h6⟩, fun q v hq => h5 q v (hG q v hq)⟩
  | map es =>
    simp only [blk] at hw hG
    obtain ⟨⟨ms, ck, h1, h2, h3⟩, h5⟩ := h
    simp only [ObjOk, ext.φ id hp]
    simp only [AObj.al, List.all_eq_true, Bool.and_eq_true] at ho
    refine ⟨⟨ms, ck, hw.trans h1, Rs_mono ext _ _ ?_ h2, Rs_mono ext _ _ ?_ h3⟩, fun q v hq => h5 q v (hG q v hq)⟩
    · rw [alAll_iff]; intro a ha; obtain ⟨x, hx, rfl⟩ := List.mem_map.1 ha; exact (ho x hx).1
    · rw [alAll_iff]; intro a ha; obtain ⟨x, hx, rfl⟩ := List.mem_map.1 ha; exact (ho x hx).2
  | tok ty e esz =>
    obtain ⟨b, eo, slack, h1, ⟨c, fr, h2, h3, h4⟩, h5, h6⟩ := h
    simp only [blk, h1] at hw hG
    exact ⟨b, eo, slack, ext.T id hp e _ h1, ⟨c, fr, hw.trans h2, h3, h4⟩, fun q v hq hg => h5 q v hq (hG q v hg), fun e' he => by rw [hT]; exact h6 e' he⟩

theorem dm_some {g : Hp} {id : Nat} {o : AObj} (h : g id = some o) : dm g id = true := by simp [dm, h]

/-- One object changes, or is new; the blocks that may change are B. -/
theorem Step.change {X : Bs} {σ σ' : Gh} {g g' : Hp} {w w' : World} (i : Nat) (B : Nat → Prop) (hI : Inv X σ g w) (hw : Below X.B0 X.w0 w') (hs : w.heap.size ≤ w'.heap.size)
    (ext : Ext (dm g) σ σ')
    (hB : ∀ j o, g j = some o → j ≠ i → ¬ B (blk σ j o))
    (hframe : ∀ b, b < w.heap.size → ¬ B b → w'.heap[b]? = w.heap[b]?)
    (hBown : ∀ b, B b → b < w.heap.size → ∃ o, g i = some o ∧ blk σ i o = b)
    (hGold : ∀ b o v, σ.G b o v → B b → w'.cell? ⟨b, o, none⟩ = some v)
    (hGnew : ∀ b o v, σ'.G b o v → σ.G b o v ∨ (B b ∧ w'.cell? ⟨b, o, none⟩ = some v))
    (hg : ∀ j, j ≠ i → g' j = g j)
    (hTs : ∀ j, j ≠ i → σ'.T j = σ.T j)
    (hd : dm g i = true → dm g' i = true)
    (hi : ∀ o, g' i = some o → o.al (dm g') = true ∧ ObjOk σ' w' i o ∧ X.B0 ≤ blk σ' i o ∧ (B (blk σ' i o) ∨ ∃ p, g i = some p ∧ blk σ i p = blk σ' i o)) :
    Step X σ g w σ' g' w' := by
  have hdom : ∀ id, dm g id = true → dm g' id = true := fun id h => by
    by_cases e : id = i
    · subst e; exact hd h
    · simpa [dm, hg id e] using h
  have hold : ∀ j o, g' j = some o → j ≠ i → g j = some o ∧ blk σ' j o = blk σ j o := fun j o ho hj => by
    have hgj : g j = some o := by rw [← hg j hj]; exact ho
    exact ⟨hgj, blk_mono ext (dm_some hgj) (hI.obj j o hgj).2.1⟩
  have hown : ∀ o, g' i = some o → (∃ j p, g j = some p ∧ blk σ j p = blk σ' i o ∧ j = i) ∨ w.heap.size ≤ blk σ' i o := fun o ho => by
    obtain ⟨_, _, _, h4⟩ := hi o ho
    rcases h4 with h4 | ⟨p, h4, h5⟩
    · rcases Nat.lt_or_ge (blk σ' i o) w.heap.size with h | h
      · obtain ⟨p, hp, hq⟩ := hBown _ h4 h; exact .inl ⟨i, p, hp, hq, rfl⟩
      · exact .inr h
    · exact .inl ⟨i, p, h4, h5, rfl⟩
  refine ⟨⟨hw, fun n cs hn => ⟨(hI.gls n cs hn).1, RC_mono ext cs n 0 (alAll_false (hI.gls n cs hn).1) (hI.gls n cs hn).2⟩, ?_, ?_, ?_⟩, ext, hdom, hs, ?_, ?_, ?_⟩
  · intro b o v hv
    rcases hGnew b o v hv with h | ⟨_, h⟩
    · by_cases hb : B b
      · exact hGold b o v h hb
      · have hc := hI.gh b o v h
        obtain ⟨c, E, fr, h1, _⟩ := cell_block hc
        rw [cell_same (hframe b (block_lt h1) hb)]; exact hc
    · exact h
  · intro id o ho
    by_cases e : id = i
    · subst e; obtain ⟨h1, h2, h3, _⟩ := hi o ho; exact ⟨h1, h2, h3⟩
    · obtain ⟨hgi, hbl⟩ := hold id o ho e
      obtain ⟨h1, h2, h3⟩ := hI.obj id o hgi
      refine ⟨AObj.al_mono hdom h1, h2.mono ext (dm_some hgi) h1 (hframe _ h2.block (hB id o hgi e)) (fun q v hq => ?_) (hTs id e), hbl ▸ h3⟩
      rcases hGnew _ q v hq with h | ⟨h, _⟩
      · exact h
      · exact absurd h (hB id o hgi e)
  · have key : ∀ j oj o, g' i = some o → g' j = some oj → j ≠ i → blk σ' i o ≠ blk σ' j oj := by
      intro j oj o ho hoj hj
      obtain ⟨hgj, hbl⟩ := hold j oj hoj hj
      rw [hbl]
      rcases hown o ho with ⟨k, p, hp, hq, rfl⟩ | h
      · rw [← hq]; exact hI.inj _ _ _ _ hp hgj (fun e => hj e.symm)
      · have := (hI.obj j oj hgj).2.1.block; omega
    intro a b oa ob ha hb hab
    by_cases ea : a = i
    · subst ea; exact key b ob oa ha hb (fun e => hab e.symm)
    · by_cases eb : b = i
      · subst eb; exact (key a oa ob hb ha ea).symm
      · obtain ⟨h1, h2⟩ := hold a oa ha ea
        obtain ⟨h3, h4⟩ := hold b ob hb eb
        rw [h2, h4]; exact hI.inj a b oa ob h1 h3 hab
  · intro b hb hn
    by_cases hB' : B b
    · obtain ⟨o, ho, hq⟩ := hBown b hB' hb
      exact absurd hq (hn i o ho)
    · exact hframe b hb hB'
  · intro id o ho
    by_cases e : id = i
    · subst e
      rcases hown o ho with ⟨k, p, hp, hq, _⟩ | h
      · exact .inl ⟨k, p, hp, hq⟩
      · exact .inr h
    · obtain ⟨h1, h2⟩ := hold id o ho e
      exact .inl ⟨id, o, h1, h2.symm⟩
  · intro b q v hv
    rcases hGnew b q v hv with h | ⟨h, _⟩
    · exact .inl h
    · rcases Nat.lt_or_ge b w.heap.size with hb | hb
      · obtain ⟨o, ho, hq⟩ := hBown b h hb; exact .inr (.inl ⟨i, o, ho, hq⟩)
      · exact .inr (.inr hb)

/-- The streams and the tape may move on. -/
theorem Step.heap_same {X : Bs} {σ : Gh} {g : Hp} {w w' : World} (hI : Inv X σ g w) (hw : Below X.B0 X.w0 w') (hh : w'.heap = w.heap) : Step X σ g w σ g w' := by
  refine ⟨⟨hw, hI.gls, fun b o v h => ?_, fun id o h => ?_, hI.inj⟩, Ext.refl _ _, fun _ h => h, by rw [hh]; exact Nat.le_refl _, fun b _ _ => by rw [hh], fun id o h => .inl ⟨id, o, h, rfl⟩, fun _ _ _ h => .inl h⟩
  · exact (cell_same (w := w) (w' := w') (by rw [hh])).trans (hI.gh b o v h)
  · obtain ⟨h1, h2, h3⟩ := hI.obj id o h
    exact ⟨h1, h2.mono (Ext.refl _ _) (dm_some h) h1 (by rw [hh]) (fun _ _ h => h) rfl, h3⟩

/-- Fewer objects: a part of the state that is shut. -/
theorem Inv.part {X : Bs} {σ : Gh} {g g' : Hp} {w : World} (h : Inv X σ g w) (hg : ∀ id o, g' id = some o → g id = some o) (hs : ∀ id o, g' id = some o → o.al (dm g') = true) : Inv X σ g' w :=
  ⟨h.below, h.gls, h.gh, fun id o ho => ⟨hs id o ho, (h.obj id o (hg id o ho)).2⟩, fun i j oi oj hi hj hn => h.inj i j oi oj (hg i oi hi) (hg j oj hj) hn⟩

theorem Inv.congr {X : Bs} {σ : Gh} {g g' : Hp} {w : World} (h : Inv X σ g w) (hg : ∀ id, g' id = g id) : Inv X σ g' w := by
  have : g' = g := funext hg
  rw [this]; exact h

end Fw
