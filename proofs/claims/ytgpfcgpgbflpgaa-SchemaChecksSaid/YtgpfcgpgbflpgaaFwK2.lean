/- What the evaluator keeps, operation by operation, and whole calls. -/
import Derived.Test.YtgpfcgpgbflpgaaFwK
namespace Fw
open Go

def oShut : Option IX → Bool
  | none => true
  | some x => x.shut

def IOp.shut : IOp → Bool
  | .mov x | .box _ x | .nilChk x | .un _ x | .i2i _ x | .same x | .b2s x | .s2b x | .i2s x | .faddr _ x | .fld _ _ _ x | .mkif _ x | .extr x _ | .lens x | .lenv x | .lenm x => x.shut
  | .pick c a b => c.shut && a.shut && b.shut
  | .alloc _ z => alAll (fun _ => false) z
  | .build z ps | .bslice z _ ps => alAll (fun _ => false) z && ps.all (·.2.2.shut)
  | .load _ _ a => a.shut
  | .store _ a x | .bin _ a x | .eqv _ _ a x | .iaddr _ _ a x | .idx _ _ _ a x | .app _ _ _ a x | .copy _ a x => a.shut && x.shut
  | .slcs x lo hi => x.shut && oShut lo && oShut hi
  | .slc _ x lo hi m3 | .slca _ _ x lo hi m3 => x.shut && oShut lo && oShut hi && oShut m3
  | .look _ z _ m k => z.al (fun _ => false) && m.shut && k.shut
  | .mupd _ m k v => m.shut && k.shut && v.shut
  | .mkmap => true
  | .bad => true
  | .mkfn _ a b => a.all IX.shut && b.all IX.shut
  | .mkslice _ z l c => alAll (fun _ => false) z && l.shut && c.shut
  | .mn xs | .mx xs => xs.all IX.shut
  | .call f xs => f.shut && xs.all IX.shut

def CalleeOk (callee : Callee) : Prop := ∀ f args s v s', Whole s → alAll (below s.next) args = true → callee f args s = some (v, s') → Kept s s' ∧ v.al (below s'.next) = true

section
variable {cx : Cx} {callee : Callee} {ρ : Env} {s s' : St} {v : AV}

theorem flat_al {p : Nat → Bool} {z : List AV} (h : alAll p z = true) : ∀ n, alAll p ((List.replicate n z).flatten) = true
  | 0 => rfl
  | n + 1 => by simp only [List.replicate_succ, List.flatten_cons, alAll_append, h, flat_al h n, Bool.and_self]

theorem iaddrA_al {p : Nat → Bool} {k : Nat} {arr : Option Nat} {x v : AV} {i : Int} (hx : x.al p = true) (h : iaddrA k arr x i = some v) : v.al p = true := by
  unfold iaddrA at h
  split at h <;> (try cases h) <;> (split at h <;> cases h)
  · exact hx
  · exact hx
  · simp only [AV.al, Bool.and_eq_true] at hx ⊢; exact hx.2
  · exact hx

theorem idxA_al {p : Nat → Bool} {k : Nat} {g : Bool} {arr : Option Nat} {x v : AV} {i : Int} (hx : x.al p = true) (h : idxA k g arr x i = some v) : v.al p = true := by
  unfold idxA at h
  split at h
  · split at h
    · simp only [Option.map_eq_some_iff] at h; obtain ⟨c, _, rfl⟩ := h; rfl
    · cases h
  · split at h
    · simp only [Option.bind_eq_some_iff] at h; obtain ⟨c, h2, h3⟩ := h
      exact ofCells_al (sub_al (by simpa [AV.al] using hx) h2) h3
    · cases h
  · cases h

theorem evOp_kept (hg : cx.GlOk) (hc : CalleeOk callee) (hw : Whole s) (hρ : alAll (below s.next) ρ = true) {o : IOp} (ho : o.shut = true)
    (he : evOp cx callee ρ s o = some (v, s')) : Kept s s' ∧ v.al (below s'.next) = true := by
  have kr := Kept.refl hw
  cases o <;> simp only [IOp.shut, Bool.and_eq_true] at ho <;> simp only [evOp] at he
  case mov x =>
    simp only [Option.map_eq_some_iff] at he; obtain ⟨a, h1, h2⟩ := he; cases h2
    exact ⟨kr, ev_al hg hρ ho h1⟩
  case pick c a b =>
    split at he
    · simp only [Option.map_eq_some_iff] at he; obtain ⟨x, h1, h2⟩ := he; cases h2
      refine ⟨kr, ?_⟩
      split at h1
      · exact ev_al hg hρ ho.1.2 h1
      · exact ev_al hg hρ ho.2 h1
    · cases he
  case alloc z =>
    cases he
    exact ⟨Kept.new hw (by simpa [AObj.al] using alAll_false ho), by simp [AV.al, below, St.new]⟩
  case box x =>
    simp only [Option.map_eq_some_iff] at he; obtain ⟨a, h1, h2⟩ := he; cases h2
    exact ⟨Kept.new hw (by simpa [AObj.al] using alAll_mono (below_mono (by omega)) _ (al_cells (ev_al hg hρ ho h1))), by simp [AV.al, below, St.new]⟩
  case build z ps =>
    simp only [Option.map_eq_some_iff] at he; obtain ⟨a, h1, h2⟩ := he; cases h2
    exact ⟨kr, by simpa [AV.al] using fillA_al hg hρ ps z a ho.2 (alAll_false ho.1) h1⟩
  case bslice z len ps =>
    simp only [Option.map_eq_some_iff] at he; obtain ⟨a, h1, h2⟩ := he; cases h2
    exact ⟨kr, by simpa [AV.al, Own.al] using alAll_strip (fillA_al hg hρ ps z a ho.2 (alAll_false ho.1) h1)⟩
  case load g n a =>
    simp only [Option.map_eq_some_iff, Option.bind_eq_some_iff] at he; obtain ⟨x, ⟨y, h1, h2⟩, h3⟩ := he; cases h3
    exact ⟨kr, loadA_al hw (ev_al hg hρ ho h1) h2⟩
  case store n a x =>
    simp only [Option.map_eq_some_iff, Option.bind_eq_some_iff] at he; obtain ⟨y, h1, z, h2, t, h3, h4⟩ := he; cases h4
    exact ⟨storeA_kept hw (ev_al hg hρ ho.2 h2) h3, rfl⟩
  case nilChk x =>
    split at he <;> first | (rename_i h1; cases he; exact ⟨kr, ev_al hg hρ ho h1⟩) | cases he
  case bin op x y =>
    simp only [Option.map_eq_some_iff, Option.bind_eq_some_iff] at he; obtain ⟨a, _, b, _, c, h3, h4⟩ := he; cases h4
    exact ⟨kr, evBin_al h3⟩
  case eqv neg q x y =>
    simp only [Option.map_eq_some_iff, Option.bind_eq_some_iff] at he; obtain ⟨a, _, b, _, c, h3, h4⟩ := he; cases h4
    exact ⟨kr, rfl⟩
  case un op x =>
    simp only [Option.map_eq_some_iff, Option.bind_eq_some_iff] at he; obtain ⟨a, ⟨b, _, h3⟩, h4⟩ := he; cases h4
    exact ⟨kr, evUn_al h3⟩
  case i2i k x => split at he <;> cases he; exact ⟨kr, rfl⟩
  case same x => split at he <;> cases he; exact ⟨kr, rfl⟩
  case b2s x =>
    split at he
    · cases he; exact ⟨kr, rfl⟩
    · cases he
    · simp only [Option.map_eq_some_iff] at he; obtain ⟨a, _, h2⟩ := he; cases h2; exact ⟨kr, rfl⟩
    · cases he
  case s2b x => 
    split at he <;> cases he
    exact ⟨Kept.new hw (by simpa [AObj.al] using byteCells_al _), by simp [AV.al, below, St.new]⟩
  case i2s x => split at he <;> cases he; exact ⟨kr, rfl⟩
  case slcs x lo hi =>
    split at he
    · simp only [Option.map_eq_some_iff, Option.bind_eq_some_iff] at he; obtain ⟨_, _, _, _, c, h3, h4⟩ := he; cases h4
      exact ⟨kr, rfl⟩
    · cases he
  case slc k x lo hi mx =>
    simp only [Option.map_eq_some_iff, Option.bind_eq_some_iff] at he; obtain ⟨a, h1, _, _, _, _, _, _, c, h3, h4⟩ := he; cases h4
    exact ⟨kr, sliceA_al (ev_al hg hρ ho.1.1.1 h1) h3⟩
  case slca k n x lo hi mx =>
    simp only [Option.map_eq_some_iff, Option.bind_eq_some_iff] at he; obtain ⟨a, h1, _, _, _, _, _, _, c, h3, h4⟩ := he; cases h4
    exact ⟨kr, sliceArr_al (ev_al hg hρ ho.1.1.1 h1) h3⟩
  case faddr off x => split at he <;> first | (rename_i h1; cases he; exact ⟨kr, by simpa [AV.al] using ev_al hg hρ ho h1⟩) | cases he
  case fld off n g x =>
    split at he
    · rename_i cs h1
      simp only [Option.map_eq_some_iff, Option.bind_eq_some_iff] at he; obtain ⟨a, ⟨b, h2, h3⟩, h4⟩ := he; cases h4
      exact ⟨kr, ofCells_al (sub_al (by simpa [AV.al] using ev_al hg hρ ho h1) h2) h3⟩
    · cases he
  case iaddr k arr x i =>
    simp only [Option.bind_eq_some_iff] at he; obtain ⟨a, h1, b, _, he⟩ := he
    have ha := ev_al hg hρ ho.1 h1
    split at he
    · simp only [Option.map_eq_some_iff] at he; obtain ⟨c, h2, h3⟩ := he; cases h3
      exact ⟨kr, iaddrA_al ha h2⟩
    · cases he
  case idx k g arr x i =>
    simp only [Option.bind_eq_some_iff] at he; obtain ⟨a, h1, b, _, he⟩ := he
    have ha := ev_al hg hρ ho.1 h1
    split at he
    · simp only [Option.map_eq_some_iff] at he; obtain ⟨c, h2, h3⟩ := he; cases h3
      exact ⟨kr, idxA_al ha h2⟩
    · cases he
  case look kk z ok m k =>
    simp only [Option.bind_eq_some_iff, Option.map_eq_some_iff] at he; obtain ⟨a, _, b, _, es, h1, r, h2, h3⟩ := he
    have := mapFind_al (p := below s.next) es (z := z) (entriesOf_al hw h1) (AV.al_false ho.1.1) h2
    cases h3
    refine ⟨kr, ?_⟩
    split
    · simp [AV.al, alAll, this]
    · exact this
  case mupd kk m k v =>
    simp only [Option.bind_eq_some_iff] at he; obtain ⟨a, _, b, h2, c, h3, he⟩ := he
    split at he
    · split at he
      · rename_i es hget
        simp only [Option.map_eq_some_iff] at he; obtain ⟨es', h4, h5⟩ := he; cases h5
        exact ⟨Kept.set hw hget (mapPut_al (ev_al hg hρ ho.1.2 h2) (al_strip (ev_al hg hρ ho.2 h3)) es es' (hw.shut _ _ hget) h4), rfl⟩
      · cases he
    · cases he
  case mkmap => cases he; exact ⟨Kept.new hw rfl, by simp [AV.al, below, St.new]⟩
  case mkif t x =>
    simp only [Option.map_eq_some_iff] at he; obtain ⟨a, h1, h2⟩ := he; cases h2
    exact ⟨kr, by simpa [AV.al] using al_strip (ev_al hg hρ ho h1)⟩
  case mkfn f a b =>
    simp only [Option.bind_eq_some_iff, Option.map_eq_some_iff] at he; obtain ⟨x, h1, y, h2, h3⟩ := he; cases h3
    exact ⟨kr, by simp only [AV.al, Bool.and_eq_true]; exact ⟨evs_al hg hρ a ho.1 h1, evs_al hg hρ b ho.2 h2⟩⟩
  case mkslice w z l c =>
    simp only [Option.bind_eq_some_iff] at he; obtain ⟨a, _, b, _, he⟩ := he
    split at he
    · split at he <;> cases he
      exact ⟨Kept.new hw (by simpa [AObj.al] using flat_al (alAll_false ho.1.1) _), by simp [AV.al, below, St.new]⟩
    · cases he
  case extr x i =>
    split at he
    · rename_i vs h1
      simp only [Option.map_eq_some_iff] at he; obtain ⟨a, h2, h3⟩ := he; cases h3
      exact ⟨kr, alAll_get (by simpa [AV.al] using ev_al hg hρ ho h1) h2⟩
    · cases he
  case lens x => split at he <;> cases he; exact ⟨kr, rfl⟩
  case lenv x => split at he <;> cases he <;> exact ⟨kr, rfl⟩
  case lenm x => simp only [Option.map_eq_some_iff] at he; obtain ⟨a, _, h3⟩ := he; cases h3; exact ⟨kr, rfl⟩
  case mn xs =>
    simp only [Option.bind_eq_some_iff] at he; obtain ⟨as, h1, he⟩ := he
    split at he
    · simp only [Option.map_eq_some_iff] at he; obtain ⟨a, h2, h3⟩ := he; cases h3
      have := evs_al hg hρ xs ho h1
      simp only [alAll, Bool.and_eq_true] at this
      exact ⟨kr, fold2_al (fun _ _ _ h => min2_al h) _ _ _ this.1 h2⟩
    · cases he
  case mx xs =>
    simp only [Option.bind_eq_some_iff] at he; obtain ⟨as, h1, he⟩ := he
    split at he
    · simp only [Option.map_eq_some_iff] at he; obtain ⟨a, h2, h3⟩ := he; cases h3
      have := evs_al hg hρ xs ho h1
      simp only [alAll, Bool.and_eq_true] at this
      exact ⟨kr, fold2_al (fun _ _ _ h => max2_al h) _ _ _ this.1 h2⟩
    · cases he
  case app k w x y =>
    simp only [Option.bind_eq_some_iff] at he; obtain ⟨a, h1, b, h2, he⟩ := he
    exact appendA_kept hw (ev_al hg hρ ho.1 h1) (ev_al hg hρ ho.2 h2) he
  case copy k x y =>
    simp only [Option.bind_eq_some_iff] at he; obtain ⟨a, h1, b, h2, he⟩ := he
    exact copyA_kept hw (ev_al hg hρ ho.2 h2) he
  case bad => cases he
  case call f xs =>
    split at he
    · rename_i g a b h1
      simp only [Option.bind_eq_some_iff] at he; obtain ⟨vs, h2, he⟩ := he
      have hf := ev_al hg hρ ho.1 h1
      simp only [AV.al, Bool.and_eq_true] at hf
      exact hc g _ s v s' hw (by simp only [alAll_append, Bool.and_eq_true]; exact ⟨⟨hf.1, evs_al hg hρ xs ho.2 h2⟩, hf.2⟩) he
    · cases he

theorem put_al {p : Nat → Bool} (h : alAll p ρ = true) (hv : v.al p = true) (d : Option Nat) : alAll p (ρ.put d v) = true := by
  cases d with
  | none => exact h
  | some d =>
    simp only [Env.put]
    rw [alAll_iff] at h ⊢
    intro a ha
    rcases List.mem_or_eq_of_mem_set ha with h1 | h1
    · exact h a h1
    · subst h1; exact hv

theorem evOper_kept (hg : cx.GlOk) (hc : CalleeOk callee) (hw : Whole s) (hρ : alAll (below s.next) ρ = true) {o : IOper} (ho : o.op.shut = true) {ρ' : Env}
    (he : evOper cx callee o ρ s = some (ρ', s')) : Kept s s' ∧ alAll (below s'.next) ρ' = true := by
  unfold evOper at he
  split at he
  · simp only [Option.map_eq_some_iff] at he; obtain ⟨⟨v, t⟩, h1, h2⟩ := he; cases h2
    obtain ⟨h3, h4⟩ := evOp_kept hg hc hw hρ ho h1
    exact ⟨h3, put_al (alAll_mono (below_mono h3.next) _ hρ) h4 _⟩
  · cases he; exact ⟨Kept.refl hw, put_al hρ rfl _⟩

theorem evOps_kept (hg : cx.GlOk) (hc : CalleeOk callee) : ∀ (os : List IOper) {ρ : Env} {s : St}, Whole s → alAll (below s.next) ρ = true → (os.all (·.op.shut)) = true → ∀ {ρ' : Env} {s' : St},
    evOps cx callee os ρ s = some (ρ', s') → Kept s s' ∧ alAll (below s'.next) ρ' = true
  | [], ρ, s, hw, hρ, _, ρ', s', he => by simp only [evOps, Option.some.injEq] at he; cases he; exact ⟨Kept.refl hw, hρ⟩
  | o :: os, ρ, s, hw, hρ, ho, ρ', s', he => by
    simp only [List.all_cons, Bool.and_eq_true] at ho
    simp only [evOps, Option.bind_eq_some_iff] at he; obtain ⟨⟨ρ1, s1⟩, h1, h2⟩ := he
    obtain ⟨k1, a1⟩ := evOper_kept hg hc hw hρ ho.1 h1
    obtain ⟨k2, a2⟩ := evOps_kept hg hc os k1.whole a1 ho.2 h2
    exact ⟨k1.trans k2, a2⟩

theorem Kept.low_up {s s' : St} (h : Kept { s with low := s.next } s') : Kept s { s' with low := min s.low s'.low } :=
  ⟨⟨h.whole.full, h.whole.shut⟩, h.next, Nat.min_le_left _ _, fun id h1 h2 => h.same id h1 (by simp at h2; omega)⟩

theorem Whole.low {s : St} (h : Whole s) (n : Nat) : Whole { s with low := n } := ⟨h.full, h.shut⟩

/-- A plain operation gives the same in every state, and leaves it. -/
theorem evOp_plain {o : IOp} (hp : o.plain = true) (s s0 : St) : evOp cx callee ρ s o = (evOp cx callee ρ s0 o).map fun x => (x.1, s) := by
  cases o <;> simp only [IOp.plain, Bool.false_eq_true] at hp <;> simp only [evOp, Option.map_map, Option.map_bind, Function.comp_def]
  case pick => split <;> simp [Option.map_map, Function.comp_def]
  case nilChk => split <;> rfl
  case i2i => split <;> rfl
  case same => split <;> rfl
  case i2s => split <;> rfl
  case lens => split <;> rfl
  case lenv => split <;> rfl
  case slcs => split <;> simp [Option.map_map, Option.map_bind, Function.comp_def]
  case faddr => split <;> rfl
  case fld => split <;> simp [Option.map_map, Function.comp_def]
  case iaddr => congr 1; funext a; congr 1; funext b; split <;> simp [Option.map_map, Function.comp_def]
  case idx => congr 1; funext a; congr 1; funext b; split <;> simp [Option.map_map, Function.comp_def]
  case extr => split <;> simp [Option.map_map, Function.comp_def]
  case mn => congr 1; funext a; split <;> simp [Option.map_map, Function.comp_def]
  case mx => congr 1; funext a; split <;> simp [Option.map_map, Function.comp_def]

theorem evOp_plain_state {o : IOp} (hp : o.plain = true) {s t : St} {v : AV} (h : evOp cx callee ρ s o = some (v, t)) : t = s := by
  rw [evOp_plain hp s s] at h
  simp only [Option.map_eq_some_iff] at h
  obtain ⟨x, _, h2⟩ := h
  cases h2; rfl

theorem evDeed_kept (hg : cx.GlOk) (hc : CalleeOk callee) (hw : Whole s) (hρ : alAll (below s.next) ρ = true) {o : IOp} (ho : o.shut = true) {d : Option Deed}
    (he : evDeed cx callee ρ s o = some (v, s', d)) : Kept s s' ∧ v.al (below s'.next) = true := by
  unfold evDeed at he
  split at he
  · simp only [Option.map_eq_some_iff] at he; obtain ⟨⟨v, t⟩, h1, h2⟩ := he; cases h2
    rename_i hp
    obtain ⟨h3, h4⟩ := evOp_kept hg hc hw hρ ho h1
    refine ⟨Kept.refl hw, ?_⟩
    obtain rfl := evOp_plain_state hp h1
    exact h4
  · split at he
    · simp only [Option.map_eq_some_iff] at he; obtain ⟨⟨v, t⟩, h1, h2⟩ := he; cases h2
      exact evOp_kept hg hc hw hρ ho h1
    · split at he
      · rename_i g n a _ _
        simp only [Option.map_eq_some_iff] at he; obtain ⟨⟨v, t⟩, h1, h2⟩ := he; cases h2
        have := (evOp_kept hg hc hw hρ ho h1).2
        simp only [evOp, Option.map_eq_some_iff] at h1; obtain ⟨_, _, h3⟩ := h1; cases h3
        exact ⟨Kept.refl hw, this⟩
      · simp only [Option.map_eq_some_iff] at he; obtain ⟨⟨v, t⟩, h1, h2⟩ := he; cases h2
        exact evOp_kept hg hc hw hρ ho h1
      · simp only [Option.map_eq_some_iff] at he; obtain ⟨⟨v, t⟩, h1, h2⟩ := he
        have := evOp_kept (s := { s with low := s.next }) hg hc (hw.low _) hρ ho h1
        split at h2
        · rename_i hq
          cases h2
          exact ⟨Kept.refl hw, by have := this.2; rwa [hq.1] at this⟩
        · cases h2
          exact ⟨this.1.low_up, this.2⟩

theorem evDraw_kept (hg : cx.GlOk) (hc : CalleeOk callee) : ∀ (os : List (IOper × Nat)) {i : Nat} {ds : List (Nat × Deed)} {ρ : Env} {s : St}, Whole s → alAll (below s.next) ρ = true → (os.all (·.1.op.shut)) = true → ∀ {ρ' : Env} {s' : St},
    evDraw cx callee os i ds ρ s = some (ρ', s') → Kept s s' ∧ alAll (below s'.next) ρ' = true
  | [], i, ds, ρ, s, hw, hρ, _, ρ', s', he => by simp only [evDraw, Option.some.injEq] at he; cases he; exact ⟨Kept.refl hw, hρ⟩
  | (o, mask) :: os, i, ds, ρ, s, hw, hρ, ho, ρ', s', he => by
    simp only [List.all_cons, Bool.and_eq_true] at ho
    simp only [evDraw] at he
    split at he
    · simp only [Option.bind_eq_some_iff] at he; obtain ⟨⟨v, s1, d⟩, h1, h2⟩ := he
      obtain ⟨k1, a1⟩ := evDeed_kept hg hc hw hρ ho.1 h1
      have k2 := put_al (alAll_mono (below_mono k1.next) _ hρ) a1 o.dst
      dsimp only at h2
      split at h2
      · obtain ⟨k3, a3⟩ := evDraw_kept hg hc os k1.whole k2 ho.2 h2
        exact ⟨k1.trans k3, a3⟩
      · split at h2
        · obtain ⟨k3, a3⟩ := evDraw_kept hg hc os k1.whole k2 ho.2 h2
          exact ⟨k1.trans k3, a3⟩
        · cases h2
    · exact evDraw_kept hg hc os hw (put_al hρ rfl _) ho.2 he
end

def ICode.shut : ICode → Bool
  | .skip | .exit _ | .ret => true
  | .region ops => ops.all (·.op.shut)
  | .dregion ops => ops.all (·.1.op.shut)
  | .seq a b => a.shut && b.shut
  | .cond c a b => c.shut && a.shut && b.shut
  | .block _ b | .loop b | .scope b => b.shut

structure Cx.Ok (cx : Cx) : Prop where
  gl : cx.GlOk
  fns : ∀ f fn, cx.fns f = some fn → fn.body.shut = true
  ext : ∀ f g, cx.ext f = some g → ∀ args s v s', Whole s → alAll (below s.next) args = true → g args s = some (v, s') → Kept s s' ∧ v.al (below s'.next) = true

def ExOk (ex : Ex) : Prop := ∀ c ρ s g ρ' s', c.shut = true → Whole s → alAll (below s.next) ρ = true → ex c ρ s = some (g, ρ', s') → Kept s s' ∧ alAll (below s'.next) ρ' = true

theorem results_al {s : St} (hw : Whole s) {ρ : Env} (hρ : alAll (below s.next) ρ = true) : ∀ (rs : List IRes) {vs : List AV}, results s ρ rs = some vs → alAll (below s.next) vs = true
  | [], vs, he => by simp only [results, Option.some.injEq] at he; subst he; rfl
  | .tmp t :: rs, vs, he => by
    simp only [results, Option.map_eq_some_iff] at he; obtain ⟨us, h1, rfl⟩ := he
    simp only [alAll, Bool.and_eq_true]; exact ⟨Env.get_al hρ t, results_al hw hρ rs h1⟩
  | .cell t g n :: rs, vs, he => by
    simp only [results, Option.bind_eq_some_iff, Option.map_eq_some_iff] at he; obtain ⟨a, h1, us, h2, rfl⟩ := he
    simp only [alAll, Bool.and_eq_true]; exact ⟨loadA_al hw (Env.get_al hρ t) h1, results_al hw hρ rs h2⟩

theorem tupled_al {p : Nat → Bool} {vs : List AV} (h : alAll p vs = true) : (tupled vs).al p = true := by
  unfold tupled
  split
  · simpa [alAll] using h
  · simpa [AV.al] using h

theorem callWith_ok {cx : Cx} (hx : cx.Ok) {ex : Ex} (he : ExOk ex) : CalleeOk (callWith cx ex) := by
  intro f args s v s' hw ha h
  unfold callWith at h
  split at h
  · rename_i g hg; exact hx.ext f g hg args s v s' hw ha h
  · simp only [Option.bind_eq_some_iff] at h
    obtain ⟨fn, h1, ⟨sig, ρ, t⟩, h2, h3⟩ := h
    have hu : alAll (below s.next) (args ++ List.replicate (fn.ntmps - args.length) AV.undef) = true := by
      rw [alAll_append, ha, Bool.true_and, alAll_iff]
      intro a hm; rw [(List.mem_replicate.1 hm).2]; rfl
    obtain ⟨k, a⟩ := he fn.body _ { s with low := s.next } sig ρ t (hx.fns f fn h1) (hw.low _) hu h2
    dsimp only at h3
    split at h3
    · cases h3
    · simp only [Option.map_eq_some_iff] at h3
      obtain ⟨vs, h4, h5⟩ := h3
      unfold leave at h5
      split at h5
      · rename_i hq; cases h5; exact ⟨Kept.refl hw, hq.2⟩
      · cases h5; exact ⟨k.low_up, tupled_al (results_al k.whole a _ h4)⟩

theorem exec_ok {cx : Cx} (hx : cx.Ok) : ∀ k, ExOk (exec cx k)
  | 0 => fun _ _ _ _ _ _ _ _ _ h => by simp [exec] at h
  | k + 1 => by
    intro c ρ s g ρ' s' hs hw hρ h
    have ih := exec_ok hx k
    cases c <;> simp only [exec] at h <;> simp only [ICode.shut, Bool.and_eq_true] at hs
    case skip => cases h; exact ⟨Kept.refl hw, hρ⟩
    case region ops =>
      simp only [Option.map_eq_some_iff] at h; obtain ⟨⟨ρ1, s1⟩, h1, h2⟩ := h; cases h2
      exact evOps_kept hx.gl (callWith_ok hx ih) ops hw hρ hs h1
    case dregion ops =>
      simp only [Option.map_eq_some_iff] at h; obtain ⟨⟨ρ1, s1⟩, h1, h2⟩ := h; cases h2
      exact evDraw_kept hx.gl (callWith_ok hx ih) ops hw hρ hs h1
    case seq a b =>
      simp only [Option.bind_eq_some_iff] at h; obtain ⟨⟨g1, ρ1, s1⟩, h1, h2⟩ := h
      obtain ⟨k1, a1⟩ := ih a ρ s g1 ρ1 s1 hs.1 hw hρ h1
      dsimp only at h2
      split at h2
      · obtain ⟨k2, a2⟩ := ih b ρ1 s1 g ρ' s' hs.2 k1.whole a1 h2
        exact ⟨k1.trans k2, a2⟩
      · cases h2; exact ⟨k1, a1⟩
    case cond x a b =>
      split at h
      · split at h
        · exact ih _ _ _ _ _ _ hs.1.2 hw hρ h
        · exact ih _ _ _ _ _ _ hs.2 hw hρ h
      · cases h
    case block id b =>
      simp only [Option.map_eq_some_iff] at h; obtain ⟨⟨g1, ρ1, s1⟩, h1, h2⟩ := h; cases h2
      exact ih _ _ _ _ _ _ hs hw hρ h1
    case loop b =>
      simp only [Option.bind_eq_some_iff] at h; obtain ⟨⟨g1, ρ1, s1⟩, h1, h2⟩ := h
      obtain ⟨k1, a1⟩ := ih b ρ s g1 ρ1 s1 hs hw hρ h1
      dsimp only at h2
      split at h2
      · obtain ⟨k2, a2⟩ := ih (.loop b) ρ1 s1 g ρ' s' (by simpa [ICode.shut] using hs) k1.whole a1 h2
        exact ⟨k1.trans k2, a2⟩
      · cases h2; exact ⟨k1, a1⟩
    case exit id => cases h; exact ⟨Kept.refl hw, hρ⟩
    case scope b => exact ih _ _ _ _ _ _ hs hw hρ h
    case ret => cases h; exact ⟨Kept.refl hw, hρ⟩

end Fw
