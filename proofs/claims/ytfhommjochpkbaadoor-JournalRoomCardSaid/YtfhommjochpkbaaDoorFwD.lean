/- Parts of the proof, one behind the other. -/
import Derived.Test.YtfhommjochpkbaaDoorFwB
set_option linter.unusedSimpArgs false
set_option linter.unusedVariables false
set_option linter.unusedSectionVars false

/- Regions that draw their order: what an operation looks at, what a frame keeps. -/
namespace Fw
open Go Go.RowKit

section
variable {P : Program} {X : Bs} {cx : Cx} {callee : Callee} {σ σ' : Gh} {ρ ρ' : Env} {a : Act} {w w' : World} {s s' : St} {v : AV}

theorem ev_congr {x : IX} (h : ∀ t ∈ x.tmps, ρ.get t = ρ'.get t) : x.ev cx ρ = x.ev cx ρ' := by
  cases x with
  | tmp t => simp only [IX.ev]; rw [h t (by simp [IX.tmps])]
  | const => rfl
  | glob => rfl
theorem evo_congr {x : Option IX} (h : ∀ t ∈ oTmps x, ρ.get t = ρ'.get t) : evo cx ρ x = evo cx ρ' x := by
  cases x with
  | none => rfl
  | some x => simp only [evo, ev_congr (cx := cx) (x := x) h]
theorem evs_congr : ∀ {xs : List IX}, (∀ t ∈ xs.flatMap IX.tmps, ρ.get t = ρ'.get t) → evs cx ρ xs = evs cx ρ' xs
  | [], _ => rfl
  | x :: xs, h => by
    simp only [List.flatMap_cons, List.mem_append] at h
    simp only [evs, ev_congr (cx := cx) (x := x) fun t ht => h t (.inl ht), evs_congr (xs := xs) fun t ht => h t (.inr ht)]
theorem fillA_congr : ∀ {ps : List (Nat × Nat × IX)} (cs : List AV), (∀ t ∈ ps.flatMap (·.2.2.tmps), ρ.get t = ρ'.get t) → fillA cx ρ cs ps = fillA cx ρ' cs ps
  | [], _, _ => rfl
  | (o, n, x) :: ps, cs, h => by
    simp only [List.flatMap_cons, List.mem_append] at h
    simp only [fillA, ev_congr (cx := cx) (x := x) fun t ht => h t (.inl ht)]
    congr 1; funext v
    split
    · congr 1; funext cs'; exact fillA_congr cs' fun t ht => h t (.inr ht)
    · rfl

theorem evOp_congr {io : IOp} (h : ∀ t ∈ io.tmps, ρ.get t = ρ'.get t) : evOp cx callee ρ s io = evOp cx callee ρ' s io := by
  have e : ∀ (x : IX), (∀ t ∈ x.tmps, t ∈ io.tmps) → x.ev cx ρ = x.ev cx ρ' := fun x hx => ev_congr fun t ht => h t (hx t ht)
  have eo : ∀ (x : Option IX), (∀ t ∈ oTmps x, t ∈ io.tmps) → evo cx ρ x = evo cx ρ' x := fun x hx => evo_congr fun t ht => h t (hx t ht)
  have es : ∀ (x : List IX), (∀ t ∈ x.flatMap IX.tmps, t ∈ io.tmps) → evs cx ρ x = evs cx ρ' x := fun x hx => evs_congr fun t ht => h t (hx t ht)
  have ef : ∀ (x : List (Nat × Nat × IX)) cs, (∀ t ∈ x.flatMap (·.2.2.tmps), t ∈ io.tmps) → fillA cx ρ cs x = fillA cx ρ' cs x := fun x cs hx => fillA_congr cs fun t ht => h t (hx t ht)
  clear h
  cases io <;> simp only [evOp]
  case mov x => simp only [e x fun t ht => by simp [IOp.tmps, ht]]
  case pick c x y =>
    simp only [e c fun t ht => by simp [IOp.tmps, ht]]
    have h1 := e x fun t ht => by simp [IOp.tmps, ht]
    have h2 := e y fun t ht => by simp [IOp.tmps, ht]
    split
    · rename_i b _; cases b
      · simp only [Bool.false_eq_true, if_false, h2]
      · simp only [if_true, h1]
    · rfl
  case box x => simp only [e x fun t ht => by simp [IOp.tmps, ht]]
  case build z ps => simp only [ef ps _ fun t ht => by simpa [IOp.tmps] using ht]
  case bslice z n ps => simp only [ef ps _ fun t ht => by simpa [IOp.tmps] using ht]
  case load g n x => simp only [e x fun t ht => by simp [IOp.tmps, ht]]
  case store n x y => simp only [e x fun t ht => by simp [IOp.tmps, ht], e y fun t ht => by simp [IOp.tmps, ht]]
  case nilChk x => simp only [e x fun t ht => by simp [IOp.tmps, ht]]
  case bin op x y => simp only [e x fun t ht => by simp [IOp.tmps, ht], e y fun t ht => by simp [IOp.tmps, ht]]
  case eqv n q x y => simp only [e x fun t ht => by simp [IOp.tmps, ht], e y fun t ht => by simp [IOp.tmps, ht]]
  case un op x => simp only [e x fun t ht => by simp [IOp.tmps, ht]]
  case i2i k x => simp only [e x fun t ht => by simp [IOp.tmps, ht]]
  case same x => simp only [e x fun t ht => by simp [IOp.tmps, ht]]
  case b2s x => simp only [e x fun t ht => by simp [IOp.tmps, ht]]
  case s2b x => simp only [e x fun t ht => by simp [IOp.tmps, ht]]
  case i2s x => simp only [e x fun t ht => by simp [IOp.tmps, ht]]
  case slcs x lo hi => simp only [e x fun t ht => by simp [IOp.tmps, ht], eo lo fun t ht => by simp [IOp.tmps, ht], eo hi fun t ht => by simp [IOp.tmps, ht]]
  case slc k x lo hi m3 => simp only [e x fun t ht => by simp [IOp.tmps, ht], eo lo fun t ht => by simp [IOp.tmps, ht], eo hi fun t ht => by simp [IOp.tmps, ht], eo m3 fun t ht => by simp [IOp.tmps, ht]]
  case slca k n x lo hi m3 => simp only [e x fun t ht => by simp [IOp.tmps, ht], eo lo fun t ht => by simp [IOp.tmps, ht], eo hi fun t ht => by simp [IOp.tmps, ht], eo m3 fun t ht => by simp [IOp.tmps, ht]]
  case faddr o x => simp only [e x fun t ht => by simp [IOp.tmps, ht]]
  case fld o n g x => simp only [e x fun t ht => by simp [IOp.tmps, ht]]
  case iaddr k n x y => simp only [e x fun t ht => by simp [IOp.tmps, ht], e y fun t ht => by simp [IOp.tmps, ht]]
  case idx k g n x y => simp only [e x fun t ht => by simp [IOp.tmps, ht], e y fun t ht => by simp [IOp.tmps, ht]]
  case look kk z ok x y => simp only [e x fun t ht => by simp [IOp.tmps, ht], e y fun t ht => by simp [IOp.tmps, ht]]
  case mupd kk x y z => simp only [e x fun t ht => by simp [IOp.tmps, ht], e y fun t ht => by simp [IOp.tmps, ht], e z fun t ht => by simp [IOp.tmps, ht]]
  case mkif t x => simp only [e x fun t ht => by simp [IOp.tmps, ht]]
  case mkfn f x y => simp only [es x fun t ht => by simp only [IOp.tmps, List.mem_append]; simp [ht], es y fun t ht => by simp only [IOp.tmps, List.mem_append]; simp [ht]]
  case mkslice b z x y => simp only [e x fun t ht => by simp [IOp.tmps, ht], e y fun t ht => by simp [IOp.tmps, ht]]
  case extr x i => simp only [e x fun t ht => by simp [IOp.tmps, ht]]
  case lens x => simp only [e x fun t ht => by simp [IOp.tmps, ht]]
  case lenv x => simp only [e x fun t ht => by simp [IOp.tmps, ht]]
  case lenm x => simp only [e x fun t ht => by simp [IOp.tmps, ht]]
  case mn xs => simp only [es xs fun t ht => by simpa [IOp.tmps] using ht]
  case mx xs => simp only [es xs fun t ht => by simpa [IOp.tmps] using ht]
  case app k b x y => simp only [e x fun t ht => by simp [IOp.tmps, ht], e y fun t ht => by simp [IOp.tmps, ht]]
  case clr z x => simp only [e x fun t ht => by simp [IOp.tmps, ht]]
  case copy k x y => simp only [e x fun t ht => by simp [IOp.tmps, ht], e y fun t ht => by simp [IOp.tmps, ht]]
  case call f xs => simp only [e f fun t ht => by simp [IOp.tmps, ht], es xs fun t ht => by simp only [IOp.tmps, List.mem_append]; simp [ht]]

/-- A plain operation's value has no number that its operands have not. -/
theorem plain_al {p : Nat → Bool} (hg : cx.GlOk) (hρ : alAll p ρ = true) {o : IOp} (ho : o.shut = true) (hp : o.plain = true) (he : evOp cx callee ρ s o = some (v, s')) : v.al p = true := by
  cases o <;> simp only [IOp.plain, Bool.false_eq_true] at hp <;> simp only [IOp.shut, Bool.and_eq_true] at ho <;> simp only [evOp] at he
  case mov x =>
    simp only [Option.map_eq_some_iff] at he; obtain ⟨a, h1, h2⟩ := he; cases h2
    exact ev_al hg hρ ho h1
  case pick c a b =>
    split at he
    · simp only [Option.map_eq_some_iff] at he; obtain ⟨x, h1, h2⟩ := he; cases h2
      split at h1
      · exact ev_al hg hρ ho.1.2 h1
      · exact ev_al hg hρ ho.2 h1
    · cases he
  case build z ps =>
    simp only [Option.map_eq_some_iff] at he; obtain ⟨a, h1, h2⟩ := he; cases h2
    simpa [AV.al] using fillA_al hg hρ ps z a ho.2 (alAll_false ho.1) h1
  case bslice z len ps =>
    simp only [Option.map_eq_some_iff] at he; obtain ⟨a, h1, h2⟩ := he; cases h2
    simpa [AV.al, Own.al] using alAll_strip (fillA_al hg hρ ps z a ho.2 (alAll_false ho.1) h1)
  case nilChk x =>
    split at he <;> first | (rename_i h1; cases he; exact ev_al hg hρ ho h1) | cases he
  case bin op x y =>
    simp only [Option.map_eq_some_iff, Option.bind_eq_some_iff] at he; obtain ⟨a, _, b, _, c, h3, h4⟩ := he; cases h4
    exact evBin_al h3
  case eqv neg q x y =>
    simp only [Option.map_eq_some_iff, Option.bind_eq_some_iff] at he; obtain ⟨a, _, b, _, c, h3, h4⟩ := he; cases h4
    rfl
  case un op x =>
    simp only [Option.map_eq_some_iff, Option.bind_eq_some_iff] at he; obtain ⟨a, ⟨b, _, h3⟩, h4⟩ := he; cases h4
    exact evUn_al h3
  case i2i k x => split at he <;> cases he; rfl
  case same x => split at he <;> cases he; rfl
  case i2s x => split at he <;> cases he; rfl
  case slcs x lo hi =>
    split at he
    · simp only [Option.map_eq_some_iff, Option.bind_eq_some_iff] at he; obtain ⟨_, _, _, _, c, h3, h4⟩ := he; cases h4
      rfl
    · cases he
  case slc k x lo hi mx =>
    simp only [Option.map_eq_some_iff, Option.bind_eq_some_iff] at he; obtain ⟨a, h1, _, _, _, _, _, _, c, h3, h4⟩ := he; cases h4
    exact sliceA_al (ev_al hg hρ ho.1.1.1 h1) h3
  case slca k n x lo hi mx =>
    simp only [Option.map_eq_some_iff, Option.bind_eq_some_iff] at he; obtain ⟨a, h1, _, _, _, _, _, _, c, h3, h4⟩ := he; cases h4
    exact sliceArr_al (ev_al hg hρ ho.1.1.1 h1) h3
  case faddr off x => split at he <;> first | (rename_i h1; cases he; simpa [AV.al] using ev_al hg hρ ho h1) | cases he
  case fld off n g x =>
    split at he
    · rename_i cs h1
      simp only [Option.map_eq_some_iff, Option.bind_eq_some_iff] at he; obtain ⟨a, ⟨b, h2, h3⟩, h4⟩ := he; cases h4
      exact ofCells_al (sub_al (by simpa [AV.al] using ev_al hg hρ ho h1) h2) h3
    · cases he
  case iaddr k arr x i =>
    simp only [Option.bind_eq_some_iff] at he; obtain ⟨a, h1, b, _, he⟩ := he
    have ha := ev_al hg hρ ho.1 h1
    split at he
    · simp only [Option.map_eq_some_iff] at he; obtain ⟨c, h2, h3⟩ := he; cases h3
      exact iaddrA_al ha h2
    · cases he
  case idx k g arr x i =>
    simp only [Option.bind_eq_some_iff] at he; obtain ⟨a, h1, b, _, he⟩ := he
    have ha := ev_al hg hρ ho.1 h1
    split at he
    · simp only [Option.map_eq_some_iff] at he; obtain ⟨c, h2, h3⟩ := he; cases h3
      exact idxA_al ha h2
    · cases he
  case mkif t x =>
    simp only [Option.map_eq_some_iff] at he; obtain ⟨a, h1, h2⟩ := he; cases h2
    simpa [AV.al] using al_strip (ev_al hg hρ ho h1)
  case mkfn f a b =>
    simp only [Option.bind_eq_some_iff, Option.map_eq_some_iff] at he; obtain ⟨x, h1, y, h2, h3⟩ := he; cases h3
    simp only [AV.al, Bool.and_eq_true]; exact ⟨evs_al hg hρ a ho.1 h1, evs_al hg hρ b ho.2 h2⟩
  case extr x i =>
    split at he
    · rename_i vs h1
      simp only [Option.map_eq_some_iff] at he; obtain ⟨a, h2, h3⟩ := he; cases h3
      exact alAll_get (by simpa [AV.al] using ev_al hg hρ ho h1) h2
    · cases he
  case lens x => split at he <;> cases he; rfl
  case lenv x => split at he <;> cases he <;> rfl
  case mn xs =>
    simp only [Option.bind_eq_some_iff] at he; obtain ⟨as, h1, he⟩ := he
    split at he
    · simp only [Option.map_eq_some_iff] at he; obtain ⟨a, h2, h3⟩ := he; cases h3
      have := evs_al hg hρ xs ho h1
      simp only [alAll, Bool.and_eq_true] at this
      exact fold2_al (fun _ _ _ h => min2_al h) _ _ _ this.1 h2
    · cases he
  case mx xs =>
    simp only [Option.bind_eq_some_iff] at he; obtain ⟨as, h1, he⟩ := he
    split at he
    · simp only [Option.map_eq_some_iff] at he; obtain ⟨a, h2, h3⟩ := he; cases h3
      have := evs_al hg hρ xs ho h1
      simp only [alAll, Bool.and_eq_true] at this
      exact fold2_al (fun _ _ _ h => max2_al h) _ _ _ this.1 h2
    · cases he

/-- What a step leaves alone may be put beside it. -/
theorem Step.beside {g g' h h' : Hp} (hI : Inv X σ h w) (hst : Step X σ g w σ' g' w') (hsub : ∀ id o, g id = some o → h id = some o) (hnew : ∀ id, g id = none → h id ≠ none → g' id = none) (hh : ∀ id, h' id = if (g' id).isSome then g' id else h id) :
    ∃ σ'', Step X σ h w σ'' h' w' ∧ Ext (dm g') σ' σ'' := by
  have hdg : ∀ id, dm g id = true → dm g' id = true := hst.dom
  let ex : Nat → Bool := fun id => (g id).isNone && (h id).isSome
  have hex1 : ∀ id, ex id = true → g id = none ∧ h id ≠ none ∧ g' id = none := fun id he => by
    simp only [ex, Bool.and_eq_true, Option.isNone_iff_eq_none, Option.isSome_iff_ne_none] at he
    exact ⟨he.1, he.2, hnew id he.1 he.2⟩
  have hex2 : ∀ id, dm h id = true → ex id = false → dm g id = true := fun id h1 h2 => by
    simp only [ex, dm] at h1 h2 ⊢
    rw [h1, Bool.and_true] at h2
    cases hg : g id with
    | none => rw [hg] at h2; cases h2
    | some o => rfl
  have hex3 : ∀ id, dm g' id = true → ex id = false := fun id h1 => by
    cases he : ex id with
    | false => rfl
    | true => have := (hex1 id he).2.2; simp [dm, this] at h1
  let σ'' : Gh := { G := σ'.G, φ := fun id => if ex id then σ.φ id else σ'.φ id, T := fun id => if ex id then σ.T id else σ'.T id }
  have hx1 : Ext (dm g') σ' σ'' := ⟨fun _ _ _ h => h, fun id hid => by simp only [σ'', hex3 id hid, Bool.false_eq_true, if_false], fun t ht e x hx => by simp only [σ'', hex3 t ht, Bool.false_eq_true, if_false]; exact hx⟩
  have hx2 : Ext (dm h) σ σ'' := by
    refine ⟨hst.ext.G, fun id hid => ?_, fun t ht e x hx => ?_⟩
    · simp only [σ'']
      cases he : ex id with
      | true => rfl
      | false => simp only [Bool.false_eq_true, if_false]; exact hst.ext.φ id (hex2 id hid he)
    · simp only [σ'']
      cases he : ex t with
      | true => exact hx
      | false => simp only [Bool.false_eq_true, if_false]; exact hst.ext.T t (hex2 t ht he) e x hx
  have hd1 : ∀ id, dm g' id = true → dm h' id = true := fun id h1 => by
    simp only [dm] at h1 ⊢; rw [hh id, if_pos h1]; exact h1
  have hd2 : ∀ id, dm h id = true → dm h' id = true := fun id h1 => by
    cases h2 : dm g' id with
    | true => exact hd1 id h2
    | false => simp only [dm] at h1 h2 ⊢; rw [hh id, h2]; exact h1
  -- an object of h' is one of g', or one that has been left alone
  have split : ∀ id o, h' id = some o → (g' id = some o) ∨ (ex id = true ∧ h id = some o) := fun id o ho => by
    rw [hh id] at ho
    cases h2 : (g' id).isSome with
    | true => rw [h2] at ho; exact .inl ho
    | false =>
      rw [h2] at ho
      simp only [Bool.false_eq_true, if_false] at ho
      refine .inr ⟨?_, ho⟩
      cases he : ex id with
      | true => rfl
      | false =>
        have := hdg id (hex2 id (dm_some ho) he)
        simp only [dm] at this; rw [h2] at this; cases this
  have alone : ∀ id o, ex id = true → h id = some o → ∀ i p, g i = some p → blk σ i p ≠ blk σ id o := fun id o he ho i p hp e => by
    have hne : i ≠ id := fun e => by subst e; rw [(hex1 i he).1] at hp; cases hp
    exact hI.inj i id p o (hsub i p hp) ho hne e
  have bl1 : ∀ id o, g' id = some o → blk σ'' id o = blk σ' id o := fun id o ho => blk_mono hx1 (dm_some ho) (hst.inv.obj id o ho).2.1
  have bl2 : ∀ id o, h id = some o → blk σ'' id o = blk σ id o := fun id o ho => blk_mono hx2 (dm_some ho) (hI.obj id o ho).2.1
  have mixed : ∀ i j oi oj, g' i = some oi → ex j = true → h j = some oj → blk σ'' i oi ≠ blk σ'' j oj := fun i j oi oj hi hj ho e => by
    rw [bl1 i oi hi, bl2 j oj ho] at e
    rcases hst.own i oi hi with ⟨k, p, hp, hq⟩ | hq
    · exact alone j oj hj ho k p hp (hq.trans e)
    · have := (hI.obj j oj ho).2.1.block; omega
  refine ⟨σ'', ⟨⟨hst.inv.below, fun n cs hn => ⟨(hst.inv.gls n cs hn).1, RC_mono hx1 cs n 0 (alAll_false (hst.inv.gls n cs hn).1) (hst.inv.gls n cs hn).2⟩, hst.inv.gh, fun id o ho => ?_, fun i j oi oj hi hj hne => ?_⟩, hx2, hd2, hst.size, fun b hb hn => hst.frame b hb fun id o ho => hn id o (hsub id o ho), fun id o ho => ?_, fun b q v hv => ?_⟩, hx1⟩
  · rcases split id o ho with h1 | ⟨he, h1⟩
    · obtain ⟨h2, h3, h4⟩ := hst.inv.obj id o h1
      refine ⟨AObj.al_mono hd1 h2, h3.mono hx1 (dm_some h1) h2 rfl (fun _ _ h => h) ?_, ?_⟩
      · simp only [σ'', hex3 id (dm_some h1), Bool.false_eq_true, if_false]
      · rw [bl1 id o h1]; exact h4
    · obtain ⟨h2, h3, h4⟩ := hI.obj id o h1
      refine ⟨AObj.al_mono hd2 h2, h3.mono hx2 (dm_some h1) h2 (hst.frame _ h3.block (alone id o he h1)) (fun q v hv => ?_) ?_, ?_⟩
      · rcases hst.gnew _ q v hv with h5 | ⟨i, p, hp, hq⟩ | h5
        · exact h5
        · exact absurd hq (alone id o he h1 i p hp)
        · have := h3.block; omega
      · simp only [σ'', he, if_true]
      · rw [bl2 id o h1]; exact h4
  · rcases split i oi hi with h1 | ⟨he1, h1⟩ <;> rcases split j oj hj with h2 | ⟨he2, h2⟩
    · rw [bl1 i oi h1, bl1 j oj h2]; exact hst.inv.inj i j oi oj h1 h2 hne
    · exact mixed i j oi oj h1 he2 h2
    · exact (mixed j i oj oi h2 he1 h1).symm
    · rw [bl2 i oi h1, bl2 j oj h2]; exact hI.inj i j oi oj h1 h2 hne
  · rcases split id o ho with h1 | ⟨he, h1⟩
    · rw [bl1 id o h1]
      rcases hst.own id o h1 with ⟨i, p, hp, hq⟩ | hq
      · exact .inl ⟨i, p, hsub i p hp, hq⟩
      · exact .inr hq
    · exact .inl ⟨id, o, h1, (bl2 id o h1).symm⟩
  · rcases hst.gnew b q v hv with h1 | ⟨i, p, hp, hq⟩ | h1
    · exact .inl h1
    · exact .inr (.inl ⟨i, p, hsub i p hp, hq⟩)
    · exact .inr (.inr h1)
end
end Fw


/- Regions that draw their order: the record of a run in the text's order, and what a part of it leaves. -/
namespace Fw
open Go Go.RowKit

/-- One operation of the run in the text's order. -/
structure Rec where
  ρ : Env
  s : St
  v : AV
  d : Option Deed
  ρ' : Env
  s' : St

structure RecOk (cx : Cx) (callee : Callee) (io : IOper) (r : Rec) : Prop where
  want : wants r.ρ io.guard = true → evDeed cx callee r.ρ r.s io.op = some (r.v, r.s', r.d)
  skip : wants r.ρ io.guard = false → r.v = AV.undef ∧ r.s' = r.s ∧ r.d = none
  env : r.ρ' = r.ρ.put io.dst r.v

inductive Trace (cx : Cx) (callee : Callee) : List (IOper × Nat) → Env → St → List Rec → Env → St → Prop
  | nil {ρ s} : Trace cx callee [] ρ s [] ρ s
  | cons {io m os ρ s v d ρ1 s1 rs ρ' s'} : RecOk cx callee io ⟨ρ, s, v, d, ρ1, s1⟩ → Trace cx callee os ρ1 s1 rs ρ' s' → Trace cx callee ((io, m) :: os) ρ s (⟨ρ, s, v, d, ρ1, s1⟩ :: rs) ρ' s'

theorem freeAll_iff (m : Nat) (d : Deed) : ∀ ds : List (Nat × Deed), freeAll m d ds = true ↔ ∀ j e, (j, e) ∈ ds → m.testBit j = true ∨ e.free d = true
  | [] => by simp [freeAll]
  | (j, e) :: ds => by
    simp only [freeAll, Bool.and_eq_true, Bool.or_eq_true, freeAll_iff m d ds, List.mem_cons, Prod.mk.injEq]
    constructor
    · rintro ⟨h1, h2⟩ j' e' (⟨rfl, rfl⟩ | h)
      · exact h1
      · exact h2 j' e' h
    · intro h; exact ⟨h j e (.inl ⟨rfl, rfl⟩), fun j' e' h' => h j' e' (.inr h')⟩

theorem trace_of {cx : Cx} {callee : Callee} : ∀ (os : List (IOper × Nat)) {i : Nat} {ds : List (Nat × Deed)} {ρ : Env} {s : St} {ρ' : Env} {s' : St}, evDraw cx callee os i ds ρ s = some (ρ', s') →
    ∃ rs, Trace cx callee os ρ s rs ρ' s' ∧
      (∀ (k : Nat) (m : Nat) (io : IOper) (r : Rec) (d : Deed), os[k]? = some (io, m) → rs[k]? = some r → r.d = some d →
        (∀ j e, (j, e) ∈ ds → m.testBit j = true ∨ e.free d = true) ∧ ∀ (l : Nat) (q : Rec) (e : Deed), l < k → rs[l]? = some q → q.d = some e → m.testBit (i + l) = true ∨ e.free d = true)
  | [], i, ds, ρ, s, ρ', s', h => by
    simp only [evDraw, Option.some.injEq] at h; cases h
    exact ⟨[], .nil, fun k m io r d h => by simp at h⟩
  | (io, m) :: os, i, ds, ρ, s, ρ', s', h => by
    simp only [evDraw] at h
    split at h
    · rename_i hw
      simp only [Option.bind_eq_some_iff] at h; obtain ⟨⟨v, s1, d⟩, h1, h2⟩ := h
      dsimp only at h2
      split at h2
      · obtain ⟨rs, h3, h4⟩ := trace_of os h2
        refine ⟨⟨ρ, s, v, none, ρ.put io.dst v, s1⟩ :: rs, .cons ⟨fun _ => h1, fun h => (by rw [hw] at h; cases h), rfl⟩ h3, fun k m' io' r d hk hr hd => ?_⟩
        cases k with
        | zero => simp at hr; subst hr; cases hd
        | succ k =>
          simp only [List.getElem?_cons_succ] at hk hr
          obtain ⟨h5, h6⟩ := h4 k m' io' r d hk hr hd
          refine ⟨h5, fun l q e hl hq he => ?_⟩
          cases l with
          | zero => simp at hq; subst hq; cases he
          | succ l =>
            simp only [List.getElem?_cons_succ] at hq
            have := h6 l q e (by omega) hq he
            rwa [show i + (l + 1) = i + 1 + l by omega]
      · rename_i d0
        split at h2
        · rename_i hf
          rw [freeAll_iff] at hf
          obtain ⟨rs, h3, h4⟩ := trace_of os h2
          refine ⟨⟨ρ, s, v, some d0, ρ.put io.dst v, s1⟩ :: rs, .cons ⟨fun _ => h1, fun h => (by rw [hw] at h; cases h), rfl⟩ h3, fun k m' io' r d hk hr hd => ?_⟩
          cases k with
          | zero =>
            simp at hr hk; subst hr; obtain ⟨rfl, rfl⟩ := hk; cases hd
            exact ⟨hf, fun l q e hl => by omega⟩
          | succ k =>
            simp only [List.getElem?_cons_succ] at hk hr
            obtain ⟨h5, h6⟩ := h4 k m' io' r d hk hr hd
            refine ⟨fun j e hj => h5 j e (List.mem_cons_of_mem _ hj), fun l q e hl hq he => ?_⟩
            cases l with
            | zero =>
              simp at hq; subst hq; cases he
              exact h5 i d0 (List.mem_cons_self ..)
            | succ l =>
              simp only [List.getElem?_cons_succ] at hq
              have := h6 l q e (by omega) hq he
              rwa [show i + (l + 1) = i + 1 + l by omega]
        · cases h2
    · rename_i hw
      obtain ⟨rs, h3, h4⟩ := trace_of os h
      refine ⟨⟨ρ, s, AV.undef, none, ρ.put io.dst AV.undef, s⟩ :: rs, .cons ⟨fun h => absurd h hw, fun _ => ⟨rfl, rfl, rfl⟩, rfl⟩ h3, fun k m' io' r d hk hr hd => ?_⟩
      cases k with
      | zero => simp at hr; subst hr; cases hd
      | succ k =>
        simp only [List.getElem?_cons_succ] at hk hr
        obtain ⟨h5, h6⟩ := h4 k m' io' r d hk hr hd
        refine ⟨h5, fun l q e hl hq he => ?_⟩
        cases l with
        | zero => simp at hq; subst hq; cases he
        | succ l =>
          simp only [List.getElem?_cons_succ] at hq
          have := h6 l q e (by omega) hq he
          rwa [show i + (l + 1) = i + 1 + l by omega]

/-- What a record does to the blocks. -/
noncomputable def Rec.act (r : Rec) (g : Hp) : Hp := fun j => match r.d with
  | some (.lay id) => if j = id then r.s'.get id else g j
  | some (.wr id) => if j = id then r.s'.get id else g j
  | some (.wrAll p) => @ite _ (j < r.s'.next ∧ p j) (Classical.propDecidable _) (r.s'.get j) (g j)
  | _ => g j

def Rec.touches (r : Rec) (j : Nat) : Prop := match r.d with
  | some (.lay id) => j = id
  | some (.wr id) => j = id
  | some (.wrAll p) => j < r.s'.next ∧ p j
  | _ => False

/-- What the records of L leave: the temporaries and the blocks. -/
def envL (L : Nat → Bool) : Nat → List (IOper × Nat) → List Rec → Env → Env
  | k, (io, _) :: os, r :: rs, ρ => envL L (k + 1) os rs (if L k then ρ.put io.dst r.v else ρ)
  | _, _, _, ρ => ρ

noncomputable def hpL (L : Nat → Bool) : Nat → List Rec → Hp → Hp
  | k, r :: rs, g => hpL L (k + 1) rs (if L k then r.act g else g)
  | _, [], g => g

theorem act_same {r : Rec} {g h : Hp} {j : Nat} (e : g j = h j) : r.act g j = r.act h j := by
  unfold Rec.act; split <;> first | exact e | (split <;> first | rfl | exact e)
theorem act_idle {r : Rec} {g : Hp} {j : Nat} (e : ¬ r.touches j) : r.act g j = g j := by
  unfold Rec.touches at e
  unfold Rec.act
  split <;> rename_i hd <;> first | rfl | (rw [hd] at e; dsimp only at e; rw [if_neg e])

theorem hpL_agree {L L' : Nat → Bool} {j : Nat} : ∀ (rs : List Rec) (k : Nat) {g h : Hp}, g j = h j → (∀ (l : Nat) (r : Rec), rs[l]? = some r → r.touches j → L (k + l) = L' (k + l)) → hpL L k rs g j = hpL L' k rs h j
  | [], _, _, _, e, _ => e
  | r :: rs, k, g, h, e, hL => by
    simp only [hpL]
    refine hpL_agree rs (k + 1) ?_ fun l q hq ht => ?_
    · by_cases ht : r.touches j
      · have := hL 0 r rfl ht
        simp only [Nat.add_zero] at this
        rw [this]; split
        · exact act_same e
        · exact e
      · have h1 : (if L k then r.act g else g) j = g j := by split <;> first | exact act_idle ht | rfl
        have h2 : (if L' k then r.act h else h) j = h j := by split <;> first | exact act_idle ht | rfl
        rw [h1, h2]; exact e
    · have := hL (l + 1) q (by simpa using hq) ht
      rwa [show k + 1 + l = k + (l + 1) by omega]

theorem put_len (ρ : Env) (d : Option Nat) (v : AV) : (ρ.put d v).length = ρ.length := by cases d <;> simp [Env.put]
theorem put_get (ρ : Env) (d : Option Nat) (v : AV) (t : Nat) : (ρ.put d v).get t = if d = some t ∧ t < ρ.length then v else ρ.get t := by
  cases d with
  | none => simp [Env.put]
  | some d =>
    simp only [Env.put, Env.get, List.getD, List.getElem?_set, Option.some.injEq]
    by_cases h : d = t
    · subst h
      simp only [true_and, if_true]
      split
      · rfl
      · rename_i hl; rw [List.getElem?_eq_none (by omega)]
    · simp [h]
theorem env_ext {ρ ρ' : Env} (hl : ρ.length = ρ'.length) (h : ∀ t, ρ.get t = ρ'.get t) : ρ = ρ' := by
  apply List.ext_getElem hl
  intro i h1 h2
  have := h i
  simp only [Env.get, List.getD, List.getElem?_eq_getElem h1, List.getElem?_eq_getElem h2, Option.getD_some] at this
  exact this

theorem envL_len (L : Nat → Bool) : ∀ (os : List (IOper × Nat)) (rs : List Rec) (k : Nat) (ρ : Env), (envL L k os rs ρ).length = ρ.length
  | [], _, _, _ => by simp [envL]
  | (io, m) :: os, [], k, ρ => by simp [envL]
  | (io, m) :: os, r :: rs, k, ρ => by
    simp only [envL]
    rw [envL_len L os rs]
    split
    · exact put_len _ _ _
    · rfl

theorem envL_agree {L L' : Nat → Bool} {t : Nat} : ∀ (os : List (IOper × Nat)) (rs : List Rec) (k : Nat) {ρ ρ' : Env}, ρ.length = ρ'.length → ρ.get t = ρ'.get t → (∀ (l : Nat) (io : IOper) (m : Nat), os[l]? = some (io, m) → io.dst = some t → L (k + l) = L' (k + l)) →
    (envL L k os rs ρ).get t = (envL L' k os rs ρ').get t
  | [], _, _, _, _, _, e, _ => by simpa [envL] using e
  | (io, m) :: os, [], k, ρ, ρ', _, e, _ => by simpa [envL] using e
  | (io, m) :: os, r :: rs, k, ρ, ρ', hl, e, hL => by
    simp only [envL]
    refine envL_agree os rs (k + 1) ?_ ?_ fun l io' m' hq ht => ?_
    · split <;> split <;> simp [put_len, hl]
    · by_cases ht : io.dst = some t
      · have := hL 0 io m rfl ht
        simp only [Nat.add_zero] at this
        rw [this]; split
        · rw [put_get, put_get, hl, e]
        · exact e
      · have h1 : (if L k then ρ.put io.dst r.v else ρ).get t = ρ.get t := by
          split
          · rw [put_get, if_neg (fun h => ht h.1)]
          · rfl
        have h2 : (if L' k then ρ'.put io.dst r.v else ρ').get t = ρ'.get t := by
          split
          · rw [put_get, if_neg (fun h => ht h.1)]
          · rfl
        rw [h1, h2]; exact e
    · have := hL (l + 1) io' m' (by simpa using hq) ht
      rwa [show k + 1 + l = k + (l + 1) by omega]

theorem hpL_none {L : Nat → Bool} : ∀ (rs : List Rec) (k : Nat) {g : Hp}, (∀ l, k ≤ l → L l = false) → hpL L k rs g = g
  | [], _, _, _ => rfl
  | r :: rs, k, g, h => by
    simp only [hpL, h k (Nat.le_refl _), Bool.false_eq_true, if_false]
    exact hpL_none rs (k + 1) fun l hl => h l (by omega)
theorem envL_none {L : Nat → Bool} : ∀ (os : List (IOper × Nat)) (rs : List Rec) (k : Nat) {ρ : Env}, (∀ l, k ≤ l → L l = false) → envL L k os rs ρ = ρ
  | [], _, _, _, _ => by simp [envL]
  | (io, m) :: os, [], _, _, _ => by simp [envL]
  | (io, m) :: os, r :: rs, k, ρ, h => by
    simp only [envL, h k (Nat.le_refl _), Bool.false_eq_true, if_false]
    exact envL_none os rs (k + 1) fun l hl => h l (by omega)

section
variable {cx : Cx} {callee : Callee}

/-- What a single operation keeps and does. -/
structure RecFacts (r : Rec) : Prop where
  ok : Whole r.s
  al : alAll (below r.s.next) r.ρ = true
  kept : Kept r.s r.s'
  al' : alAll (below r.s'.next) r.ρ' = true
  act : r.act r.s.get = r.s'.get

theorem whole_none {s : St} (h : Whole s) {j : Nat} (hj : s.next ≤ j) : s.get j = none := by
  have := h.full j
  cases hg : s.get j with
  | none => rfl
  | some o => rw [hg] at this; simp [below] at this; omega

theorem lays_get {o : IOp} (hl : o.lays = true) {ρ : Env} {s t : St} {v : AV} (h : evOp cx callee ρ s o = some (v, t)) : ∀ j, j ≠ s.next → t.get j = s.get j := by
  cases o <;> simp only [IOp.lays, Bool.false_eq_true] at hl
  · simp only [evOp, Option.some.injEq] at h; cases h; exact fun j hj => by rw [get_new, if_neg hj]
  · simp only [evOp, Option.map_eq_some_iff] at h; obtain ⟨b, _, h5⟩ := h; cases h5; exact fun j hj => by rw [get_new, if_neg hj]
  · simp only [evOp, Option.bind_eq_some_iff] at h; obtain ⟨b, _, c, _, h5⟩ := h
    split at h5
    · split at h5 <;> cases h5
      exact fun j hj => by rw [get_new, if_neg hj]
    · cases h5

theorem rec_facts (hg : cx.GlOk) (hc : CalleeOk callee) {io : IOper} {r : Rec} (h : RecOk cx callee io r) (hw : Whole r.s) (hρ : alAll (below r.s.next) r.ρ = true) (hsh : io.op.shut = true) : RecFacts r := by
  cases hwt : wants r.ρ io.guard with
  | false =>
    obtain ⟨h1, h2, h3⟩ := h.skip hwt
    refine ⟨hw, hρ, by rw [h2]; exact Kept.refl hw, by rw [h.env, h1, h2]; exact put_al hρ rfl _, ?_⟩
    funext j; simp only [Rec.act, h3, h2]
  | true =>
    have he := h.want hwt
    obtain ⟨k, hv⟩ := evDeed_kept hg hc hw hρ hsh he
    refine ⟨hw, hρ, k, by rw [h.env]; exact put_al (alAll_mono (below_mono k.next) _ hρ) hv _, ?_⟩
    have key : (r.d = none → r.s' = r.s) ∧ (∀ id, r.d = some (.rd id) → r.s' = r.s) ∧ (r.d = some .rdAll → r.s' = r.s) ∧ (∀ id, r.d = some (.lay id) ∨ r.d = some (.wr id) → ∀ j, j ≠ id → r.s'.get j = r.s.get j) ∧ (∀ p, r.d = some (.wrAll p) → ∀ j, ¬ p j → r.s'.get j = r.s.get j) := by
      clear hv hsh
      revert he
      generalize io.op = oo
      intro he
      unfold evDeed at he
      split at he
      · simp only [Option.map_eq_some_iff, Prod.mk.injEq] at he; obtain ⟨⟨v, t⟩, h1, h2, h3, h4⟩ := he
        refine ⟨fun _ => h3.symm, fun id hd => ?_, fun hd => ?_, fun id hd => ?_, fun p hd => ?_⟩
        · rw [← h4] at hd; cases hd
        · rw [← h4] at hd; cases hd
        · rw [← h4] at hd; rcases hd with hd | hd <;> cases hd
        · rw [← h4] at hd; cases hd
      · rename_i hnp
        split at he
        · rename_i hl
          simp only [Option.map_eq_some_iff, Prod.mk.injEq] at he; obtain ⟨⟨v, t⟩, h1, h2, h3, h4⟩ := he
          refine ⟨fun hd => (by rw [← h4] at hd; cases hd), fun id hd => (by rw [← h4] at hd; cases hd), fun hd => (by rw [← h4] at hd; cases hd), fun id hd j hj => ?_, fun p hd => (by rw [← h4] at hd; cases hd)⟩
          rw [← h4] at hd
          have hid : id = r.s.next := by rcases hd with hd | hd <;> cases hd; rfl
          subst hid
          rw [← h3]
          exact lays_get hl h1 j hj
        · split at he
          · simp only [Option.map_eq_some_iff, Prod.mk.injEq] at he; obtain ⟨⟨v, t⟩, h1, h2, h3, h4⟩ := he
            refine ⟨fun _ => h3.symm, fun id _ => h3.symm, fun _ => h3.symm, fun id hd => ?_, fun _ _ j _ => by rw [← h3]⟩
            rw [← h4] at hd
            split at hd <;> rcases hd with hd | hd <;> cases hd
          · rename_i n x y _ _
            simp only [Option.map_eq_some_iff, Prod.mk.injEq] at he; obtain ⟨⟨v, t⟩, h1, h2, h3, h4⟩ := he
            simp only [evOp, Option.bind_eq_some_iff, Option.map_eq_some_iff] at h1; obtain ⟨xa, h5, ya, h6, t', h7, h8⟩ := h1
            cases h8
            dsimp only at h3
            refine ⟨fun hd => ?_, fun id hd => ?_, fun hd => ?_, fun id hd j hj => ?_, fun p hd j hj => by rw [← h4] at hd; split at hd <;> cases hd; exact absurd trivial hj⟩
            · rw [← h4] at hd; split at hd <;> cases hd
            · rw [← h4] at hd; split at hd <;> cases hd
            · rw [← h4] at hd; split at hd <;> cases hd
            · rw [← h4] at hd
              rw [h5] at hd
              rw [← h3]
              unfold storeA at h7
              split at h7
              · rename_i id' off
                dsimp only at hd
                have hid : id' = id := by rcases hd with hd | hd <;> cases hd; rfl
                subst hid
                split at h7
                · rename_i cs hcs
                  split at h7
                  · simp only [Option.map_eq_some_iff] at h7; obtain ⟨ds, _, rfl⟩ := h7
                    rw [get_set' hw hcs, if_neg hj]
                  · cases h7
                · cases h7
              · cases h7
          · simp only [Option.map_eq_some_iff] at he; obtain ⟨⟨v, t⟩, h1, h2⟩ := he
            split at h2
            · simp only [Prod.mk.injEq] at h2; obtain ⟨_, h3, h4⟩ := h2
              refine ⟨fun _ => h3.symm, fun id _ => h3.symm, fun _ => h3.symm, fun id hd => ?_, fun p hd => (by rw [← h4] at hd; cases hd)⟩
              rw [← h4] at hd; rcases hd with hd | hd <;> cases hd
            · simp only [Prod.mk.injEq] at h2; obtain ⟨_, h3, h4⟩ := h2
              refine ⟨fun hd => (by rw [← h4] at hd; cases hd), fun id hd => (by rw [← h4] at hd; cases hd), fun hd => (by rw [← h4] at hd; cases hd), fun id hd => ?_, fun p hd j hj => ?_⟩
              · rw [← h4] at hd; rcases hd with hd | hd <;> cases hd
              · rw [← h4] at hd; cases hd
                rw [← h3]
                exact Classical.not_not.1 hj
    funext j
    unfold Rec.act
    split
    · rename_i id hd
      split
      · rename_i hj; rw [hj]
      · rename_i hj; exact (key.2.2.2.1 id (.inl hd) j hj).symm
    · rename_i id hd
      split
      · rename_i hj; rw [hj]
      · rename_i hj; exact (key.2.2.2.1 id (.inr hd) j hj).symm
    · rename_i p hd
      split
      · rfl
      · rename_i hj
        by_cases hp : p j
        · have := k.next
          have : ¬ j < r.s'.next := fun h => hj ⟨h, hp⟩
          rw [whole_none hw (by omega), whole_none k.whole (by omega)]
        · exact (key.2.2.2.2 p hd j hp).symm
    · rename_i h1 h2 h3
      have : r.s' = r.s := by
        cases hd : r.d with
        | none => exact key.1 hd
        | some d =>
          cases d with
          | lay id => exact absurd hd (h1 id)
          | rd id => exact key.2.1 id hd
          | wr id => exact absurd hd (h2 id)
          | rdAll => exact key.2.2.1 hd
          | wrAll p => exact absurd hd (h3 p)
      rw [this]

theorem trace_facts (hg : cx.GlOk) (hc : CalleeOk callee) {os : List (IOper × Nat)} {ρ : Env} {s : St} {rs : List Rec} {ρ' : Env} {s' : St} (h : Trace cx callee os ρ s rs ρ' s') (hw : Whole s) (hρ : alAll (below s.next) ρ = true) (hsh : (os.all (·.1.op.shut)) = true) :
    rs.length = os.length ∧ (∀ (k : Nat) (io : IOper) (m : Nat), os[k]? = some (io, m) → ∃ r, rs[k]? = some r ∧ RecOk cx callee io r ∧ RecFacts r) ∧
    (∀ r ∈ rs, s.next ≤ r.s.next) ∧ s.next ≤ s'.next ∧ ∀ (i k : Nat) (q r : Rec), i < k → rs[i]? = some q → rs[k]? = some r → q.s'.next ≤ r.s.next := by
  induction h with
  | nil => exact ⟨rfl, fun k io m h => by simp at h, fun r h => by simp at h, Nat.le_refl _, fun i k q r _ h => by simp at h⟩
  | @cons io m os ρ s v d ρ1 s1 rs ρ' s' hr ht ih =>
    simp only [List.all_cons, Bool.and_eq_true] at hsh
    have hf := rec_facts hg hc hr hw hρ hsh.1
    obtain ⟨h1, h2, h3, h4, h5⟩ := ih hf.kept.whole hf.al' hsh.2
    have hn := hf.kept.next
    dsimp only at hn
    refine ⟨by simp [h1], fun k io' m' hk => ?_, fun r hr' => ?_, by omega, fun i k q r hik hq hr' => ?_⟩
    · cases k with
      | zero => simp at hk; obtain ⟨rfl, rfl⟩ := hk; exact ⟨_, rfl, hr, hf⟩
      | succ k => simp only [List.getElem?_cons_succ] at hk ⊢; exact h2 k io' m' hk
    · rcases List.mem_cons.1 hr' with rfl | hm
      · exact Nat.le_refl _
      · have := h3 r hm; omega
    · cases k with
      | zero => omega
      | succ k =>
        simp only [List.getElem?_cons_succ] at hr'
        cases i with
        | zero => simp at hq; subst hq; exact h3 r (List.mem_of_getElem? hr')
        | succ i => simp only [List.getElem?_cons_succ] at hq; exact h5 i k q r (by omega) hq hr'

/-- Where the run in the text's order stands: all that comes before has been done. -/
theorem trace_at (hg : cx.GlOk) (hc : CalleeOk callee) {os : List (IOper × Nat)} {ρ : Env} {s : St} {rs : List Rec} {ρ' : Env} {s' : St} (h : Trace cx callee os ρ s rs ρ' s') (hw : Whole s) (hρ : alAll (below s.next) ρ = true) (hsh : (os.all (·.1.op.shut)) = true) (n : Nat) :
    (∀ (k : Nat) (r : Rec), rs[k]? = some r → r.ρ = envL (fun l => decide (l < n + k)) n os rs ρ ∧ r.s.get = hpL (fun l => decide (l < n + k)) n rs s.get ∧
      r.ρ' = envL (fun l => decide (l < n + k + 1)) n os rs ρ ∧ r.s'.get = hpL (fun l => decide (l < n + k + 1)) n rs s.get) ∧
    ρ' = envL (fun _ => true) n os rs ρ ∧ s'.get = hpL (fun _ => true) n rs s.get := by
  induction h generalizing n with
  | nil => exact ⟨fun k r h => by simp at h, rfl, rfl⟩
  | @cons io m os ρ s v d ρ1 s1 rs ρ' s' hr ht ih =>
    simp only [List.all_cons, Bool.and_eq_true] at hsh
    have hf := rec_facts hg hc hr hw hρ hsh.1
    obtain ⟨h1, h2, h3⟩ := ih hf.kept.whole hf.al' hsh.2 (n + 1)
    have hact := hf.act
    have henv := hr.env
    dsimp only at hact henv
    refine ⟨fun k r hk => ?_, ?_, ?_⟩
    · cases k with
      | zero =>
        simp at hk; subst hk
        have hn : ∀ l, n ≤ l → decide (l < n + 0) = false := fun l hl => by simp; omega
        have hn1 : ∀ l, n + 1 ≤ l → decide (l < n + 0 + 1) = false := fun l hl => by simp; omega
        have hlt : decide (n < n + 0 + 1) = true := by simp
        refine ⟨(envL_none _ _ n hn).symm, (hpL_none _ n hn).symm, ?_, ?_⟩
        · simp only [envL]; rw [if_pos hlt, envL_none _ _ (n + 1) hn1]; exact henv
        · simp only [hpL]; rw [if_pos hlt, hpL_none _ (n + 1) hn1]; exact hact.symm
      | succ k =>
        simp only [List.getElem?_cons_succ] at hk
        obtain ⟨h4, h5, h6, h7⟩ := h1 k r hk
        simp only [envL, hpL]
        have hlt : decide (n < n + (k + 1)) = true := by simp
        have hlt2 : decide (n < n + (k + 1) + 1) = true := by simp; omega
        have hfn : (fun l => decide (l < n + (k + 1))) = (fun l => decide (l < n + 1 + k)) := by funext l; congr 1; apply propext; omega
        have hfn2 : (fun l => decide (l < n + (k + 1) + 1)) = (fun l => decide (l < n + 1 + k + 1)) := by funext l; congr 1; apply propext; omega
        rw [if_pos hlt, if_pos hlt, if_pos hlt2, if_pos hlt2, hact, ← henv, hfn, hfn2]
        exact ⟨h4, h5, h6, h7⟩
    · simp only [envL, if_true]; rw [← henv]; exact h2
    · simp only [hpL, if_true]; rw [hact]; exact h3
end
end Fw


/- Regions that draw their order: one operation, whatever has been done already. -/
namespace Fw
open Go Go.RowKit

def clsI : IOp → Nat
  | .bslice .. => 1
  | .load .. => 2
  | .store .. => 3
  | .alloc .. => 4
  | .box .. => 5
  | .mkslice .. => 6
  | _ => 0
def clsO : Op → Nat
  | .buildSlice .. => 1
  | .load .. => 2
  | .store .. => 3
  | .alloc .. => 4
  | .box .. => 5
  | .makeSlice .. => 6
  | _ => 0

theorem cls_eq {P : Program} {o : Op} {io : IOp} (hcO : cOp P o = some io) : clsI io = clsO o := by
  cases o
  case makeFunc fn first cap =>
    cases fn <;> simp only [cOp] at hcO <;> try (cases hcO; done)
    simp only [Option.bind_eq_some_iff, Option.map_eq_some_iff] at hcO; obtain ⟨x, h1, y, h2, rfl⟩ := hcO
    rfl
  case makeMap t r => cases r <;> simp only [cOp] at hcO <;> cases hcO; rfl
  case convert src dst x =>
    simp only [cOp, cConv, Option.bind_eq_some_iff] at hcO; obtain ⟨ix, h1, h2⟩ := hcO
    split at h2 <;> first | (cases h2; done) | (cases h2; rfl) | (split at h2 <;> first | (cases h2; done) | (cases h2; rfl))
  case call c =>
    simp only [cOp] at hcO
    split at hcO
    · simp only [Option.bind_eq_some_iff, Option.map_eq_some_iff] at hcO; obtain ⟨fx, h1, xs, h2, rfl⟩ := hcO; rfl
    · simp only [cBuiltin, Option.bind_eq_some_iff] at hcO; obtain ⟨xs, h1, h2⟩ := hcO
      split at h2
      · split at h2 <;> cases h2 <;> rfl
      · cases h2; rfl
      · cases h2; rfl
      · split at h2
        · split at h2
          · cases h2
          · simp only [Option.bind_eq_some_iff] at h2; obtain ⟨n, h3, k, h4, z, h5, h6⟩ := h2
            split at h6 <;> cases h6; rfl
        · cases h2
      · split at h2
        · simp only [Option.map_eq_some_iff] at h2; obtain ⟨n, h3, rfl⟩ := h2; rfl
        · cases h2
      · split at h2
        · simp only [Option.map_eq_some_iff] at h2; obtain ⟨n, h3, rfl⟩ := h2; rfl
        · cases h2
      · cases h2
    · cases hcO
  all_goals simp only [cOp] at hcO
  all_goals try (cases hcO; done)
  case alloc t => simp only [Option.map_eq_some_iff] at hcO; obtain ⟨_, _, rfl⟩ := hcO; rfl
  case box t x => simp only [Option.map_eq_some_iff] at hcO; obtain ⟨_, _, rfl⟩ := hcO; rfl
  case load t x => simp only [Option.bind_eq_some_iff, Option.map_eq_some_iff] at hcO; obtain ⟨_, _, _, _, _, _, rfl⟩ := hcO; rfl
  case store t x y => simp only [Option.bind_eq_some_iff, Option.map_eq_some_iff] at hcO; obtain ⟨_, _, _, _, _, _, rfl⟩ := hcO; rfl
  case buildSlice t n ps =>
    split at hcO
    · simp only [Option.bind_eq_some_iff] at hcO; obtain ⟨n, h1, z, h2, h3⟩ := hcO
      split at h3
      · cases h3
      · simp only [Option.map_eq_some_iff] at h3; obtain ⟨_, _, rfl⟩ := h3; rfl
    · cases hcO
  case lookup t m k ok =>
    split at hcO
    · simp only [Option.bind_eq_some_iff, Option.map_eq_some_iff] at hcO; obtain ⟨_, _, _, _, _, _, _, _, rfl⟩ := hcO; rfl
    · cases hcO
  case mapUpdate t m k x =>
    split at hcO
    · simp only [Option.bind_eq_some_iff, Option.map_eq_some_iff] at hcO; obtain ⟨_, _, _, _, _, _, _, _, rfl⟩ := hcO; rfl
    · cases hcO
  case insert t m k x =>
    split at hcO
    · simp only [Option.bind_eq_some_iff, Option.map_eq_some_iff] at hcO; obtain ⟨_, _, _, _, _, _, _, _, rfl⟩ := hcO; rfl
    · cases hcO
  case makeSlice t l c =>
    split at hcO
    · simp only [Option.bind_eq_some_iff] at hcO; obtain ⟨z, h1, n, h2, by', h3, h4⟩ := hcO
      split at h4
      · cases h4
      · simp only [Option.bind_eq_some_iff, Option.map_eq_some_iff] at h4; obtain ⟨_, _, _, _, rfl⟩ := h4; rfl
    · cases hcO
  case move x => simp only [Option.map_eq_some_iff] at hcO; obtain ⟨_, _, rfl⟩ := hcO; rfl
  case assign x => simp only [Option.map_eq_some_iff] at hcO; obtain ⟨_, _, rfl⟩ := hcO; rfl
  case nilCheck x => simp only [Option.map_eq_some_iff] at hcO; obtain ⟨_, _, rfl⟩ := hcO; rfl
  case unOp x => simp only [Option.map_eq_some_iff] at hcO; obtain ⟨_, _, rfl⟩ := hcO; rfl
  case extract x => simp only [Option.map_eq_some_iff] at hcO; obtain ⟨_, _, rfl⟩ := hcO; rfl
  case pick x => simp only [Option.bind_eq_some_iff, Option.map_eq_some_iff] at hcO; obtain ⟨_, _, _, _, _, _, rfl⟩ := hcO; rfl
  case build x =>
    simp only [Option.bind_eq_some_iff] at hcO; obtain ⟨_, _, h2⟩ := hcO
    split at h2
    · simp only [Option.bind_eq_some_iff, Option.map_eq_some_iff] at h2; obtain ⟨_, _, _, _, rfl⟩ := h2; rfl
    · simp only [Option.bind_eq_some_iff, Option.map_eq_some_iff] at h2; obtain ⟨_, _, _, _, rfl⟩ := h2; rfl
    · cases h2
  case binOp op t x y z =>
    simp only [cBin, Option.bind_eq_some_iff] at hcO; obtain ⟨_, _, _, _, h2⟩ := hcO
    split at h2
    · split at h2
      all_goals first
        | (cases h2; done)
        | (cases h2; rfl; done)
        | (split at h2 <;> first | (cases h2; done) | (cases h2; rfl; done) | (simp only [Option.map_eq_some_iff] at h2; obtain ⟨_, _, rfl⟩ := h2; rfl; done))
    · cases h2; rfl
  case slice t x lo hi m3 =>
    simp only [cSlice, Option.bind_eq_some_iff] at hcO; obtain ⟨_, _, _, _, _, _, _, _, h2⟩ := hcO
    split at h2
    · split at h2 <;> cases h2; rfl
    · simp only [Option.map_eq_some_iff] at h2; obtain ⟨_, _, rfl⟩ := h2; rfl
    · simp only [Option.map_eq_some_iff] at h2; obtain ⟨_, _, rfl⟩ := h2; rfl
    · split at h2
      · simp only [Option.map_eq_some_iff] at h2; obtain ⟨_, _, rfl⟩ := h2; rfl
      · cases h2
    · cases h2
  case fieldAddr t x i =>
    split at hcO
    · simp only [Option.bind_eq_some_iff] at hcO; obtain ⟨_, _, _, _, h2⟩ := hcO
      split at h2
      · cases h2
      · simp only [Option.map_eq_some_iff] at h2; obtain ⟨_, _, rfl⟩ := h2; rfl
    · cases hcO
  case field t x i =>
    split at hcO
    · simp only [Option.bind_eq_some_iff, Option.map_eq_some_iff] at hcO; obtain ⟨_, _, _, _, _, _, _, _, rfl⟩ := hcO; rfl
    · cases hcO
  case indexAddr t x i =>
    simp only [Option.bind_eq_some_iff] at hcO; obtain ⟨_, _, _, _, h2⟩ := hcO
    split at h2
    · simp only [Option.map_eq_some_iff] at h2; obtain ⟨_, _, rfl⟩ := h2; rfl
    · simp only [Option.map_eq_some_iff] at h2; obtain ⟨_, _, rfl⟩ := h2; rfl
    · cases h2
  case index t x i =>
    simp only [Option.bind_eq_some_iff] at hcO; obtain ⟨_, _, _, _, h2⟩ := hcO
    split at h2
    · simp only [Option.bind_eq_some_iff, Option.map_eq_some_iff] at h2; obtain ⟨_, _, _, _, rfl⟩ := h2; rfl
    · cases h2; rfl
    · cases h2
  case makeInterface t x =>
    split at hcO
    · cases hcO
    · simp only [Option.map_eq_some_iff] at hcO; obtain ⟨_, _, rfl⟩ := hcO; rfl
    · cases hcO
end Fw


/- Regions that draw their order: one operation, whatever has been done already. -/
namespace Fw
open Go Go.RowKit

section
variable {P : Program} {X : Bs} {cx : Cx} {callee : Callee} {σ σ' : Gh} {ρ ρ' : Env} {a : Act} {w w' : World} {s s' : St} {v : AV}

def only (N : List Nat) (ρ : Env) : Env := ρ.mapIdx fun t x => if N.contains t then x else AV.undef
def onlyA (N : List Nat) (a : Act) : Act := { tmps := a.tmps.mapIdx fun t x => if N.contains t then x else undef, defers := [] }

theorem only_get (N : List Nat) (ρ : Env) (t : Nat) : (only N ρ).get t = if t ∈ N then ρ.get t else AV.undef := by
  simp only [only, Env.get, List.getD, List.getElem?_mapIdx]
  cases h : ρ[t]? with
  | none => simp
  | some x => simp [List.contains_iff_mem]

theorem only_env (N : List Nat) (h : EnvOk σ ρ a) : EnvOk σ (only N ρ) (onlyA N a) := by
  refine ⟨?_, rfl⟩
  have ht := h.tmps
  rw [Rs_iff] at ht ⊢
  refine ⟨by simpa [only, onlyA] using ht.1, fun j x hx => ?_⟩
  simp only [only, List.getElem?_mapIdx, Option.map_eq_some_iff] at hx
  obtain ⟨y, hy, rfl⟩ := hx
  obtain ⟨u, hu, hr⟩ := ht.2 j y hy
  have hu' : a.tmps[j]? = some u := by simpa using hu
  refine ⟨if N.contains j then u else undef, by simp [onlyA, hu'], ?_⟩
  split
  · exact hr
  · exact R_undef σ

theorem only_al {p : Nat → Bool} (N : List Nat) (h : ∀ t ∈ N, (ρ.get t).al p = true) : alAll p (only N ρ) = true := by
  rw [alAll_iff]
  intro x hx
  simp only [only, List.mem_mapIdx] at hx
  obtain ⟨i, hi, rfl⟩ := hx
  split
  · rename_i hc
    have := h i (by simpa using hc)
    simpa [Env.get, hi] using this
  · rfl

theorem only_eval (N : List Nat) (a : Act) {x : Operand} (h : ∀ t, x = .tmp t → t ∈ N) : (onlyA N a).eval x = a.eval x := by
  cases x with
  | tmp t =>
    have := h t rfl
    simp only [Act.eval, onlyA, Array.getD_eq_getD_getElem?, Array.getElem?_mapIdx]
    cases a.tmps[t]? <;> simp [this]
  | _ => rfl

theorem only_exec (N : List Nat) (a : Act) (ob : Oper) (hs : ∀ cs b, ob.op ≠ .select cs b) (h : ∀ t ∈ opTmps ob, t ∈ N) : execOp (onlyA N a).eval ob = execOp a.eval ob :=
  execOp_congr ob hs fun x hx => only_eval N a fun t ht => h t (by
    subst ht
    simp only [opTmps, List.mem_filterMap]
    exact ⟨.tmp t, by simpa using hx, rfl⟩)

theorem only_ev (N : List Nat) {io : IOp} {S : St} (h : ∀ t ∈ io.tmps, t ∈ N) (he : ∀ t ∈ N, ρ.get t = ρ'.get t) : evOp cx callee (only N ρ) S io = evOp cx callee ρ' S io :=
  evOp_congr fun t ht => by rw [only_get, if_pos (h t ht)]; exact he t (h t ht)

/-- A plain operation, in any part of the state. -/
theorem plain_left {g : Hp} (hGl : cx.GlOk) (hG : Gls cx σ) (hI : Inv X σ g w) (hE : EnvOk σ ρ a) (hal : alAll (dm g) ρ = true) {ob : Oper} {io : IOp} (hcO : cOp P ob.op = some io) (hsh : io.shut = true) (hp : io.plain = true) (he : evOp cx callee ρ s io = some (v, s')) :
    LeftG X σ g w v g ((execOp a.eval ob).run P w) := by
  by_cases hb : ∃ z n ps, io = .bslice z n ps
  · obtain ⟨z, len, ips, rfl⟩ := hb
    have hcl := cls_eq hcO
    obtain ⟨d, o, ty, ps, af, gd⟩ := ob
    dsimp only at hcO hcl
    cases o <;> simp only [clsI, clsO, Nat.reduceEqDiff] at hcl
    rename_i t len' parts
    simp only [cOp] at hcO
    split at hcO
    · rename_i e ht
      simp only [Option.bind_eq_some_iff] at hcO; obtain ⟨n, h1, z', h2, h3⟩ := hcO
      split at h3
      · cases h3
      · rename_i hlim
        simp only [Option.map_eq_some_iff] at h3; obtain ⟨ips', h4, h5⟩ := h3; cases h5
        simp only [evOp, Option.map_eq_some_iff] at he; obtain ⟨cs, h5, h6⟩ := he; cases h6
        simp only [IOp.shut, Bool.and_eq_true] at hsh
        exact bslice_left hI hG hE ht h1 h2 hlim h4 h5 (fillA_al hGl hal ips _ _ hsh.2 (alAll_false hsh.1) h5)
    · cases hcO
  · obtain ⟨u, h1, h2⟩ := plain_R hG hE hcO hp (fun z n ps e => hb ⟨z, n, ps, e⟩) he w
    exact LeftG.same hI h1 h2

/-- The stretch of blocks that a deed speaks of. -/
def Rec.zone (r : Rec) (j : Nat) : Prop := match r.d with
  | none => False
  | some (.lay id) => j = id
  | some (.rd id) => j = id
  | some (.wr id) => j = id
  | some .rdAll => j < r.s'.next
  | some (.wrAll _) => j < r.s'.next

theorem cOp_noselect {o : Op} {io : IOp} (h : cOp P o = some io) : ∀ cs b, o ≠ .select cs b := by
  rintro cs b rfl; simp [cOp] at h

/-- One operation of the text, in a state of which its own part is as it was in the text's order. -/
theorem draw_left {g g' : Hp} (hX : cx.gl = X.gl) (hGl : cx.GlOk) (hk : CalleeOk callee) (hc : CallOk P X callee) {ob : Oper} {io : IOp} {r : Rec} (hcO : cOp P ob.op = some io) (hsh : io.shut = true) (hf : RecFacts r) (hd : evDeed cx callee r.ρ r.s io = some (r.v, r.s', r.d))
    (hI : Inv X σ g w) (hal : alAll (dm g) ρ = true) (hE : EnvOk σ ρ a) {N : List Nat} (hN : ∀ t ∈ N, ρ.get t = r.ρ.get t) (hN1 : ∀ t ∈ io.tmps, t ∈ N) (hN2 : ∀ t ∈ opTmps ob, t ∈ N)
    (hz1 : ∀ j, r.zone j → g j = r.s.get j) (hz2 : ∀ j, r.zone j → g' j = r.s'.get j) (hz3 : ∀ j, ¬ r.touches j → g' j = g j)
    {K : Act → World → Prop} {Q : Exit → Act → World → Prop} (hK : ∀ σ' u w', Step X σ g w σ' g' w' → R σ' r.v u → r.v.al (dm g') = true → K (a.put ob.dst u) w') : ob.wp P a w K Q := by
  have hG := hI.Gls hX
  have hev : ∀ S, evOp cx callee r.ρ S io = evOp cx callee ρ S io := fun S => evOp_congr fun t ht => (hN t (hN1 t ht)).symm
  unfold Oper.wp
  unfold evDeed at hd
  split at hd
  · -- plain
    rename_i hp
    simp only [Option.map_eq_some_iff, Prod.mk.injEq] at hd; obtain ⟨⟨v, t⟩, h1, h2, h3, h4⟩ := hd
    rw [hev] at h1
    dsimp only at h2; subst h2
    have hgg : g' = g := funext fun j => hz3 j (by simp [Rec.touches, ← h4])
    subst hgg
    exact (plain_left hGl hG hI hE hal hcO hsh hp h1).wp fun σ' u w' hst hR => hK σ' u w' hst hR (AV.al_mono hst.dom _ (plain_al hGl hal hsh hp h1))
  · rename_i hnp
    have hcl := cls_eq hcO
    split at hd
    · -- a block is laid
      rename_i hl
      simp only [Option.map_eq_some_iff, Prod.mk.injEq] at hd; obtain ⟨⟨v, t⟩, h1, h2, h3, h4⟩ := hd
      dsimp only at h2 h3; subst h2
      have hzn : ∀ j, r.zone j ↔ j = r.s.next := fun j => by simp [Rec.zone, ← h4]
      have htn : ∀ j, r.touches j ↔ j = r.s.next := fun j => by simp [Rec.touches, ← h4]
      have hgn : g r.s.next = none := by rw [hz1 _ ((hzn _).2 rfl)]; exact next_none hf.ok
      obtain ⟨d, o, ty, ps, af, gd⟩ := ob
      dsimp only at hcO hcl
      cases io <;> simp only [IOp.lays, Bool.false_eq_true] at hl
      case alloc t0 z =>
        cases o <;> simp only [clsI, clsO, Nat.reduceEqDiff] at hcl
        rename_i tt
        simp only [cOp, Option.map_eq_some_iff] at hcO; obtain ⟨z', h5, h6⟩ := hcO; cases h6
        simp only [evOp, Option.some.injEq, Prod.mk.injEq] at h1; obtain ⟨h7, h8⟩ := h1
        have hg' : ∀ j, g' j = if j = r.s.next then some (.cells (some t0) z'.cells) else g j := fun j => by
          by_cases hj : j = r.s.next
          · rw [hz2 j ((hzn j).2 hj), if_pos hj, ← h3, ← h8, get_new, if_pos hj]
          · rw [hz3 j (fun h => hj ((htn j).1 h)), if_neg hj]
        rw [← h7] at hK
        exact (alloc_leftG hI hgn hg' h5 hsh).wp fun σ' u w' hst hR => hK σ' u w' hst hR (by simp [AV.al, dm, hg'])
      case box t0 x =>
        cases o <;> simp only [clsI, clsO, Nat.reduceEqDiff] at hcl
        rename_i tt x0
        simp only [cOp, Option.map_eq_some_iff] at hcO; obtain ⟨ix, h5, h6⟩ := hcO; cases h6
        rw [hev] at h1
        simp only [evOp, Option.map_eq_some_iff, Prod.mk.injEq] at h1; obtain ⟨b, h9, h7, h8⟩ := h1
        have hg' : ∀ j, g' j = if j = r.s.next then some (.cells (some t0) b.cells) else g j := fun j => by
          by_cases hj : j = r.s.next
          · rw [hz2 j ((hzn j).2 hj), if_pos hj, ← h3, ← h8, get_new, if_pos hj]
          · rw [hz3 j (fun h => hj ((htn j).1 h)), if_neg hj]
        rw [← h7] at hK
        exact (box_leftG hI hgn hg' (ev_R hG hE h5 h9) (ev_al hGl hal hsh h9)).wp fun σ' u w' hst hR => hK σ' u w' hst hR (by simp [AV.al, dm, hg'])
      case mkslice =>
        cases o <;> simp only [clsI, clsO, Nat.reduceEqDiff] at hcl
        rename_i y0 z0 il ic tt l c
        simp only [cOp] at hcO
        split at hcO
        · rename_i e ht
          simp only [Option.bind_eq_some_iff] at hcO; obtain ⟨z, q1, n, q2, by', q3, q4⟩ := hcO
          split at q4
          · cases q4
          rename_i h0
          simp only [Option.bind_eq_some_iff, Option.map_eq_some_iff] at q4; obtain ⟨il', q5, ic', q6, q7⟩ := q4
          cases q7
          rw [hev] at h1
          simp only [evOp, Option.bind_eq_some_iff] at h1; obtain ⟨l', q8, c', q9, q10⟩ := h1
          simp only [IOp.shut, Bool.and_eq_true] at hsh
          split at q10
          · rename_i l0 c0
            split at q10
            · rename_i hq
              simp only [Option.some.injEq, Prod.mk.injEq] at q10
              obtain ⟨h7, h8⟩ := q10
              have hg' : ∀ j, g' j = if j = r.s.next then some (.cells none ((List.replicate c0.toNat z.cells).flatten)) else g j := fun j => by
                by_cases hj : j = r.s.next
                · rw [hz2 j ((hzn j).2 hj), if_pos hj, ← h3, ← h8, get_new, if_pos hj]
                · rw [hz3 j (fun h => hj ((htn j).1 h)), if_neg hj]
              rw [← h7] at hK
              exact (mkslice_leftG hI hgn hg' ht q2 q3 q1 hsh.1.1 (ev_R hG hE q5 q8) (ev_R hG hE q6 q9) hq.1 hq.2.1 hq.2.2 (by omega)).wp fun σ' u w' hst hR => hK σ' u w' hst hR (by simp [AV.al, dm, hg'])
            · cases q10
          · cases q10
        · cases hcO
    · rename_i hnl
      split at hd
      · -- load
        rename_i gg n x
        simp only [Option.map_eq_some_iff, Prod.mk.injEq] at hd; obtain ⟨⟨v, t⟩, h1, h2, h3, h4⟩ := hd
        dsimp only at h2 h3; subst h2
        rw [hev] at h1
        simp only [evOp, Option.map_eq_some_iff, Option.bind_eq_some_iff, Prod.mk.injEq] at h1; obtain ⟨b, ⟨y, h5, h6⟩, h7, h8⟩ := h1
        subst h7
        have hxe : x.ev cx r.ρ = some y := by rw [← h5]; exact ev_congr fun t ht => (hN t (hN1 t ht)).symm
        have hgg : g' = g := funext fun j => hz3 j (by unfold Rec.touches; rw [← h4, hxe]; cases y <;> simp)
        subst hgg
        have hh : ∀ id off, y = .ptr id off → g' id = r.s.get id := fun id off e => hz1 id (by subst e; simp [Rec.zone, ← h4, hxe])
        obtain ⟨d, o, ty, ps, af, gd⟩ := ob
        dsimp only at hcO hcl
        cases o <;> simp only [clsI, clsO, Nat.reduceEqDiff] at hcl
        rename_i t0 x0
        simp only [cOp, Option.bind_eq_some_iff, Option.map_eq_some_iff] at hcO; obtain ⟨ix, h9, g0, h10, n0, h11, h12⟩ := hcO; cases h12
        refine (load_leftG hI hh h10 h11 (ev_R hG hE h9 h5) h6).wp fun σ' u w' hst hR => hK σ' u w' hst hR ?_
        -- what is read leads to what the state has
        have hya := ev_al hGl hal hsh h5
        unfold loadA at h6
        split at h6
        · rename_i id off
          split at h6
          · rename_i ty cs hcs
            simp only [Option.bind_eq_some_iff] at h6; obtain ⟨ds, h13, h14⟩ := h6
            have hobj := (hI.obj id (.cells ty cs) ((hh id off rfl).trans hcs)).1
            exact ofCells_al (sub_al hobj h13) h14
          · cases h6
        · rename_i cs off
          simp only [Option.bind_eq_some_iff] at h6; obtain ⟨ds, h13, h14⟩ := h6
          exact ofCells_al (sub_al (by simpa [AV.al] using hya) h13) h14
        · cases h6
      · -- store
        rename_i n x y
        simp only [Option.map_eq_some_iff, Prod.mk.injEq] at hd; obtain ⟨⟨v, t⟩, h1, h2, h3, h4⟩ := hd
        dsimp only at h2 h3; subst h2
        rw [hev] at h1
        simp only [evOp, Option.map_eq_some_iff, Option.bind_eq_some_iff, Prod.mk.injEq] at h1; obtain ⟨xa, h5, ya, h6, t', h7, h8, h9⟩ := h1
        subst h9
        rw [← h8] at hK
        have hxe : x.ev cx r.ρ = some xa := by rw [← h5]; exact ev_congr fun t ht => (hN t (hN1 t (by simp [IOp.tmps, ht]))).symm
        rw [hxe] at h4
        have hh : ∀ id off, xa = .ptr id off → g id = r.s.get id ∧ ∀ j, g' j = if j = id then t'.get id else g j := fun id off e => by
          subst e
          dsimp only at h4
          have hzn : ∀ j, r.zone j ↔ j = id := fun j => by simp [Rec.zone, ← h4]
          have htn : ∀ j, r.touches j ↔ j = id := fun j => by simp [Rec.touches, ← h4]
          refine ⟨hz1 id ((hzn id).2 rfl), fun j => ?_⟩
          by_cases hj : j = id
          · rw [hz2 j ((hzn j).2 hj), if_pos hj, ← h3, hj]
          · rw [hz3 j (fun h => hj ((htn j).1 h)), if_neg hj]
        obtain ⟨d, o, ty, ps, af, gd⟩ := ob
        dsimp only at hcO hcl
        cases o <;> simp only [clsI, clsO, Nat.reduceEqDiff] at hcl
        rename_i t0 x0 y0
        simp only [cOp, Option.bind_eq_some_iff, Option.map_eq_some_iff] at hcO; obtain ⟨ix, h9, iy, h10, n0, h11, h12⟩ := hcO; cases h12
        simp only [IOp.shut, Bool.and_eq_true] at hsh
        exact (store_leftG (g' := g') hf.ok hI hh h11 (ev_R hG hE h9 h5) (ev_R hG hE h10 h6) (ev_al hGl hal hsh.2 h6) h7).wp fun σ' u w' hst hR => hK σ' u w' hst hR rfl
      · -- whatever
        simp only [Option.map_eq_some_iff] at hd; obtain ⟨⟨v, t⟩, h1, h2⟩ := hd
        have hlow : Whole { r.s with low := r.s.next } := hf.ok.low _
        have hkept := evOp_kept (s := { r.s with low := r.s.next }) hGl hk hlow hf.al hsh h1
        have hfacts : v = r.v ∧ t.get = r.s'.get ∧ t.next = r.s'.next ∧ (∀ j, r.zone j ↔ j < r.s'.next) ∧ (∀ j, r.touches j → j < r.s'.next) := by
          split at h2
          · rename_i hq
            simp only [Prod.mk.injEq] at h2; obtain ⟨h3, h4, h5⟩ := h2
            refine ⟨h3, ?_, by rw [← h4]; exact hq.1, fun j => by simp [Rec.zone, ← h5], fun j hj => by simp [Rec.touches, ← h5] at hj⟩
            rw [← h4]
            funext j
            by_cases hj : j < r.s.next
            · exact hkept.1.same j hj (by rw [hq.2]; exact hj)
            · rw [whole_none hkept.1.whole (by rw [hq.1]; omega), whole_none hf.ok (by omega)]
          · simp only [Prod.mk.injEq] at h2; obtain ⟨h3, h4, h5⟩ := h2
            refine ⟨h3, by rw [← h4]; rfl, by rw [← h4], fun j => by simp [Rec.zone, ← h5], fun j hj => by simp only [Rec.touches, ← h5] at hj; exact hj.1⟩
        obtain ⟨hvv, hget, hnext, hzn, htn⟩ := hfacts
        rw [← hvv] at hK
        have hsn := hf.kept.next
        have hsub : ∀ id o, r.s.get id = some o → g id = some o := fun id o ho => by
          have := hf.ok.lt ho
          rw [hz1 id ((hzn id).2 (by omega))]; exact ho
        have hIr : Inv X σ r.s.get w := hI.part hsub fun id o ho => by rw [dm_get hf.ok]; exact hf.ok.shut id o ho
        have hEr : EnvOk σ (only N ρ) (onlyA N a) := only_env N hE
        have halr : alAll (below r.s.next) (only N ρ) = true := only_al N fun t ht => by rw [hN t ht]; exact Env.get_al hf.al t
        rw [← only_ev (ρ := ρ) N hN1 hN] at h1
        rw [← only_exec N a ob (cOp_noselect hcO) hN2]
        refine op_sound (s := { r.s with low := r.s.next }) hX hGl hc hlow halr hIr hEr hcO hsh h1 fun σ1 u w1 hst hR => ?_
        have hst' : Step X σ r.s.get w σ1 r.s'.get w1 := hget ▸ hst
        have hval : v.al (below r.s'.next) = true := by rw [← hnext]; exact hkept.2
        obtain ⟨σ2, hst2, hx2⟩ := Step.beside (h := g) (h' := g') hI hst' hsub (fun id h1 h2 => by
          cases hq : r.s'.get id with
          | none => rfl
          | some o =>
            have := hf.kept.whole.lt hq
            exact absurd ((hz1 id ((hzn id).2 this)).trans h1) h2) (fun id => by
          by_cases hid : id < r.s'.next
          · rw [hz2 id ((hzn id).2 hid)]
            have := hf.kept.whole.full id
            rw [below_iff.2 hid] at this
            rw [if_pos this]
          · rw [hz3 id (fun h => hid (htn id h)), whole_none hf.kept.whole (by omega)]; rfl)
        have hdm : ∀ id, below r.s'.next id = true → dm g' id = true := fun id hid => by
          have h3 := hz2 id ((hzn id).2 (below_iff.1 hid))
          have := hf.kept.whole.full id
          rw [hid] at this
          simp only [dm, h3]; exact this
        refine hK σ2 u w1 hst2 (R_mono hx2 v u ?_ hR) (AV.al_mono hdm _ hval)
        rw [dm_get hf.kept.whole]; exact hval
end
end Fw


/- Regions that draw their order: every order. -/
namespace Fw
open Go Go.RowKit

theorem maskOf_bits (acc : List Nat) (i : Nat) : ∀ (es : List Edge) (m : Nat), (es.foldl (fun m e => if Region.binds .any e then m ||| 2 ^ e.on ||| acc.getD e.on 0 else m) m).testBit i = true →
    m.testBit i = true ∨ ∃ e ∈ es, Region.binds .any e = true ∧ (e.on = i ∨ (acc.getD e.on 0).testBit i = true)
  | [], m, h => .inl h
  | e :: es, m, h => by
    simp only [List.foldl_cons] at h
    rcases maskOf_bits acc i es _ h with h1 | ⟨e', h1, h2, h3⟩
    · split at h1
      · rename_i hb
        simp only [Nat.testBit_or, Nat.testBit_two_pow, Bool.or_eq_true, decide_eq_true_eq] at h1
        rcases h1 with (h1 | h1) | h1
        · exact .inl h1
        · exact .inr ⟨e, List.mem_cons_self .., hb, .inl h1⟩
        · exact .inr ⟨e, List.mem_cons_self .., hb, .inr h1⟩
      · exact .inl h1
    · exact .inr ⟨e', List.mem_cons_of_mem _ h1, h2, h3⟩

theorem cMasks_get : ∀ (os : List Oper) (acc : List Nat), (cMasks acc os).length = acc.length + os.length ∧ (cMasks acc os).take acc.length = acc ∧
    ∀ (k : Nat) (o : Oper), os[k]? = some o → (cMasks acc os).getD (acc.length + k) 0 = maskOf ((cMasks acc os).take (acc.length + k)) o.after.toList
  | [], acc => ⟨rfl, by simp [cMasks], fun k o h => by simp at h⟩
  | o :: os, acc => by
    obtain ⟨h1, h2, h3⟩ := cMasks_get os (acc ++ [maskOf acc o.after.toList])
    simp only [cMasks]
    simp only [List.length_append, List.length_cons, List.length_nil] at h1 h2 h3
    have h2' : (cMasks (acc ++ [maskOf acc o.after.toList]) os).take acc.length = acc := by
      have := congrArg (List.take acc.length) h2
      rw [List.take_take] at this
      simpa using this
    refine ⟨by simp [h1]; omega, h2', fun k o' hk => ?_⟩
    cases k with
    | zero =>
      simp at hk; subst hk
      rw [Nat.add_zero, h2']
      have : (cMasks (acc ++ [maskOf acc o.after.toList]) os)[acc.length]? = some (maskOf acc o.after.toList) := by
        have := congrArg (fun l => l[acc.length]?) h2
        simp only [List.getElem?_take] at this
        rw [if_pos (by omega)] at this
        rw [this]; simp
      simp [List.getD, this]
    | succ k =>
      have := h3 k o' (by simpa using hk)
      rw [show acc.length + (k + 1) = acc.length + (0 + 1) + k by omega]
      exact this

theorem mask_bit {ops : Array Oper} {k i : Nat} {o : Oper} (hk : ops[k]? = some o) (hb : ((cMasks [] ops.toList).getD k 0).testBit i = true) :
    ∃ e ∈ o.after.toList, Region.binds .any e = true ∧ (e.on = i ∨ ((cMasks [] ops.toList).getD e.on 0).testBit i = true) := by
  obtain ⟨_, _, h3⟩ := cMasks_get ops.toList []
  have := h3 k o (by simpa using hk)
  simp only [List.length_nil, Nat.zero_add] at this
  rw [this] at hb
  unfold maskOf at hb
  rcases maskOf_bits _ i _ 0 hb with h | ⟨e, h1, h2, h4⟩
  · simp at h
  · refine ⟨e, h1, h2, h4.imp id fun h => ?_⟩
    simp only [List.getD, List.getElem?_take] at h ⊢
    split at h
    · exact h
    · simp at h

section
variable {P : Program} {X : Bs} {cx : Cx} {callee : Callee} {ops : Array Oper} {is : List IOper} {rs : List Rec} {ρ0 : Env} {s0 : St}

structure DCtx (P : Program) (cx : Cx) (callee : Callee) (ops : Array Oper) (is : List IOper) (rs : List Rec) (ρ0 : Env) (s0 : St) : Prop where
  lis : is.length = ops.size
  lrs : rs.length = ops.size
  op : ∀ (k : Nat) (o : Oper), ops[k]? = some o → ∃ io r, is[k]? = some io ∧ cOper P ops o = some io ∧ io.op.shut = true ∧ rs[k]? = some r ∧ RecOk cx callee io r ∧ RecFacts r
  deeds : ∀ (l k : Nat) (q r : Rec) (e d : Deed), l < k → rs[l]? = some q → rs[k]? = some r → q.d = some e → r.d = some d → ((cMasks [] ops.toList).getD k 0).testBit l = true ∨ e.free d = true
  mono : ∀ (i k : Nat) (q r : Rec), i < k → rs[i]? = some q → rs[k]? = some r → q.s'.next ≤ r.s.next
  pair : ∀ (i j : Nat) (x y : IOper) (p q : Oper), i < j → is[i]? = some x → is[j]? = some y → ops[i]? = some p → ops[j]? = some q → ((cMasks [] ops.toList).getD j 0).testBit i = true ∨ (clash x.dst (namesOf y q) = false ∧ clash y.dst (namesOf x p) = false)
  edge : ∀ (j : Nat) (q : Oper) (e : Edge), ops[j]? = some q → e ∈ q.after.toList → Region.binds .any e = true → e.on < j
  ids : ∀ (k : Nat) (r : Rec) (id : Nat), rs[k]? = some r → (r.d = some (.lay id) → id = r.s.next ∧ r.s'.next = r.s.next + 1) ∧ (r.d = some (.rd id) ∨ r.d = some (.wr id) → id < r.s.next)
  at' : ∀ (k : Nat) (r : Rec), rs[k]? = some r → r.ρ = envL (fun l => decide (l < k)) 0 (is.zip (cMasks [] ops.toList)) rs ρ0 ∧ r.s.get = hpL (fun l => decide (l < k)) 0 rs s0.get ∧
      r.ρ' = envL (fun l => decide (l < k + 1)) 0 (is.zip (cMasks [] ops.toList)) rs ρ0 ∧ r.s'.get = hpL (fun l => decide (l < k + 1)) 0 rs s0.get

theorem DCtx.fact (h : DCtx P cx callee ops is rs ρ0 s0) {l : Nat} {q : Rec} (hq : rs[l]? = some q) : RecFacts q := by
  have hlt := (List.getElem?_eq_some_iff.1 hq).1
  rw [h.lrs] at hlt
  obtain ⟨io, q', _, _, _, hq', _, hf⟩ := h.op l (ops[l]'hlt) (Array.getElem?_eq_getElem hlt)
  rw [hq] at hq'; cases hq'
  exact hf

abbrev Bits (ops : Array Oper) (k l : Nat) : Prop := ((cMasks [] ops.toList).getD k 0).testBit l = true

def Cl (ops : Array Oper) (L : Nat → Bool) : Prop := ∀ j i, L j = true → Bits ops j i → L i = true

theorem zone_agree (h : DCtx P cx callee ops is rs ρ0 s0) {L : Nat → Bool} (hcl : Cl ops L) {i : Nat} {r : Rec} (hr : rs[i]? = some r) (hi : L i = false) (hready : ∀ l, Bits ops i l → L l = true) {j : Nat} (hz : r.zone j) :
    (∀ (l : Nat) (q : Rec), l < i → rs[l]? = some q → q.touches j → L l = true) ∧ (∀ (l : Nat) (q : Rec), i < l → rs[l]? = some q → q.touches j → L l = false) := by
  have before : ∀ (l : Nat) (q : Rec) (e d : Deed), l < i → rs[l]? = some q → q.d = some e → r.d = some d → e.free d = false → L l = true := fun l q e d hl hq he hd hf => by
    rcases h.deeds l i q r e d hl hq hr he hd with h1 | h1
    · exact hready l h1
    · rw [hf] at h1; cases h1
  have after : ∀ (l : Nat) (q : Rec) (e d : Deed), i < l → rs[l]? = some q → q.d = some e → r.d = some d → d.free e = false → L l = false := fun l q e d hl hq he hd hf => by
    cases hL : L l with
    | false => rfl
    | true =>
      rcases h.deeds i l r q d e hl hr hq hd he with h1 | h1
      · rw [hcl l i hL h1] at hi; cases hi
      · rw [hf] at h1; cases h1
  unfold Rec.zone at hz
  split at hz
  · exact hz.elim
  · -- lay
    rename_i id hd
    subst hz
    obtain ⟨hid, hnx⟩ := (h.ids i r j hr).1 hd
    refine ⟨fun l q hl hq ht => ?_, fun l q hl hq ht => ?_⟩
    · exfalso
      have hm := h.mono l i q r hl hq hr
      unfold Rec.touches at ht
      split at ht
      · rename_i e he; subst ht; obtain ⟨h1, h2⟩ := (h.ids l q j hq).1 he; omega
      · rename_i e he; subst ht
        have := (h.ids l q j hq).2 (.inr he)
        have := (h.fact hq).kept.next
        omega
      · omega
      · exact ht
    · unfold Rec.touches at ht
      split at ht
      · rename_i e he; subst ht
        obtain ⟨h1, h2⟩ := (h.ids l q j hq).1 he
        have hm := h.mono i l r q hl hr hq; omega
      · rename_i e he; subst ht; exact after l q _ _ hl hq he hd (by simp [Deed.free])
      · rename_i p he; exact after l q _ _ hl hq he hd (by simp [Deed.free, ht.2])
      · exact ht.elim
  · -- rd
    rename_i id hd
    subst hz
    have hid := (h.ids i r j hr).2 (.inl hd)
    refine ⟨fun l q hl hq ht => ?_, fun l q hl hq ht => ?_⟩
    · unfold Rec.touches at ht
      split at ht
      · rename_i e he; subst ht; exact before l q _ _ hl hq he hd (by simp [Deed.free])
      · rename_i e he; subst ht; exact before l q _ _ hl hq he hd (by simp [Deed.free])
      · rename_i p he; exact before l q _ _ hl hq he hd (by simp [Deed.free, ht.2])
      · exact ht.elim
    · have hm := h.mono i l r q hl hr hq
      have hkn : r.s.next ≤ r.s'.next := (h.fact hr).kept.next
      unfold Rec.touches at ht
      split at ht
      · rename_i e he; subst ht; obtain ⟨h1, h2⟩ := (h.ids l q j hq).1 he; omega
      · rename_i e he; subst ht; exact after l q _ _ hl hq he hd (by simp [Deed.free])
      · rename_i p he; exact after l q _ _ hl hq he hd (by simp [Deed.free, ht.2])
      · exact ht.elim
  · -- wr
    rename_i id hd
    subst hz
    have hid := (h.ids i r j hr).2 (.inr hd)
    refine ⟨fun l q hl hq ht => ?_, fun l q hl hq ht => ?_⟩
    · unfold Rec.touches at ht
      split at ht
      · rename_i e he; subst ht; exact before l q _ _ hl hq he hd (by simp [Deed.free])
      · rename_i e he; subst ht; exact before l q _ _ hl hq he hd (by simp [Deed.free])
      · rename_i p he; exact before l q _ _ hl hq he hd (by simp [Deed.free, ht.2])
      · exact ht.elim
    · have hm := h.mono i l r q hl hr hq
      have hkn : r.s.next ≤ r.s'.next := (h.fact hr).kept.next
      unfold Rec.touches at ht
      split at ht
      · rename_i e he; subst ht; obtain ⟨h1, h2⟩ := (h.ids l q j hq).1 he; omega
      · rename_i e he; subst ht; exact after l q _ _ hl hq he hd (by simp [Deed.free])
      · rename_i p he; exact after l q _ _ hl hq he hd (by simp [Deed.free, ht.2])
      · exact ht.elim
  all_goals
    rename_i hd
    refine ⟨fun l q hl hq ht => ?_, fun l q hl hq ht => ?_⟩
    · unfold Rec.touches at ht
      split at ht
      · rename_i e he; exact before l q _ _ hl hq he hd rfl
      · rename_i e he; exact before l q _ _ hl hq he hd rfl
      · rename_i p he; exact before l q _ _ hl hq he hd (by simp [Deed.free, ht.2])
      · exact ht.elim
    · have hm := h.mono i l r q hl hr hq
      unfold Rec.touches at ht
      split at ht
      · rename_i e he; subst ht; obtain ⟨h1, h2⟩ := (h.ids l q j hq).1 he; omega
      · rename_i e he; exact after l q _ _ hl hq he hd rfl
      · rename_i p he; exact after l q _ _ hl hq he hd (by simp [Deed.free, ht.2])
      · exact ht.elim

theorem mask_ready {L : Nat → Bool} (hcl : Cl ops L) {i : Nat} {o : Oper} (ho : ops[i]? = some o) (hr : ∀ e ∈ o.after.toList, Region.binds .any e = true → L e.on = true) (l : Nat) (hb : Bits ops i l) : L l = true := by
  obtain ⟨e, h1, h2, h3⟩ := mask_bit ho hb
  rcases h3 with rfl | h3
  · exact hr e h1 h2
  · exact hcl e.on l (hr e h1 h2) h3

def add (L : Nat → Bool) (i : Nat) : Nat → Bool := fun k => L k || decide (k = i)

theorem Cl.add {L : Nat → Bool} (hcl : Cl ops L) {i : Nat} (hr : ∀ l, Bits ops i l → L l = true) : Cl ops (add L i) := by
  intro j l hj hb
  simp only [Fw.add, Bool.or_eq_true, decide_eq_true_eq] at hj ⊢
  rcases hj with hj | rfl
  · exact .inl (hcl j l hj hb)
  · exact .inl (hr l hb)

structure DGood (X : Bs) (ops : Array Oper) (is : List IOper) (rs : List Rec) (ρ0 : Env) (s0 : St) (L : Nat → Bool) (σ : Gh) (w : World) (a : Act) : Prop where
  inv : Inv X σ (hpL L 0 rs s0.get) w
  al : alAll (dm (hpL L 0 rs s0.get)) (envL L 0 (is.zip (cMasks [] ops.toList)) rs ρ0) = true
  env : EnvOk σ (envL L 0 (is.zip (cMasks [] ops.toList)) rs ρ0) a

theorem clash_false {d : Option Nat} {ns : List Nat} (h : clash d ns = false) {t : Nat} (hd : d = some t) : t ∉ ns := by
  subst hd; simpa [clash] using h

theorem writer_agree (h : DCtx P cx callee ops is rs ρ0 s0) {L : Nat → Bool} (hcl : Cl ops L) {i : Nat} {io : IOper} {o : Oper} (hio : is[i]? = some io) (ho : ops[i]? = some o) (hi : L i = false) (hready : ∀ l, Bits ops i l → L l = true) {t : Nat} (ht : t ∈ namesOf io o)
    {l : Nat} {x : IOper} (hx : is[l]? = some x) (hd : x.dst = some t) : L l = decide (l < i) := by
  have hlt : l < ops.size := by have := (List.getElem?_eq_some_iff.1 hx).1; rw [h.lis] at this; exact this
  have hp : ops[l]? = some ops[l] := Array.getElem?_eq_getElem hlt
  rcases Nat.lt_trichotomy l i with hl | rfl | hl
  · simp only [hl, decide_true]
    rcases h.pair l i x io _ o hl hx hio hp ho with h1 | ⟨h1, _⟩
    · exact hready l h1
    · exact absurd ht (clash_false h1 hd)
  · simp [hi]
  · have : ¬ l < i := by omega
    simp only [this, decide_false]
    cases hL : L l with
    | false => rfl
    | true =>
      rcases h.pair i l io x o _ hl hio hx ho hp with h1 | ⟨_, h1⟩
      · rw [hcl l i hL h1] at hi; cases hi
      · exact absurd ht (clash_false h1 hd)

theorem draw_step (hX : cx.gl = X.gl) (hGl : cx.GlOk) (hk : CalleeOk callee) (hc : CallOk P X callee) (h : DCtx P cx callee ops is rs ρ0 s0) {L : Nat → Bool} (hcl : Cl ops L) {i : Nat} (hi : L i = false) (hlt : i < ops.size) (hready : ∀ l, Bits ops i l → L l = true)
    {σ : Gh} {w : World} {a : Act} (hg : DGood X ops is rs ρ0 s0 L σ w a) {K : Act → World → Prop} {Q : Exit → Act → World → Prop}
    (hK : ∀ σ' w' a', Step X σ (hpL L 0 rs s0.get) w σ' (hpL (add L i) 0 rs s0.get) w' → DGood X ops is rs ρ0 s0 (add L i) σ' w' a' → K a' w') : wpOp P ops Q i K a w := by
  have ho : ops[i]? = some ops[i] := Array.getElem?_eq_getElem hlt
  generalize hoo : ops[i] = o at ho
  obtain ⟨io, r, hio, hcO, hsh, hr, hok, hf⟩ := h.op i o ho
  obtain ⟨hat1, hat2, hat3, hat4⟩ := h.at' i r hr
  have hmi : ∀ (l : Nat) (x : IOper) (m : Nat), (is.zip (cMasks [] ops.toList))[l]? = some (x, m) → is[l]? = some x := fun l x m hl => by
    rw [List.getElem?_zip_eq_some] at hl; exact hl.1
  have hself : (is.zip (cMasks [] ops.toList))[i]?.map (·.1) = some io := by
    have hml := (cMasks_get ops.toList []).1
    simp only [List.length_nil, Nat.zero_add, Array.length_toList] at hml
    have : (cMasks [] ops.toList)[i]? = some (cMasks [] ops.toList)[i] := List.getElem?_eq_getElem (by omega)
    have h2 : (is.zip (cMasks [] ops.toList))[i]? = some (io, (cMasks [] ops.toList)[i]'(by omega)) := by rw [List.getElem?_zip_eq_some]; exact ⟨hio, this⟩
    rw [h2]; rfl
  -- the temporaries
  have hN : ∀ t ∈ namesOf io o, (envL L 0 (is.zip (cMasks [] ops.toList)) rs ρ0).get t = r.ρ.get t := fun t ht => by
    rw [hat1]
    refine envL_agree _ rs 0 rfl rfl fun l x m hl hd => ?_
    rw [Nat.zero_add]
    exact writer_agree h hcl hio ho hi hready ht (hmi l x m hl) hd
  have henv : envL (add L i) 0 (is.zip (cMasks [] ops.toList)) rs ρ0 = (envL L 0 (is.zip (cMasks [] ops.toList)) rs ρ0).put io.dst r.v := by
    refine env_ext (by rw [put_len, envL_len, envL_len]) fun t => ?_
    by_cases hd : io.dst = some t
    · have ht : t ∈ namesOf io o := by simp [namesOf, dTmps, hd]
      have e1 : (envL (add L i) 0 (is.zip (cMasks [] ops.toList)) rs ρ0).get t = r.ρ'.get t := by
        rw [hat3]
        refine envL_agree _ rs 0 rfl rfl fun l x m hl hd' => ?_
        rw [Nat.zero_add]
        have := writer_agree h hcl hio ho hi hready ht (hmi l x m hl) hd'
        simp only [add, this]
        rw [Bool.eq_iff_iff]; simp; omega
      rw [e1, hok.env, put_get, put_get, hN t ht, hat1, envL_len, envL_len]
    · rw [put_get, if_neg (fun e => hd e.1)]
      refine envL_agree _ rs 0 rfl rfl fun l x m hl hd' => ?_
      rw [Nat.zero_add]
      have hne : l ≠ i := fun e => by
        subst e
        rw [hl] at hself; simp at hself; subst hself; exact hd hd'
      simp [add, hne]
  -- the blocks
  have hz : ∀ j, r.zone j → hpL L 0 rs s0.get j = r.s.get j ∧ hpL (add L i) 0 rs s0.get j = r.s'.get j := fun j hj => by
    obtain ⟨h1, h2⟩ := zone_agree h hcl hr hi hready hj
    have ag : ∀ (l : Nat) (q : Rec), rs[l]? = some q → q.touches j → L l = decide (l < i) := fun l q hq ht => by
      rcases Nat.lt_trichotomy l i with hl | rfl | hl
      · simp [hl, h1 l q hl hq ht]
      · simp [hi]
      · have : ¬ l < i := by omega
        simp [this, h2 l q hl hq ht]
    constructor
    · rw [hat2]
      refine hpL_agree rs 0 rfl fun l q hq ht => ?_
      rw [Nat.zero_add]; exact ag l q hq ht
    · rw [hat4]
      refine hpL_agree rs 0 rfl fun l q hq ht => ?_
      rw [Nat.zero_add]
      simp only [add, ag l q hq ht]
      rw [Bool.eq_iff_iff]; simp; omega
  have hz3 : ∀ j, ¬ r.touches j → hpL (add L i) 0 rs s0.get j = hpL L 0 rs s0.get j := fun j hj => by
    refine hpL_agree rs 0 rfl fun l q hq ht => ?_
    rw [Nat.zero_add]
    have hne : l ≠ i := fun e => by subst e; rw [hr] at hq; cases hq; exact hj ht
    simp [add, hne]
  simp only [wpOp, ho]
  simp only [cOper, Option.bind_eq_some_iff, Option.map_eq_some_iff] at hcO
  obtain ⟨op, h1, g, h2, rfl⟩ := hcO
  have hwt : wants (envL L 0 (is.zip (cMasks [] ops.toList)) rs ρ0) g = wants r.ρ g := by
    cases g with
    | none => rfl
    | some tw =>
      obtain ⟨t, want⟩ := tw
      have := hN t (by simp [namesOf, gTmps])
      simp only [wants, this]
  rw [wants_R hg.env h2, hwt]
  dsimp only at hsh henv
  cases hq : wants r.ρ g with
  | true =>
    have hd := hok.want hq
    rcases cOpB_cases h1 with h1 | rfl
    case inr => simp [evDeed, evOp, IOp.plain, IOp.lays] at hd
    simp only [if_true]
    refine .inl (draw_left (N := namesOf _ o) hX hGl hk hc h1 hsh hf hd hg.inv hg.al hg.env hN (fun t ht => by simp [namesOf, ht]) (fun t ht => by simp [namesOf, ht]) (fun j hj => (hz j hj).1) (fun j hj => (hz j hj).2) hz3 fun σ' u w' hst hR hal => hK σ' w' _ hst ⟨hst.inv, ?_, ?_⟩)
    · rw [henv]; exact put_al (alAll_mono hst.dom _ hg.al) hal _
    · rw [henv]; exact EnvOk.put (hg.env.ext hst.ext hg.al) hR _
  | false =>
    obtain ⟨hv, hs, hdn⟩ := hok.skip hq
    simp only [Bool.false_eq_true, if_false]
    have hgg : hpL (add L i) 0 rs s0.get = hpL L 0 rs s0.get := funext fun j => hz3 j (by simp [Rec.touches, hdn])
    refine hK σ w _ (by rw [hgg]; exact Step.refl hg.inv) ⟨by rw [hgg]; exact hg.inv, ?_, ?_⟩
    · rw [henv, hgg, hv]; exact put_al hg.al rfl _
    · rw [henv, hv]; exact hg.env.put (R_undef σ) _
end
end Fw


/- Regions that draw their order: the whole. -/
namespace Fw
open Go Go.RowKit

section
variable {P : Program} {X : Bs} {cx : Cx} {callee : Callee} {ops : Array Oper} {is : List IOper} {rs : List Rec} {ρ0 : Env} {s0 : St}

theorem count_lt {p q : Nat → Bool} {i : Nat} : ∀ (l : List Nat), (∀ k, q k = true → p k = true) → i ∈ l → p i = true → q i = false → l.countP q < l.countP p
  | [], _, h, _, _ => by simp at h
  | k :: l, hpq, hi, hp, hq => by
    simp only [List.countP_cons]
    have hle : l.countP q ≤ l.countP p := List.countP_mono_left fun x _ hx => hpq x hx
    rcases List.mem_cons.1 hi with rfl | h
    · simp [hp, hq]; omega
    · have := count_lt l hpq h hp hq
      have hk := hpq k
      cases hqk : q k <;> cases hpk : p k <;> simp_all <;> omega

def lst (listed : Array Bool) : Nat → Bool := fun k => listed.getD k false

theorem lst_set {listed : Array Bool} {i : Nat} (hi : i < listed.size) : lst (listed.setIfInBounds i true) = add (lst listed) i := by
  funext k
  simp only [lst, add, Array.getD_eq_getD_getElem?, Array.getElem?_setIfInBounds]
  by_cases h : i = k
  · subst h; simp [hi]
  · have : ¬ k = i := fun e => h e.symm
    simp [h, this]

theorem mem_ready {listed : Array Bool} (hsz : listed.size = ops.size) {i : Nat} : i ∈ Region.ready .any ops listed ↔ ∃ o, ops[i]? = some o ∧ lst listed i = false ∧ ∀ e ∈ o.after.toList, Region.binds .any e = true → lst listed e.on = true := by
  simp only [Region.ready, List.mem_filter, List.mem_range, Bool.and_eq_true, Bool.not_eq_true']
  constructor
  · rintro ⟨h1, h2, h3⟩
    have ho : ops[i]? = some ops[i] := Array.getElem?_eq_getElem h1
    refine ⟨ops[i], ho, ?_, fun e he hb => ?_⟩
    · simp only [lst, Array.getD_eq_getD_getElem?] at h2 ⊢
      rw [Array.getElem?_eq_getElem (by omega)] at h2 ⊢; exact h2
    · rw [ho] at h3
      simp only [Option.map_some, Option.getD_some, Array.all_eq_true'] at h3
      have := h3 e (by simpa using he)
      simpa [hb, lst] using this
  · rintro ⟨o, ho, h2, h3⟩
    have h1 : i < ops.size := (Array.getElem?_eq_some_iff.1 ho).1
    refine ⟨h1, ?_, ?_⟩
    · simp only [lst, Array.getD_eq_getD_getElem?] at h2 ⊢
      rw [Array.getElem?_eq_getElem (by omega)] at h2 ⊢; exact h2
    · rw [ho]
      simp only [Option.map_some, Option.getD_some, Array.all_eq_true']
      intro e he
      cases hb : Region.binds .any e with
      | false => rfl
      | true => simpa [lst] using h3 e (by simpa using he) hb

theorem draw_any (hX : cx.gl = X.gl) (hGl : cx.GlOk) (hk : CalleeOk callee) (hc : CallOk P X callee) (h : DCtx P cx callee ops is rs ρ0 s0) {Q : Exit → Act → World → Prop} {σ0 : Gh} {w0 : World}
    (hQ : ∀ σ' w' a', Step X σ0 s0.get w0 σ' (hpL (fun _ => true) 0 rs s0.get) w' → DGood X ops is rs ρ0 s0 (fun _ => true) σ' w' a' → Q .normal a' w') :
    ∀ (fuel : Nat) (listed : Array Bool) (σ : Gh) (w : World) (a : Act), listed.size = ops.size → Cl ops (lst listed) → ((List.range ops.size).countP fun k => !lst listed k) ≤ fuel →
      Step X σ0 s0.get w0 σ (hpL (lst listed) 0 rs s0.get) w → DGood X ops is rs ρ0 s0 (lst listed) σ w a → wpAny P .any ops Q fuel listed a w := by
  -- the end: all have been done
  have fin : ∀ (listed : Array Bool) (σ : Gh) (w : World) (a : Act), listed.size = ops.size → (∀ k, k < ops.size → lst listed k = true) → Step X σ0 s0.get w0 σ (hpL (lst listed) 0 rs s0.get) w → DGood X ops is rs ρ0 s0 (lst listed) σ w a → Q .normal a w := by
    intro listed σ w a hsz hall hst hg
    have e1 : hpL (lst listed) 0 rs s0.get = hpL (fun _ => true) 0 rs s0.get := by
      funext j
      refine hpL_agree rs 0 rfl fun l r hr _ => ?_
      have := (List.getElem?_eq_some_iff.1 hr).1
      rw [h.lrs] at this
      rw [Nat.zero_add]; exact hall l this
    have e2 : envL (lst listed) 0 (is.zip (cMasks [] ops.toList)) rs ρ0 = envL (fun _ => true) 0 (is.zip (cMasks [] ops.toList)) rs ρ0 := by
      refine env_ext (by rw [envL_len, envL_len]) fun t => ?_
      refine envL_agree _ rs 0 rfl rfl fun l x m hl _ => ?_
      rw [List.getElem?_zip_eq_some] at hl
      have := (List.getElem?_eq_some_iff.1 hl.1).1
      rw [h.lis] at this
      rw [Nat.zero_add]; exact hall l this
    refine hQ σ w a (by rw [← e1]; exact hst) ⟨by rw [← e1]; exact hg.inv, by rw [← e1, ← e2]; exact hg.al, by rw [← e2]; exact hg.env⟩
  have stuck : ∀ (listed : Array Bool), listed.size = ops.size → Region.ready .any ops listed = [] → ∀ k, k < ops.size → lst listed k = true := by
    intro listed hsz hr k
    induction k using Nat.strongRecOn with
    | ind k ih =>
      intro hk
      cases hL : lst listed k with
      | true => rfl
      | false =>
        have ho : ops[k]? = some ops[k] := Array.getElem?_eq_getElem hk
        have : k ∈ Region.ready .any ops listed := (mem_ready hsz).2 ⟨_, ho, hL, fun e he hb => by
          have := h.edge k _ e ho he hb
          exact ih e.on this (by omega)⟩
        rw [hr] at this; cases this
  intro fuel
  induction fuel with
  | zero =>
    intro listed σ w a hsz hcl hcnt hst hg
    have hall : ∀ k, k < ops.size → lst listed k = true := fun k hk => by
      have h0 : ((List.range ops.size).countP fun k => !lst listed k) = 0 := by omega
      rw [List.countP_eq_zero] at h0
      simpa using h0 k (List.mem_range.2 hk)
    simp only [wpAny]
    refine ⟨?_, fin listed σ w a hsz hall hst hg⟩
    rw [List.eq_nil_iff_forall_not_mem]
    intro i hi
    obtain ⟨o, ho, h1, _⟩ := (mem_ready hsz).1 hi
    rw [hall i (Array.getElem?_eq_some_iff.1 ho).1] at h1; cases h1
  | succ fuel ih =>
    intro listed σ w a hsz hcl hcnt hst hg
    simp only [wpAny]
    refine ⟨fun hr => fin listed σ w a hsz (stuck listed hsz hr) hst hg, fun i hi => ?_⟩
    obtain ⟨o, ho, hun, hed⟩ := (mem_ready hsz).1 hi
    have hlt : i < ops.size := (Array.getElem?_eq_some_iff.1 ho).1
    have hready : ∀ l, Bits ops i l → lst listed l = true := mask_ready hcl ho hed
    have hls := lst_set (listed := listed) (i := i) (by omega)
    refine draw_step hX hGl hk hc h hcl hun hlt hready hg fun σ' w' a' hst' hg' => ?_
    refine ih _ σ' w' a' (by simpa using hsz) (by rw [hls]; exact hcl.add hready) ?_ (by rw [hls]; exact hst.trans hst') (by rw [hls]; exact hg')
    have := count_lt (p := fun k => !lst listed k) (q := fun k => !lst (listed.setIfInBounds i true) k) (i := i) (List.range ops.size) (fun k hq => by
      rw [hls] at hq; simp only [add, Bool.not_or, Bool.and_eq_true] at hq; exact hq.1) (List.mem_range.2 hlt) (by simp [hun]) (by rw [hls]; simp [add])
    omega

theorem cOpers_get {P : Program} {ops : Array Oper} : ∀ (os : List Oper) {is : List IOper}, cOpers P ops os = some is → is.length = os.length ∧ ∀ (k : Nat) (o : Oper), os[k]? = some o → ∃ io, is[k]? = some io ∧ cOper P ops o = some io
  | [], is, h => by simp only [cOpers, Option.some.injEq] at h; subst h; exact ⟨rfl, fun k o h => by simp at h⟩
  | o :: os, is, h => by
    simp only [cOpers, Option.bind_eq_some_iff, Option.map_eq_some_iff] at h; obtain ⟨i, h1, is', h2, rfl⟩ := h
    obtain ⟨h3, h4⟩ := cOpers_get os h2
    refine ⟨by simp [h3], fun k o' hk => ?_⟩
    cases k with
    | zero => simp at hk; subst hk; exact ⟨i, rfl, h1⟩
    | succ k => simp only [List.getElem?_cons_succ] at hk ⊢; exact h4 k o' hk

theorem rec_ids {io : IOper} {r : Rec} (h : RecOk cx callee io r) (hf : RecFacts r) (id : Nat) : (r.d = some (.lay id) → id = r.s.next ∧ r.s'.next = r.s.next + 1) ∧ (r.d = some (.rd id) ∨ r.d = some (.wr id) → id < r.s.next) := by
  cases hwt : wants r.ρ io.guard with
  | false =>
    obtain ⟨_, _, h3⟩ := h.skip hwt
    rw [h3]
    exact ⟨fun e => (by cases e), fun e => by rcases e with e | e <;> cases e⟩
  | true =>
    have he := h.want hwt
    clear h
    revert he
    generalize io.op = oo
    intro he
    unfold evDeed at he
    split at he
    · simp only [Option.map_eq_some_iff, Prod.mk.injEq] at he; obtain ⟨⟨v, t⟩, h1, h2, h3, h4⟩ := he
      rw [← h4]
      exact ⟨fun e => (by cases e), fun e => by rcases e with e | e <;> cases e⟩
    · split at he
      · rename_i hl
        simp only [Option.map_eq_some_iff, Prod.mk.injEq] at he; obtain ⟨⟨v, t⟩, h1, h2, h3, h4⟩ := he
        rw [← h4, ← h3]
        refine ⟨fun e => ?_, fun e => by rcases e with e | e <;> cases e⟩
        cases e
        refine ⟨rfl, ?_⟩
        cases oo <;> simp only [IOp.lays, Bool.false_eq_true] at hl
        · simp only [evOp, Option.some.injEq] at h1; cases h1; rfl
        · simp only [evOp, Option.map_eq_some_iff] at h1; obtain ⟨b, _, h5⟩ := h1; cases h5; rfl
        · simp only [evOp, Option.bind_eq_some_iff] at h1; obtain ⟨b, _, c, _, h5⟩ := h1
          split at h5
          · split at h5 <;> cases h5
            rfl
          · cases h5
      · split at he
        · simp only [Option.map_eq_some_iff, Prod.mk.injEq] at he; obtain ⟨⟨v, t⟩, h1, h2, h3, h4⟩ := he
          simp only [evOp, Option.map_eq_some_iff, Option.bind_eq_some_iff] at h1; obtain ⟨b, ⟨y, h5, h6⟩, h7⟩ := h1
          rw [h5] at h4
          rw [← h4]
          refine ⟨fun e => (by split at e <;> cases e), fun e => ?_⟩
          cases y <;> dsimp only at e <;> first | (rcases e with e | e <;> cases e; done) | skip
          rename_i id' off
          have hid : id' = id := by rcases e with e | e <;> cases e; rfl
          subst hid
          simp only [loadA] at h6
          split at h6
          · rename_i cs hcs; exact hf.ok.lt hcs
          · cases h6
        · simp only [Option.map_eq_some_iff, Prod.mk.injEq] at he; obtain ⟨⟨v, t⟩, h1, h2, h3, h4⟩ := he
          simp only [evOp, Option.map_eq_some_iff, Option.bind_eq_some_iff] at h1; obtain ⟨y, h5, z, h6, t', h7, h8⟩ := h1
          rw [h5] at h4
          rw [← h4]
          refine ⟨fun e => (by split at e <;> cases e), fun e => ?_⟩
          cases y <;> dsimp only at e <;> first | (rcases e with e | e <;> cases e; done) | skip
          rename_i id' off
          have hid : id' = id := by rcases e with e | e <;> cases e; rfl
          subst hid
          simp only [storeA] at h7
          split at h7
          · rename_i cs hcs; exact hf.ok.lt hcs
          · cases h7
        · simp only [Option.map_eq_some_iff] at he; obtain ⟨⟨v, t⟩, h1, h2⟩ := he
          split at h2
          · simp only [Prod.mk.injEq] at h2; obtain ⟨_, _, h5⟩ := h2
            rw [← h5]; exact ⟨fun e => (by cases e), fun e => by rcases e with e | e <;> cases e⟩
          · simp only [Prod.mk.injEq] at h2; obtain ⟨_, _, h5⟩ := h2
            rw [← h5]; exact ⟨fun e => (by cases e), fun e => by rcases e with e | e <;> cases e⟩

theorem drawOk (hX : cx.gl = X.gl) (hGl : cx.GlOk) (hm : P.follows .mixedOrders = true) : DrawOk P X cx := by
  intro callee hk hc id ops is s ρ s' ρ' hcO hsh he σ w a Q hg hQ
  simp only [cCode, Option.bind_eq_some_iff, if_true] at hcO
  obtain ⟨is0, h1, h2⟩ := hcO
  split at h2
  case isFalse => cases h2
  rename_i hpair
  cases h2
  obtain ⟨hlis, hget⟩ := cOpers_get _ h1
  simp only [Array.length_toList] at hlis
  have hml := (cMasks_get ops.toList []).1
  simp only [List.length_nil, Nat.zero_add, Array.length_toList] at hml
  obtain ⟨rs, htr, hdeed⟩ := trace_of _ he
  obtain ⟨f1, f2, f3, f4, f5⟩ := trace_facts hGl hk htr hg.whole hg.al hsh
  obtain ⟨t1, t2, t3⟩ := trace_at hGl hk htr hg.whole hg.al hsh 0
  have hzl : (is0.zip (cMasks [] ops.toList)).length = ops.size := by simp [hlis, hml]
  have hzget : ∀ (k : Nat) (io : IOper), is0[k]? = some io → ∃ m, (is0.zip (cMasks [] ops.toList))[k]? = some (io, m) ∧ m = (cMasks [] ops.toList).getD k 0 := fun k io hio => by
    have hlt : k < (cMasks [] ops.toList).length := by have := (List.getElem?_eq_some_iff.1 hio).1; omega
    have h3 : (cMasks [] ops.toList)[k]? = some (cMasks [] ops.toList)[k] := List.getElem?_eq_getElem hlt
    exact ⟨(cMasks [] ops.toList)[k], by rw [List.getElem?_zip_eq_some]; exact ⟨hio, h3⟩, by simp [List.getD, h3]⟩
  have hop : ∀ (k : Nat) (o : Oper), ops[k]? = some o → ∃ io r, is0[k]? = some io ∧ cOper P ops o = some io ∧ io.op.shut = true ∧ rs[k]? = some r ∧ RecOk cx callee io r ∧ RecFacts r := fun k o ho => by
    obtain ⟨io, h3, h4⟩ := hget k o (by simpa using ho)
    obtain ⟨m, h5, _⟩ := hzget k io h3
    obtain ⟨r, h6, h7, h8⟩ := f2 k io m h5
    exact ⟨io, r, h3, h4, List.all_eq_true.1 hsh _ (List.mem_of_getElem? h5), h6, h7, h8⟩
  have hpo : ∀ (j : Nat) (y : IOper) (q : Oper), is0[j]? = some y → ops[j]? = some q → (∀ e ∈ q.after.toList, Region.binds .any e = true → e.on < j) ∧ ∀ (i : Nat) (x : IOper) (p : Oper), i < j → is0[i]? = some x → ops[i]? = some p →
      ((cMasks [] ops.toList).getD j 0).testBit i = true ∨ (clash x.dst (namesOf y q) = false ∧ clash y.dst (namesOf x p) = false) := fun j y q hy hq => by
    have hjl : j < ops.size := (Array.getElem?_eq_some_iff.1 hq).1
    have hzz : ∀ (i : Nat) (x : IOper) (p : Oper), is0[i]? = some x → ops[i]? = some p → (is0.zip ops.toList)[i]? = some (x, p) := fun i x p hx hp => by rw [List.getElem?_zip_eq_some]; exact ⟨hx, by simpa using hp⟩
    simp only [pairOk, List.all_eq_true, List.mem_range] at hpair
    have := hpair j (by simp [hlis]; exact hjl)
    rw [hzz j y q hy hq] at this
    simp only [Bool.and_eq_true, List.all_eq_true, Bool.or_eq_true, Bool.not_eq_true', decide_eq_true_eq, List.mem_range] at this
    refine ⟨fun e he hb => ?_, fun i x p hi hx hp => ?_⟩
    · rcases this.1 e he with h3 | h3
      · rw [hb] at h3; cases h3
      · exact h3
    · rcases this.2 i hi with h3 | h3
      · exact .inl h3
      · rw [hzz i x p hx hp] at h3
        simp only [Bool.and_eq_true, Bool.not_eq_true'] at h3
        exact .inr h3
  have hctx : DCtx P cx callee ops is0 rs ρ s := by
    refine ⟨hlis, by rw [f1, hzl], hop, fun l k q r e d hl hq hr he hd => ?_, f5, fun i j x y p q hij hx hy hp hq => (hpo j y q hy hq).2 i x p hij hx hp, fun j q e hq he hb => ?_, fun k r i hr => ?_, fun k r hr => ?_⟩
    · have hkl : k < ops.size := by have := (List.getElem?_eq_some_iff.1 hr).1; omega
      obtain ⟨io, r', h3, _, _, h6, _⟩ := hop k _ (Array.getElem?_eq_getElem hkl)
      obtain ⟨m, h5, h7⟩ := hzget k io h3
      have := (hdeed k m io r d h5 hr hd).2 l q e hl hq he
      rw [Nat.zero_add, h7] at this
      exact this
    · obtain ⟨io, _, h3, _⟩ := hop j q hq
      exact (hpo j io q h3 hq).1 e he hb
    · have hkl : k < ops.size := by have := (List.getElem?_eq_some_iff.1 hr).1; omega
      obtain ⟨io, r', _, _, _, h6, h7, h8⟩ := hop k _ (Array.getElem?_eq_getElem hkl)
      rw [hr] at h6; cases h6
      exact rec_ids h7 h8 i
    · have := t1 k r hr
      simpa only [Nat.zero_add] using this
  refine wp_region_any hm ?_
  have hdr : Step X σ s.get w σ s.get { w with drawn := w.drawn + 1 } := Step.heap_same hg.inv (Below.drew hg.inv.below) rfl
  have hL0 : lst (Array.replicate ops.size false) = fun _ => false := by
    funext k
    simp only [lst, Array.getD_eq_getD_getElem?, Array.getElem?_replicate]
    split <;> rfl
  have e0 : hpL (fun _ => false) 0 rs s.get = s.get := hpL_none rs 0 fun _ _ => rfl
  have e1 : envL (fun _ => false) 0 (is0.zip (cMasks [] ops.toList)) rs ρ = ρ := envL_none _ rs 0 fun _ _ => rfl
  obtain ⟨k1, a1⟩ := evDraw_kept hGl hk _ hg.whole hg.al hsh he
  refine draw_any hX hGl hk hc hctx (σ0 := σ) (w0 := w) (fun σ' w' a' hst hg' => hQ σ' w' a' (by rw [t3]; exact hst) ⟨k1.whole, a1, by rw [t3]; exact hg'.inv, by rw [t2]; exact hg'.env⟩) ops.size _ σ _ a (by simp) ?_ ?_ ?_ ?_
  · intro j i hj; rw [hL0] at hj; cases hj
  · refine Nat.le_trans List.countP_le_length ?_; simp
  · rw [hL0, e0]; exact hdr
  · rw [hL0]
    exact ⟨by rw [e0]; exact hdr.inv, by rw [e0, e1, dm_get hg.whole]; exact hg.al, by rw [e1]; exact hg.env⟩
end
end Fw
