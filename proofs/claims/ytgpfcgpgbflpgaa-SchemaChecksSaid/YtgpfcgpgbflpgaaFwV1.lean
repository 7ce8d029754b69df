/- Regions that draw their order: what an operation looks at, what a frame keeps. -/
import Derived.Test.YtgpfcgpgbflpgaaFwU
namespace Fw
open Go Go.RowKit

section
variable {P : Program} {X : Bs} {cx : Cx} {callee : Callee} {σ σ' : Gh} {ρ ρ' : Env} {a : Act} {w w' : World} {s s' : St} {v : AV}

theorem ev_congr {x : IX} (h : ∀ t ∈ x.tmps, ρ.get t = ρ'.get t) : x.ev cx ρ = x.ev cx ρ' := by
  cases x with
  | tmp t => simp only [IX.ev]; rw [h t (by simp [IX.tmps])]
  | const => rfl
  | glob => rfl
theorem evo_congr {x : Option IX} (h : ∀ t ∈ oTmps x, ρ.get t = ρ'.get t) : evo cx ρ x = evo cx ρ' x := by
  cases x with
  | none => rfl
  | some x => simp only [evo, ev_congr (cx := cx) (x := x) h]
theorem evs_congr : ∀ {xs : List IX}, (∀ t ∈ xs.flatMap IX.tmps, ρ.get t = ρ'.get t) → evs cx ρ xs = evs cx ρ' xs
  | [], _ => rfl
  | x :: xs, h => by
    simp only [List.flatMap_cons, List.mem_append] at h
    simp only [evs, ev_congr (cx := cx) (x := x) fun t ht => h t (.inl ht), evs_congr (xs := xs) fun t ht => h t (.inr ht)]
theorem fillA_congr : ∀ {ps : List (Nat × Nat × IX)} (cs : List AV), (∀ t ∈ ps.flatMap (·.2.2.tmps), ρ.get t = ρ'.get t) → fillA cx ρ cs ps = fillA cx ρ' cs ps
  | [], _, _ => rfl
  | (o, n, x) :: ps, cs, h => by
    simp only [List.flatMap_cons, List.mem_append] at h
    simp only [fillA, ev_congr (cx := cx) (x := x) fun t ht => h t (.inl ht)]
    congr 1; funext v
    split
    · congr 1; funext cs'; exact fillA_congr cs' fun t ht => h t (.inr ht)
    · rfl

theorem evOp_congr {io : IOp} (h : ∀ t ∈ io.tmps, ρ.get t = ρ'.get t) : evOp cx callee ρ s io = evOp cx callee ρ' s io := by
  have e : ∀ (x : IX), (∀ t ∈ x.tmps, t ∈ io.tmps) → x.ev cx ρ = x.ev cx ρ' := fun x hx => ev_congr fun t ht => h t (hx t ht)
  have eo : ∀ (x : Option IX), (∀ t ∈ oTmps x, t ∈ io.tmps) → evo cx ρ x = evo cx ρ' x := fun x hx => evo_congr fun t ht => h t (hx t ht)
  have es : ∀ (x : List IX), (∀ t ∈ x.flatMap IX.tmps, t ∈ io.tmps) → evs cx ρ x = evs cx ρ' x := fun x hx => evs_congr fun t ht => h t (hx t ht)
  have ef : ∀ (x : List (Nat × Nat × IX)) cs, (∀ t ∈ x.flatMap (·.2.2.tmps), t ∈ io.tmps) → fillA cx ρ cs x = fillA cx ρ' cs x := fun x cs hx => fillA_congr cs fun t ht => h t (hx t ht)
  clear h
  cases io <;> simp only [evOp]
  case mov x => simp only [e x fun t ht => by simp [IOp.tmps, ht]]
  case pick c x y =>
    simp only [e c fun t ht => by simp [IOp.tmps, ht]]
    have h1 := e x fun t ht => by simp [IOp.tmps, ht]
    have h2 := e y fun t ht => by simp [IOp.tmps, ht]
    split
    · rename_i b _; cases b
      · simp only [Bool.false_eq_true, if_false, h2]
      · simp only [if_true, h1]
    · rfl
  case box x => simp only [e x fun t ht => by simp [IOp.tmps, ht]]
  case build z ps => simp only [ef ps _ fun t ht => by simpa [IOp.tmps] using ht]
  case bslice z n ps => simp only [ef ps _ fun t ht => by simpa [IOp.tmps] using ht]
  case load g n x => simp only [e x fun t ht => by simp [IOp.tmps, ht]]
  case store n x y => simp only [e x fun t ht => by simp [IOp.tmps, ht], e y fun t ht => by simp [IOp.tmps, ht]]
  case nilChk x => simp only [e x fun t ht => by simp [IOp.tmps, ht]]
  case bin op x y => simp only [e x fun t ht => by simp [IOp.tmps, ht], e y fun t ht => by simp [IOp.tmps, ht]]
  case eqv n q x y => simp only [e x fun t ht => by simp [IOp.tmps, ht], e y fun t ht => by simp [IOp.tmps, ht]]
  case un op x => simp only [e x fun t ht => by simp [IOp.tmps, ht]]
  case i2i k x => simp only [e x fun t ht => by simp [IOp.tmps, ht]]
  case same x => simp only [e x fun t ht => by simp [IOp.tmps, ht]]
  case b2s x => simp only [e x fun t ht => by simp [IOp.tmps, ht]]
  case s2b x => simp only [e x fun t ht => by simp [IOp.tmps, ht]]
  case i2s x => simp only [e x fun t ht => by simp [IOp.tmps, ht]]
  case slcs x lo hi => simp only [e x fun t ht => by simp [IOp.tmps, ht], eo lo fun t ht => by simp [IOp.tmps, ht], eo hi fun t ht => by simp [IOp.tmps, ht]]
  case slc k x lo hi m3 => simp only [e x fun t ht => by simp [IOp.tmps, ht], eo lo fun t ht => by simp [IOp.tmps, ht], eo hi fun t ht => by simp [IOp.tmps, ht], eo m3 fun t ht => by simp [IOp.tmps, ht]]
  case slca k n x lo hi m3 => simp only [e x fun t ht => by simp [IOp.tmps, ht], eo lo fun t ht => by simp [IOp.tmps, ht], eo hi fun t ht => by simp [IOp.tmps, ht], eo m3 fun t ht => by simp [IOp.tmps, ht]]
  case faddr o x => simp only [e x fun t ht => by simp [IOp.tmps, ht]]
  case fld o n g x => simp only [e x fun t ht => by simp [IOp.tmps, ht]]
  case iaddr k n x y => simp only [e x fun t ht => by simp [IOp.tmps, ht], e y fun t ht => by simp [IOp.tmps, ht]]
  case idx k g n x y => simp only [e x fun t ht => by simp [IOp.tmps, ht], e y fun t ht => by simp [IOp.tmps, ht]]
  case look kk z ok x y => simp only [e x fun t ht => by simp [IOp.tmps, ht], e y fun t ht => by simp [IOp.tmps, ht]]
  case mupd kk x y z => simp only [e x fun t ht => by simp [IOp.tmps, ht], e y fun t ht => by simp [IOp.tmps, ht], e z fun t ht => by simp [IOp.tmps, ht]]
  case mkif t x => simp only [e x fun t ht => by simp [IOp.tmps, ht]]
  case mkfn f x y => simp only [es x fun t ht => by simp only [IOp.tmps, List.mem_append]; simp [ht], es y fun t ht => by simp only [IOp.tmps, List.mem_append]; simp [ht]]
  case mkslice b z x y => simp only [e x fun t ht => by simp [IOp.tmps, ht], e y fun t ht => by simp [IOp.tmps, ht]]
  case extr x i => simp only [e x fun t ht => by simp [IOp.tmps, ht]]
  case lens x => simp only [e x fun t ht => by simp [IOp.tmps, ht]]
  case lenv x => simp only [e x fun t ht => by simp [IOp.tmps, ht]]
  case lenm x => simp only [e x fun t ht => by simp [IOp.tmps, ht]]
  case mn xs => simp only [es xs fun t ht => by simpa [IOp.tmps] using ht]
  case mx xs => simp only [es xs fun t ht => by simpa [IOp.tmps] using ht]
  case app k b x y => simp only [e x fun t ht => by simp [IOp.tmps, ht], e y fun t ht => by simp [IOp.tmps, ht]]
  case copy k x y => simp only [e x fun t ht => by simp [IOp.tmps, ht], e y fun t ht => by simp [IOp.tmps, ht]]
  case call f xs => simp only [e f fun t ht => by simp [IOp.tmps, ht], es xs fun t ht => by simp only [IOp.tmps, List.mem_append]; simp [ht]]

/-- A plain operation's value has no number that its operands have not. -/
theorem plain_al {p : Nat → Bool} (hg : cx.GlOk) (hρ : alAll p ρ = true) {o : IOp} (ho : o.shut = true) (hp : o.plain = true) (he : evOp cx callee ρ s o = some (v, s')) : v.al p = true := by
  cases o <;> simp only [IOp.plain, Bool.false_eq_true] at hp <;> simp only [IOp.shut, Bool.and_eq_true] at ho <;> simp only [evOp] at he
  case mov x =>
    simp only [Option.map_eq_some_iff] at he; obtain ⟨a, h1, h2⟩ := he; cases h2
    exact ev_al hg hρ ho h1
  case pick c a b =>
    split at he
    · simp only [Option.map_eq_some_iff] at he; obtain ⟨x, h1, h2⟩ := he; cases h2
      split at h1
      · exact ev_al hg hρ ho.1.2 h1
      · exact ev_al hg hρ ho.2 h1
    · cases he
  case build z ps =>
    simp only [Option.map_eq_some_iff] at he; obtain ⟨a, h1, h2⟩ := he; cases h2
    simpa [AV.al] using fillA_al hg hρ ps z a ho.2 (alAll_false ho.1) h1
  case bslice z len ps =>
    simp only [Option.map_eq_some_iff] at he; obtain ⟨a, h1, h2⟩ := he; cases h2
    simpa [AV.al, Own.al] using alAll_strip (fillA_al hg hρ ps z a ho.2 (alAll_false ho.1) h1)
  case nilChk x =>
    split at he <;> first | (rename_i h1; cases he; exact ev_al hg hρ ho h1) | cases he
  case bin op x y =>
    simp only [Option.map_eq_some_iff, Option.bind_eq_some_iff] at he; obtain ⟨a, _, b, _, c, h3, h4⟩ := he; cases h4
    exact evBin_al h3
  case eqv neg q x y =>
    simp only [Option.map_eq_some_iff, Option.bind_eq_some_iff] at he; obtain ⟨a, _, b, _, c, h3, h4⟩ := he; cases h4
    rfl
  case un op x =>
    simp only [Option.map_eq_some_iff, Option.bind_eq_some_iff] at he; obtain ⟨a, ⟨b, _, h3⟩, h4⟩ := he; cases h4
    exact evUn_al h3
  case i2i k x => split at he <;> cases he; rfl
  case same x => split at he <;> cases he; rfl
  case i2s x => split at he <;> cases he; rfl
  case slcs x lo hi =>
    split at he
    · simp only [Option.map_eq_some_iff, Option.bind_eq_some_iff] at he; obtain ⟨_, _, _, _, c, h3, h4⟩ := he; cases h4
      rfl
    · cases he
  case slc k x lo hi mx =>
    simp only [Option.map_eq_some_iff, Option.bind_eq_some_iff] at he; obtain ⟨a, h1, _, _, _, _, _, _, c, h3, h4⟩ := he; cases h4
    exact sliceA_al (ev_al hg hρ ho.1.1.1 h1) h3
  case slca k n x lo hi mx =>
    simp only [Option.map_eq_some_iff, Option.bind_eq_some_iff] at he; obtain ⟨a, h1, _, _, _, _, _, _, c, h3, h4⟩ := he; cases h4
    exact sliceArr_al (ev_al hg hρ ho.1.1.1 h1) h3
  case faddr off x => split at he <;> first | (rename_i h1; cases he; simpa [AV.al] using ev_al hg hρ ho h1) | cases he
  case fld off n g x =>
    split at he
    · rename_i cs h1
      simp only [Option.map_eq_some_iff, Option.bind_eq_some_iff] at he; obtain ⟨a, ⟨b, h2, h3⟩, h4⟩ := he; cases h4
      exact ofCells_al (sub_al (by simpa [AV.al] using ev_al hg hρ ho h1) h2) h3
    · cases he
  case iaddr k arr x i =>
    simp only [Option.bind_eq_some_iff] at he; obtain ⟨a, h1, b, _, he⟩ := he
    have ha := ev_al hg hρ ho.1 h1
    split at he
    · simp only [Option.map_eq_some_iff] at he; obtain ⟨c, h2, h3⟩ := he; cases h3
      exact iaddrA_al ha h2
    · cases he
  case idx k g arr x i =>
    simp only [Option.bind_eq_some_iff] at he; obtain ⟨a, h1, b, _, he⟩ := he
    have ha := ev_al hg hρ ho.1 h1
    split at he
    · simp only [Option.map_eq_some_iff] at he; obtain ⟨c, h2, h3⟩ := he; cases h3
      exact idxA_al ha h2
    · cases he
  case mkif t x =>
    simp only [Option.map_eq_some_iff] at he; obtain ⟨a, h1, h2⟩ := he; cases h2
    simpa [AV.al] using al_strip (ev_al hg hρ ho h1)
  case mkfn f a b =>
    simp only [Option.bind_eq_some_iff, Option.map_eq_some_iff] at he; obtain ⟨x, h1, y, h2, h3⟩ := he; cases h3
    simp only [AV.al, Bool.and_eq_true]; exact ⟨evs_al hg hρ a ho.1 h1, evs_al hg hρ b ho.2 h2⟩
  case extr x i =>
    split at he
    · rename_i vs h1
      simp only [Option.map_eq_some_iff] at he; obtain ⟨a, h2, h3⟩ := he; cases h3
      exact alAll_get (by simpa [AV.al] using ev_al hg hρ ho h1) h2
    · cases he
  case lens x => split at he <;> cases he; rfl
  case lenv x => split at he <;> cases he <;> rfl
  case mn xs =>
    simp only [Option.bind_eq_some_iff] at he; obtain ⟨as, h1, he⟩ := he
    split at he
    · simp only [Option.map_eq_some_iff] at he; obtain ⟨a, h2, h3⟩ := he; cases h3
      have := evs_al hg hρ xs ho h1
      simp only [alAll, Bool.and_eq_true] at this
      exact fold2_al (fun _ _ _ h => min2_al h) _ _ _ this.1 h2
    · cases he
  case mx xs =>
    simp only [Option.bind_eq_some_iff] at he; obtain ⟨as, h1, he⟩ := he
    split at he
    · simp only [Option.map_eq_some_iff] at he; obtain ⟨a, h2, h3⟩ := he; cases h3
      have := evs_al hg hρ xs ho h1
      simp only [alAll, Bool.and_eq_true] at this
      exact fold2_al (fun _ _ _ h => max2_al h) _ _ _ this.1 h2
    · cases he

/-- What a step leaves alone may be put beside it. -/
theorem Step.beside {g g' h h' : Hp} (hI : Inv X σ h w) (hst : Step X σ g w σ' g' w') (hsub : ∀ id o, g id = some o → h id = some o) (hnew : ∀ id, g id = none → h id ≠ none → g' id = none) (hh : ∀ id, h' id = if (g' id).isSome then g' id else h id) :
    ∃ σ'', Step X σ h w σ'' h' w' ∧ Ext (dm g') σ' σ'' := by
  have hdg : ∀ id, dm g id = true → dm g' id = true := hst.dom
  let ex : Nat → Bool := fun id => (g id).isNone && (h id).isSome
  have hex1 : ∀ id, ex id = true → g id = none ∧ h id ≠ none ∧ g' id = none := fun id he => by
    simp only [ex, Bool.and_eq_true, Option.isNone_iff_eq_none, Option.isSome_iff_ne_none] at he
    exact ⟨he.1, he.2, hnew id he.1 he.2⟩
  have hex2 : ∀ id, dm h id = true → ex id = false → dm g id = true := fun id h1 h2 => by
    simp only [ex, dm] at h1 h2 ⊢
    rw [h1, Bool.and_true] at h2
    cases hg : g id with
    | none => rw [hg] at h2; cases h2
    | some o => rfl
  have hex3 : ∀ id, dm g' id = true → ex id = false := fun id h1 => by
    cases he : ex id with
    | false => rfl
    | true => have := (hex1 id he).2.2; simp [dm, this] at h1
  let σ'' : Gh := { G := σ'.G, φ := fun id => if ex id then σ.φ id else σ'.φ id, T := fun id => if ex id then σ.T id else σ'.T id }
  have hx1 : Ext (dm g') σ' σ'' := ⟨fun _ _ _ h => h, fun id hid => by simp only [σ'', hex3 id hid, Bool.false_eq_true, if_false], fun t ht e x hx => by simp only [σ'', hex3 t ht, Bool.false_eq_true, if_false]; exact hx⟩
  have hx2 : Ext (dm h) σ σ'' := by
    refine ⟨hst.ext.G, fun id hid => ?_, fun t ht e x hx => ?_⟩
    · simp only [σ'']
      cases he : ex id with
      | true => rfl
      | false => simp only [Bool.false_eq_true, if_false]; exact hst.ext.φ id (hex2 id hid he)
    · simp only [σ'']
      cases he : ex t with
      | true => exact hx
      | false => simp only [Bool.false_eq_true, if_false]; exact hst.ext.T t (hex2 t ht he) e x hx
  have hd1 : ∀ id, dm g' id = true → dm h' id = true := fun id h1 => by
    simp only [dm] at h1 ⊢; rw [hh id, if_pos h1]; exact h1
  have hd2 : ∀ id, dm h id = true → dm h' id = true := fun id h1 => by
    cases h2 : dm g' id with
    | true => exact hd1 id h2
    | false => simp only [dm] at h1 h2 ⊢; rw [hh id, h2]; exact h1
  -- an object of h' is one of g', or one that has been left alone
  have split : ∀ id o, h' id = some o → (g' id = some o) ∨ (ex id = true ∧ h id = some o) := fun id o ho => by
    rw [hh id] at ho
    cases h2 : (g' id).isSome with
    | true => rw [h2] at ho; exact .inl ho
    | false =>
      rw [h2] at ho
      simp only [Bool.false_eq_true, if_false] at ho
      refine .inr ⟨?_, ho⟩
      cases he : ex id with
      | true => rfl
      | false =>
        have := hdg id (hex2 id (dm_some ho) he)
        simp only [dm] at this; rw [h2] at this; cases this
  have alone : ∀ id o, ex id = true → h id = some o → ∀ i p, g i = some p → blk σ i p ≠ blk σ id o := fun id o he ho i p hp e => by
    have hne : i ≠ id := fun e => by subst e; rw [(hex1 i he).1] at hp; cases hp
    exact hI.inj i id p o (hsub i p hp) ho hne e
  have bl1 : ∀ id o, g' id = some o → blk σ'' id o = blk σ' id o := fun id o ho => blk_mono hx1 (dm_some ho) (hst.inv.obj id o ho).2.1
  have bl2 : ∀ id o, h id = some o → blk σ'' id o = blk σ id o := fun id o ho => blk_mono hx2 (dm_some ho) (hI.obj id o ho).2.1
  have mixed : ∀ i j oi oj, g' i = some oi → ex j = true → h j = some oj → blk σ'' i oi ≠ blk σ'' j oj := fun i j oi oj hi hj ho e => by
    rw [bl1 i oi hi, bl2 j oj ho] at e
    rcases hst.own i oi hi with ⟨k, p, hp, hq⟩ | hq
    · exact alone j oj hj ho k p hp (hq.trans e)
    · have := (hI.obj j oj ho).2.1.block; omega
  refine ⟨σ'', ⟨⟨hst.inv.below, fun n cs hn => ⟨(hst.inv.gls n cs hn).1, RC_mono hx1 cs n 0 (alAll_false (hst.inv.gls n cs hn).1) (hst.inv.gls n cs hn).2⟩, hst.inv.gh, fun id o ho => ?_, fun i j oi oj hi hj hne => ?_⟩, hx2, hd2, hst.size, fun b hb hn => hst.frame b hb fun id o ho => hn id o (hsub id o ho), fun id o ho => ?_, fun b q v hv => ?_⟩, hx1⟩
  · rcases split id o ho with h1 | ⟨he, h1⟩
    · obtain ⟨h2, h3, h4⟩ := hst.inv.obj id o h1
      refine ⟨AObj.al_mono hd1 h2, h3.mono hx1 (dm_some h1) h2 rfl (fun _ _ h => h) ?_, ?_⟩
      · simp only [σ'', hex3 id (dm_some h1), Bool.false_eq_true, if_false]
      · rw [bl1 id o h1]; exact h4
    · obtain ⟨h2, h3, h4⟩ := hI.obj id o h1
      refine ⟨AObj.al_mono hd2 h2, h3.mono hx2 (dm_some h1) h2 (hst.frame _ h3.block (alone id o he h1)) (fun q v hv => ?_) ?_, ?_⟩
      · rcases hst.gnew _ q v hv with h5 | ⟨i, p, hp, hq⟩ | h5
        · exact h5
        · exact absurd hq (alone id o he h1 i p hp)
        · have := h3.block; omega
      · simp only [σ'', he, if_true]
      · rw [bl2 id o h1]; exact h4
  · rcases split i oi hi with h1 | ⟨he1, h1⟩ <;> rcases split j oj hj with h2 | ⟨he2, h2⟩
    · rw [bl1 i oi h1, bl1 j oj h2]; exact hst.inv.inj i j oi oj h1 h2 hne
    · exact mixed i j oi oj h1 he2 h2
    · exact (mixed j i oj oi h2 he1 h1).symm
    · rw [bl2 i oi h1, bl2 j oj h2]; exact hI.inj i j oi oj h1 h2 hne
  · rcases split id o ho with h1 | ⟨he, h1⟩
    · rw [bl1 id o h1]
      rcases hst.own id o h1 with ⟨i, p, hp, hq⟩ | hq
      · exact .inl ⟨i, p, hsub i p hp, hq⟩
      · exact .inr hq
    · exact .inl ⟨id, o, h1, (bl2 id o h1).symm⟩
  · rcases hst.gnew b q v hv with h1 | ⟨i, p, hp, hq⟩ | h1
    · exact .inl h1
    · exact .inr (.inl ⟨i, p, hsub i p hp, hq⟩)
    · exact .inr (.inr h1)
end
end Fw
