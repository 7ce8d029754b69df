/- Regions that draw their order: one operation, whatever has been done already. -/
import Derived.Test.YtgpfcgpgbflpgaaFwV3
namespace Fw
open Go Go.RowKit

section
variable {P : Program} {X : Bs} {cx : Cx} {callee : Callee} {σ σ' : Gh} {ρ ρ' : Env} {a : Act} {w w' : World} {s s' : St} {v : AV}

def only (N : List Nat) (ρ : Env) : Env := ρ.mapIdx fun t x => if N.contains t then x else AV.undef
def onlyA (N : List Nat) (a : Act) : Act := { tmps := a.tmps.mapIdx fun t x => if N.contains t then x else undef, defers := [] }

theorem only_get (N : List Nat) (ρ : Env) (t : Nat) : (only N ρ).get t = if t ∈ N then ρ.get t else AV.undef := by
  simp only [only, Env.get, List.getD, List.getElem?_mapIdx]
  cases h : ρ[t]? with
  | none => simp
  | some x => simp [List.contains_iff_mem]

theorem only_env (N : List Nat) (h : EnvOk σ ρ a) : EnvOk σ (only N ρ) (onlyA N a) := by
  refine ⟨?_, rfl⟩
  have ht := h.tmps
  rw [Rs_iff] at ht ⊢
  refine ⟨by simpa [only, onlyA] using ht.1, fun j x hx => ?_⟩
  simp only [only, List.getElem?_mapIdx, Option.map_eq_some_iff] at hx
  obtain ⟨y, hy, rfl⟩ := hx
  obtain ⟨u, hu, hr⟩ := ht.2 j y hy
  have hu' : a.tmps[j]? = some u := by simpa using hu
  refine ⟨if N.contains j then u else undef, by simp [onlyA, hu'], ?_⟩
  split
  · exact hr
  · exact R_undef σ

theorem only_al {p : Nat → Bool} (N : List Nat) (h : ∀ t ∈ N, (ρ.get t).al p = true) : alAll p (only N ρ) = true := by
  rw [alAll_iff]
  intro x hx
  simp only [only, List.mem_mapIdx] at hx
  obtain ⟨i, hi, rfl⟩ := hx
  split
  · rename_i hc
    have := h i (by simpa using hc)
    simpa [Env.get, hi] using this
  · rfl

theorem only_eval (N : List Nat) (a : Act) {x : Operand} (h : ∀ t, x = .tmp t → t ∈ N) : (onlyA N a).eval x = a.eval x := by
  cases x with
  | tmp t =>
    have := h t rfl
    simp only [Act.eval, onlyA, Array.getD_eq_getD_getElem?, Array.getElem?_mapIdx]
    cases a.tmps[t]? <;> simp [this]
  | _ => rfl

theorem only_exec (N : List Nat) (a : Act) (ob : Oper) (hs : ∀ cs b, ob.op ≠ .select cs b) (h : ∀ t ∈ opTmps ob, t ∈ N) : execOp (onlyA N a).eval ob = execOp a.eval ob :=
  execOp_congr ob hs fun x hx => only_eval N a fun t ht => h t (by
    subst ht
    simp only [opTmps, List.mem_filterMap]
    exact ⟨.tmp t, by simpa using hx, rfl⟩)

theorem only_ev (N : List Nat) {io : IOp} {S : St} (h : ∀ t ∈ io.tmps, t ∈ N) (he : ∀ t ∈ N, ρ.get t = ρ'.get t) : evOp cx callee (only N ρ) S io = evOp cx callee ρ' S io :=
  evOp_congr fun t ht => by rw [only_get, if_pos (h t ht)]; exact he t (h t ht)

/-- A plain operation, in any part of the state. -/
theorem plain_left {g : Hp} (hGl : cx.GlOk) (hG : Gls cx σ) (hI : Inv X σ g w) (hE : EnvOk σ ρ a) (hal : alAll (dm g) ρ = true) {ob : Oper} {io : IOp} (hcO : cOp P ob.op = some io) (hsh : io.shut = true) (hp : io.plain = true) (he : evOp cx callee ρ s io = some (v, s')) :
    LeftG X σ g w v g ((execOp a.eval ob).run P w) := by
  by_cases hb : ∃ z n ps, io = .bslice z n ps
  · obtain ⟨z, len, ips, rfl⟩ := hb
    have hcl := cls_eq hcO
    obtain ⟨d, o, ty, ps, af, gd⟩ := ob
    dsimp only at hcO hcl
    cases o <;> simp only [clsI, clsO, Nat.reduceEqDiff] at hcl
    rename_i t len' parts
    simp only [cOp] at hcO
    split at hcO
    · rename_i e ht
      simp only [Option.bind_eq_some_iff] at hcO; obtain ⟨n, h1, z', h2, h3⟩ := hcO
      split at h3
      · cases h3
      · rename_i hlim
        simp only [Option.map_eq_some_iff] at h3; obtain ⟨ips', h4, h5⟩ := h3; cases h5
        simp only [evOp, Option.map_eq_some_iff] at he; obtain ⟨cs, h5, h6⟩ := he; cases h6
        simp only [IOp.shut, Bool.and_eq_true] at hsh
        exact bslice_left hI hG hE ht h1 h2 hlim h4 h5 (fillA_al hGl hal ips _ _ hsh.2 (alAll_false hsh.1) h5)
    · cases hcO
  · obtain ⟨u, h1, h2⟩ := plain_R hG hE hcO hp (fun z n ps e => hb ⟨z, n, ps, e⟩) he w
    exact LeftG.same hI h1 h2

/-- The stretch of blocks that a deed speaks of. -/
def Rec.zone (r : Rec) (j : Nat) : Prop := match r.d with
  | none => False
  | some (.lay id) => j = id
  | some (.rd id) => j = id
  | some (.wr id) => j = id
  | some .rdAll => j < r.s'.next
  | some .wrAll => j < r.s'.next

theorem cOp_noselect {o : Op} {io : IOp} (h : cOp P o = some io) : ∀ cs b, o ≠ .select cs b := by
  rintro cs b rfl; simp [cOp] at h

/-- One operation of the text, in a state of which its own part is as it was in the text's order. -/
theorem draw_left {g g' : Hp} (hX : cx.gl = X.gl) (hGl : cx.GlOk) (hk : CalleeOk callee) (hc : CallOk P X callee) {ob : Oper} {io : IOp} {r : Rec} (hcO : cOp P ob.op = some io) (hsh : io.shut = true) (hf : RecFacts r) (hd : evDeed cx callee r.ρ r.s io = some (r.v, r.s', r.d))
    (hI : Inv X σ g w) (hal : alAll (dm g) ρ = true) (hE : EnvOk σ ρ a) {N : List Nat} (hN : ∀ t ∈ N, ρ.get t = r.ρ.get t) (hN1 : ∀ t ∈ io.tmps, t ∈ N) (hN2 : ∀ t ∈ opTmps ob, t ∈ N)
    (hz1 : ∀ j, r.zone j → g j = r.s.get j) (hz2 : ∀ j, r.zone j → g' j = r.s'.get j) (hz3 : ∀ j, ¬ r.touches j → g' j = g j)
    {K : Act → World → Prop} {Q : Exit → Act → World → Prop} (hK : ∀ σ' u w', Step X σ g w σ' g' w' → R σ' r.v u → r.v.al (dm g') = true → K (a.put ob.dst u) w') : ob.wp P a w K Q := by
  have hG := hI.Gls hX
  have hev : ∀ S, evOp cx callee r.ρ S io = evOp cx callee ρ S io := fun S => evOp_congr fun t ht => (hN t (hN1 t ht)).symm
  unfold Oper.wp
  unfold evDeed at hd
  split at hd
  · -- plain
    rename_i hp
    simp only [Option.map_eq_some_iff, Prod.mk.injEq] at hd; obtain ⟨⟨v, t⟩, h1, h2, h3, h4⟩ := hd
    rw [hev] at h1
    dsimp only at h2; subst h2
    have hgg : g' = g := funext fun j => hz3 j (by simp [Rec.touches, ← h4])
    subst hgg
    exact (plain_left hGl hG hI hE hal hcO hsh hp h1).wp fun σ' u w' hst hR => hK σ' u w' hst hR (AV.al_mono hst.dom _ (plain_al hGl hal hsh hp h1))
  · rename_i hnp
    have hcl := cls_eq hcO
    split at hd
    · -- a block is laid
      rename_i hl
      simp only [Option.map_eq_some_iff, Prod.mk.injEq] at hd; obtain ⟨⟨v, t⟩, h1, h2, h3, h4⟩ := hd
      dsimp only at h2 h3; subst h2
      obtain ⟨hv, _⟩ := lays_get hl h1
      have hzn : ∀ j, r.zone j ↔ j = r.s.next := fun j => by simp [Rec.zone, ← h4]
      have htn : ∀ j, r.touches j ↔ j = r.s.next := fun j => by simp [Rec.touches, ← h4]
      have hgn : g r.s.next = none := by rw [hz1 _ ((hzn _).2 rfl)]; exact next_none hf.ok
      obtain ⟨d, o, ty, ps, af, gd⟩ := ob
      dsimp only at hcO hcl
      cases io <;> simp only [IOp.lays, Bool.false_eq_true] at hl
      case alloc t0 z =>
        cases o <;> simp only [clsI, clsO, Nat.reduceEqDiff] at hcl
        rename_i tt
        simp only [cOp, Option.map_eq_some_iff] at hcO; obtain ⟨z', h5, h6⟩ := hcO; cases h6
        simp only [evOp, Option.some.injEq, Prod.mk.injEq] at h1; obtain ⟨h7, h8⟩ := h1
        have hg' : ∀ j, g' j = if j = r.s.next then some (.cells (some t0) z'.cells) else g j := fun j => by
          by_cases hj : j = r.s.next
          · rw [hz2 j ((hzn j).2 hj), if_pos hj, ← h3, ← h8, get_new, if_pos hj]
          · rw [hz3 j (fun h => hj ((htn j).1 h)), if_neg hj]
        rw [← h7] at hK
        exact (alloc_leftG hI hgn hg' h5 hsh).wp fun σ' u w' hst hR => hK σ' u w' hst hR (by simp [AV.al, dm, hg'])
      case box t0 x =>
        cases o <;> simp only [clsI, clsO, Nat.reduceEqDiff] at hcl
        rename_i tt x0
        simp only [cOp, Option.map_eq_some_iff] at hcO; obtain ⟨ix, h5, h6⟩ := hcO; cases h6
        rw [hev] at h1
        simp only [evOp, Option.map_eq_some_iff, Prod.mk.injEq] at h1; obtain ⟨b, h9, h7, h8⟩ := h1
        have hg' : ∀ j, g' j = if j = r.s.next then some (.cells (some t0) b.cells) else g j := fun j => by
          by_cases hj : j = r.s.next
          · rw [hz2 j ((hzn j).2 hj), if_pos hj, ← h3, ← h8, get_new, if_pos hj]
          · rw [hz3 j (fun h => hj ((htn j).1 h)), if_neg hj]
        rw [← h7] at hK
        exact (box_leftG hI hgn hg' (ev_R hG hE h5 h9) (ev_al hGl hal hsh h9)).wp fun σ' u w' hst hR => hK σ' u w' hst hR (by simp [AV.al, dm, hg'])
    · rename_i hnl
      split at hd
      · -- load
        rename_i gg n x
        simp only [Option.map_eq_some_iff, Prod.mk.injEq] at hd; obtain ⟨⟨v, t⟩, h1, h2, h3, h4⟩ := hd
        dsimp only at h2 h3; subst h2
        rw [hev] at h1
        simp only [evOp, Option.map_eq_some_iff, Option.bind_eq_some_iff, Prod.mk.injEq] at h1; obtain ⟨b, ⟨y, h5, h6⟩, h7, h8⟩ := h1
        subst h7
        have hxe : x.ev cx r.ρ = some y := by rw [← h5]; exact ev_congr fun t ht => (hN t (hN1 t ht)).symm
        have hgg : g' = g := funext fun j => hz3 j (by unfold Rec.touches; rw [← h4, hxe]; cases y <;> simp)
        subst hgg
        have hh : ∀ id off, y = .ptr id off → g' id = r.s.get id := fun id off e => hz1 id (by subst e; simp [Rec.zone, ← h4, hxe])
        obtain ⟨d, o, ty, ps, af, gd⟩ := ob
        dsimp only at hcO hcl
        cases o <;> simp only [clsI, clsO, Nat.reduceEqDiff] at hcl
        rename_i t0 x0
        simp only [cOp, Option.bind_eq_some_iff, Option.map_eq_some_iff] at hcO; obtain ⟨ix, h9, g0, h10, n0, h11, h12⟩ := hcO; cases h12
        refine (load_leftG hI hh h10 h11 (ev_R hG hE h9 h5) h6).wp fun σ' u w' hst hR => hK σ' u w' hst hR ?_
        -- what is read leads to what the state has
        have hya := ev_al hGl hal hsh h5
        unfold loadA at h6
        split at h6
        · rename_i id off
          split at h6
          · rename_i ty cs hcs
            simp only [Option.bind_eq_some_iff] at h6; obtain ⟨ds, h13, h14⟩ := h6
            have hobj := (hI.obj id (.cells ty cs) ((hh id off rfl).trans hcs)).1
            exact ofCells_al (sub_al hobj h13) h14
          · cases h6
        · rename_i cs off
          simp only [Option.bind_eq_some_iff] at h6; obtain ⟨ds, h13, h14⟩ := h6
          exact ofCells_al (sub_al (by simpa [AV.al] using hya) h13) h14
        · cases h6
      · -- store
        rename_i n x y
        simp only [Option.map_eq_some_iff, Prod.mk.injEq] at hd; obtain ⟨⟨v, t⟩, h1, h2, h3, h4⟩ := hd
        dsimp only at h2 h3; subst h2
        rw [hev] at h1
        simp only [evOp, Option.map_eq_some_iff, Option.bind_eq_some_iff, Prod.mk.injEq] at h1; obtain ⟨xa, h5, ya, h6, t', h7, h8, h9⟩ := h1
        subst h9
        rw [← h8] at hK
        have hxe : x.ev cx r.ρ = some xa := by rw [← h5]; exact ev_congr fun t ht => (hN t (hN1 t (by simp [IOp.tmps, ht]))).symm
        rw [hxe] at h4
        have hh : ∀ id off, xa = .ptr id off → g id = r.s.get id ∧ ∀ j, g' j = if j = id then t'.get id else g j := fun id off e => by
          subst e
          dsimp only at h4
          have hzn : ∀ j, r.zone j ↔ j = id := fun j => by simp [Rec.zone, ← h4]
          have htn : ∀ j, r.touches j ↔ j = id := fun j => by simp [Rec.touches, ← h4]
          refine ⟨hz1 id ((hzn id).2 rfl), fun j => ?_⟩
          by_cases hj : j = id
          · rw [hz2 j ((hzn j).2 hj), if_pos hj, ← h3, hj]
          · rw [hz3 j (fun h => hj ((htn j).1 h)), if_neg hj]
        obtain ⟨d, o, ty, ps, af, gd⟩ := ob
        dsimp only at hcO hcl
        cases o <;> simp only [clsI, clsO, Nat.reduceEqDiff] at hcl
        rename_i t0 x0 y0
        simp only [cOp, Option.bind_eq_some_iff, Option.map_eq_some_iff] at hcO; obtain ⟨ix, h9, iy, h10, n0, h11, h12⟩ := hcO; cases h12
        simp only [IOp.shut, Bool.and_eq_true] at hsh
        exact (store_leftG (g' := g') hf.ok hI hh h11 (ev_R hG hE h9 h5) (ev_R hG hE h10 h6) (ev_al hGl hal hsh.2 h6) h7).wp fun σ' u w' hst hR => hK σ' u w' hst hR rfl
      · -- whatever
        simp only [Option.map_eq_some_iff] at hd; obtain ⟨⟨v, t⟩, h1, h2⟩ := hd
        have hlow : Whole { r.s with low := r.s.next } := hf.ok.low _
        have hkept := evOp_kept (s := { r.s with low := r.s.next }) hGl hk hlow hf.al hsh h1
        have hfacts : v = r.v ∧ t.get = r.s'.get ∧ t.next = r.s'.next ∧ (∀ j, r.zone j ↔ j < r.s'.next) ∧ (∀ j, r.touches j → j < r.s'.next) := by
          split at h2
          · rename_i hq
            simp only [Prod.mk.injEq] at h2; obtain ⟨h3, h4, h5⟩ := h2
            refine ⟨h3, ?_, by rw [← h4]; exact hq.1, fun j => by simp [Rec.zone, ← h5], fun j hj => by simp [Rec.touches, ← h5] at hj⟩
            rw [← h4]
            funext j
            by_cases hj : j < r.s.next
            · exact hkept.1.same j hj (by rw [hq.2]; exact hj)
            · rw [whole_none hkept.1.whole (by rw [hq.1]; omega), whole_none hf.ok (by omega)]
          · simp only [Prod.mk.injEq] at h2; obtain ⟨h3, h4, h5⟩ := h2
            refine ⟨h3, by rw [← h4]; rfl, by rw [← h4], fun j => by simp [Rec.zone, ← h5], fun j hj => by simpa [Rec.touches, ← h5] using hj⟩
        obtain ⟨hvv, hget, hnext, hzn, htn⟩ := hfacts
        rw [← hvv] at hK
        have hsn := hf.kept.next
        have hsub : ∀ id o, r.s.get id = some o → g id = some o := fun id o ho => by
          have := hf.ok.lt ho
          rw [hz1 id ((hzn id).2 (by omega))]; exact ho
        have hIr : Inv X σ r.s.get w := hI.part hsub fun id o ho => by rw [dm_get hf.ok]; exact hf.ok.shut id o ho
        have hEr : EnvOk σ (only N ρ) (onlyA N a) := only_env N hE
        have halr : alAll (below r.s.next) (only N ρ) = true := only_al N fun t ht => by rw [hN t ht]; exact Env.get_al hf.al t
        rw [← only_ev (ρ := ρ) N hN1 hN] at h1
        rw [← only_exec N a ob (cOp_noselect hcO) hN2]
        refine op_sound (s := { r.s with low := r.s.next }) hX hGl hc hlow halr hIr hEr hcO hsh h1 fun σ1 u w1 hst hR => ?_
        have hst' : Step X σ r.s.get w σ1 r.s'.get w1 := hget ▸ hst
        have hval : v.al (below r.s'.next) = true := by rw [← hnext]; exact hkept.2
        obtain ⟨σ2, hst2, hx2⟩ := Step.beside (h := g) (h' := g') hI hst' hsub (fun id h1 h2 => by
          cases hq : r.s'.get id with
          | none => rfl
          | some o =>
            have := hf.kept.whole.lt hq
            exact absurd ((hz1 id ((hzn id).2 this)).trans h1) h2) (fun id => by
          by_cases hid : id < r.s'.next
          · rw [hz2 id ((hzn id).2 hid)]
            have := hf.kept.whole.full id
            rw [below_iff.2 hid] at this
            rw [if_pos this]
          · rw [hz3 id (fun h => hid (htn id h)), whole_none hf.kept.whole (by omega)]; rfl)
        have hdm : ∀ id, below r.s'.next id = true → dm g' id = true := fun id hid => by
          have h3 := hz2 id ((hzn id).2 (below_iff.1 hid))
          have := hf.kept.whole.full id
          rw [hid] at this
          simp only [dm, h3]; exact this
        refine hK σ2 u w1 hst2 (R_mono hx2 v u ?_ hR) (AV.al_mono hdm _ hval)
        rw [dm_get hf.kept.whole]; exact hval
end
end Fw
