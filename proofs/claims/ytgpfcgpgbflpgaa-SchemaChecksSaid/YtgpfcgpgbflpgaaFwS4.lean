/- Append. -/
import Derived.Test.YtgpfcgpgbflpgaaFwS3
namespace Fw
open Go Go.RowKit

section
variable {P : Program} {X : Bs} {cx : Cx} {callee : Callee} {σ : Gh} {ρ : Env} {a : Act} {w w' : World} {s s' : St} {v : AV}

structure AppT (P : Program) (ts : Array TypeId) (e : TypeId) (k by' : Nat) : Prop where
  t1 : ∃ t, ts[0]? = some t ∧ P.underlying t = some (.slice e)
  t2 : ∃ t d, ts[1]? = some t ∧ P.underlying t = some d ∧ ∀ i, d ≠ .int i
  sz : tsz P e = some k
  bys : tby P e = some by'
  z : ∃ z, tzero P e = some z
  k0 : k ≠ 0
  b0 : by' ≠ 0

theorem append_fit {ts : Array TypeId} {e ty : TypeId} {k by' m sLen sCap : Nat} {base : Option Addr} {uy : Value} {news : Array Value} (h : AppT P ts e k by') (hl : (Builtin.lenOf uy).run P w = .ok m w)
    (hf : (Builtin.firstCells k m uy).run P w = .ok news w) (hroom : sLen + m ≤ sCap) :
    (Builtin.append_ ts ty #[.slice base sLen sCap, uy]).run P w = ((match base with | some a => storeCells (a.add (sLen * k)) news.toList | none => pure () : Sem Unit).run P w).andThen fun _ w' => .ok (.slice base (sLen + m) sCap) w' := by
  obtain ⟨t, h1, h2⟩ := h.t1
  obtain ⟨t', d, h3, h4, h5⟩ := h.t2
  cases base <;> simp [Builtin.append_, h1, run_und h2, h3, run_und h4, run_tsz h.sz, hl, hroom, hf]

theorem append_more {ts : Array TypeId} {e ty : TypeId} {k by' m sLen sCap : Nat} {base : Option Addr} {uy zu : Value} {olds news : Array Value} (h : AppT P ts e k by') (hl : (Builtin.lenOf uy).run P w = .ok m w)
    (hz : ∀ w : World, (zeroValue e).run P w = .ok zu w)
    (hfo : (Builtin.firstCells k sLen (.slice base sLen sCap)).run P w.drew = .ok olds w.drew) (hf : (Builtin.firstCells k m uy).run P w.drew = .ok news w.drew) (hroom : sCap < sLen + m) (hb : (sLen + m) * by' ≤ room) :
    (Builtin.append_ ts ty #[.slice base sLen sCap, uy]).run P w = .ok (.slice (some ⟨w.heap.size, 0, none⟩) (sLen + m) (grownCap w (sLen + m) sCap e))
      (w.drew.alloc (.cells (olds ++ news ++ Builtin.zeroCells zu.cells (grownCap w (sLen + m) sCap e - (sLen + m))) e)) := by
  obtain ⟨t, h1, h2⟩ := h.t1
  obtain ⟨t', d, h3, h4, h5⟩ := h.t2
  obtain ⟨i, hi, hib⟩ : ∃ i, P.info? e = some i ∧ i.bytes = by' := by
    have := h.bys; simp only [tby, Option.map_eq_some_iff] at this; exact this
  have hfit := growslice_fits (bytes := by') hroom hb
  have h48 : ¬ (281474976710656 < Builtin.nextslicecap (sLen + m) sCap * i.bytes) := by rw [hib]; omega
  have hbz : i.bytes ≠ 0 := by rw [hib]; exact h.b0
  have hn : ¬ (sLen + m ≤ sCap) := by omega
  simp [Builtin.append_, h1, run_und h2, h3, run_und h4, run_tsz h.sz, hl, hn, typeInfo, hi, hbz, h48, Question.forced, hf, hfo, hz, newRow, grownCap]


theorem zeroRun {t : TypeId} {z : AV} (h : tzero P t = some z) : ∃ u i, P.info? t = some i ∧ (∀ w : World, (zeroValue t).run P w = .ok u w) ∧ u.cells.size = i.size := by
  simp only [tzero, Option.bind_eq_some_iff] at h
  obtain ⟨i, h1, u, h2, b, h3, h4⟩ := h
  split at h4 <;> cases h4
  rename_i hq
  exact ⟨u, i, h1, fun w => by simp [zeroValue, typeInfo, h1, h2], hq.2⟩

/-- A new row is laid, and t owns it. -/
theorem grow_left (hI : Inv X σ s.get w) {t e' : Nat} {k by' m n sCap : Nat} {ts : Array TypeId} {e ty : TypeId} {base : Option Addr} {uy : Value} {old new : List AV} {vo vn : List Value} (h : AppT P ts e k by')
    (hg : ∀ j, s'.get j = if j = t then some (.tok e e' k) else s.get j) (hold : s.get t = none ∨ ∃ t0 e0 z0, s.get t = some (.tok t0 e0 z0)) (hT : ∀ e'', e' ≤ e'' → σ.T t e'' = none)
    (halo : alAll (dm s.get) old = true) (haln : alAll (dm s.get) new = true)
    (hlo : old.length = n * k) (hln : new.length = m * k) (hRo : Rs σ old vo) (hRn : Rs σ new vn)
    (hl : (Builtin.lenOf uy).run P w = .ok m w)
    (hfo : (Builtin.firstCells k n (.slice base n sCap)).run P w.drew = .ok vo.toArray w.drew) (hf : (Builtin.firstCells k m uy).run P w.drew = .ok vn.toArray w.drew) (hroom : sCap < n + m) (hb : (n + m) * by' ≤ room) :
    Left X σ s w (.slice (old ++ new) (n + m) (.tok t e')) s' ((do pure (Next.value (← Builtin.append_ ts ty #[.slice base n sCap, uy])) : Sem Next).run P w) := by
  obtain ⟨z, hz⟩ := h.z
  obtain ⟨zu, i, hi, hzr, hzs⟩ := zeroRun hz
  have hik : i.size = k := by have := h.sz; simp [tsz, hi] at this; exact this
  have hrun := append_more (ty := ty) h hl hzr hfo hf hroom hb
  have hlvo := Rs_length _ _ hRo
  have hlvn := Rs_length _ _ hRn
  have hge := grownCap_ge w (n + m) sCap e
  have hdr : Step X σ s.get w σ s.get w.drew := Step.heap_same hI hI.below.drew rfl
  have hst := Step.newTok (g' := s'.get) (slack := grownCap w (n + m) sCap e - (n + m)) hdr.inv (vo.toArray ++ vn.toArray ++ Builtin.zeroCells zu.cells (grownCap w (n + m) sCap e - (n + m))) e hg hold ((n + m) * k) hT
    (by simp only [Array.size_append, List.size_toArray, size_zeroCells, hzs, hik, Nat.add_mul]; omega)
  refine ⟨_, _, _, hdr.trans hst, ?_, .inl (run_nv hrun)⟩
  simp only [R]
  refine .inl ⟨w.heap.size, 0, grownCap w (n + m) sCap e, rfl, hge, ⟨grownCap w (n + m) sCap e - (n + m), k, ?_, by omega⟩, ?_⟩
  · simp only [Gh.tok, List.length_append, hlo, hln, ← Nat.add_mul, Nat.zero_add, and_self, if_true]
    rfl
  · have hR : Rs σ (old ++ new) (vo ++ vn) := Rs_append hRo hRn
    have hal : alAll (dm s.get) (old ++ new) = true := by rw [alAll_append, halo, haln]; rfl
    refine RC_of (vs := vo ++ vn) (Rs_mono hst.ext _ _ hal hR) fun j v hv => ?_
    have hj : j < vo.length + vn.length := by have := (List.getElem?_eq_some_iff.1 hv).1; simpa using this
    refine .inr ⟨rfl, by omega, by rw [Nat.add_mul]; omega, ?_⟩
    rw [Nat.zero_add, Array.getElem?_append_left (by simp; omega)]
    simpa using hv

theorem app_left (hw : Whole s) (hI : Inv X σ s.get w) {k by' : Nat} {ts : Array TypeId} {e ty : TypeId} {x y : AV} {ux uy : Value} (h : AppT P ts e k by') (hx : R σ x ux) (hy : R σ y uy) (hax : x.al (below s.next) = true) (hay : y.al (below s.next) = true)
    (he : appendA s e k by' x y = some (v, s')) : Left X σ s w v s' ((do pure (Next.value (← Builtin.append_ ts ty #[ux, uy])) : Sem Next).run P w) := by
  unfold appendA at he
  split at he
  case h_2 => cases he
  rename_i new m hnew hm
  split at he
  · cases he
  rename_i hone
  have hone' : new.all AV.one = true := by simpa using hone
  obtain ⟨hl, hln, vn, hRn, hf⟩ := cellsOf_R (P := P) hI hy hnew hm
  have haln : alAll (below s.next) new = true := cellsOf_al hw hay hnew
  have hlvn := Rs_length _ _ hRn
  have hfm : ∀ w2 : World, w2.heap = w.heap → (Builtin.firstCells k m uy).run P w2 = .ok vn.toArray w2 := fun w2 h2 => by
    rw [hf w2 m h2 (Nat.le_refl _), List.take_of_length_le (by omega)]
  -- nothing to be laid
  have none_left : ∀ {base : Option Addr} {n sCap : Nat} {x' : AV}, ux = .slice base n sCap → n ≤ sCap → m = 0 → R σ x' ux → Left X σ s w x' s ((do pure (Next.value (← Builtin.append_ ts ty #[ux, uy])) : Sem Next).run P w) := by
    intro base n sCap x' hu hn hm0 hR
    subst hu
    have hvn : vn = [] := List.eq_nil_of_length_eq_zero (by rw [hlvn, hln, hm0]; simp)
    subst hvn
    refine Left.same hI (run_nv (u := .slice base n sCap) ?_) hR
    rw [append_fit h hl (hfm w rfl) (by omega)]
    cases base <;> simp [storeCells, hm0]
  -- a token that is new
  have fresh : ∀ {old : List AV} {vo : List Value} {base : Option Addr} {n sCap : Nat}, ux = .slice base n sCap → alAll (below s.next) old = true → old.length = n * k → Rs σ old vo →
      (∀ w2 : World, w2.heap = w.heap → (Builtin.firstCells k n (.slice base n sCap)).run P w2 = .ok vo.toArray w2) → sCap < n + m → (n + m) * by' ≤ room →
      Left X σ s w (.slice (old ++ new.map AV.strip) (n + m) (.tok s.next (n + m))) (s.new (.tok e (n + m) k)) ((do pure (Next.value (← Builtin.append_ ts ty #[ux, uy])) : Sem Next).run P w) := by
    intro old vo base n sCap hu hao hlo hRo hfo hroom hb
    subst hu
    have hcl := Step.clear hI (next_none hw)
    have hxt : Ext (below s.next) σ (σ.clear s.next) := by rw [← dm_get hw]; exact hcl.ext
    obtain ⟨u, w', σ', h1, h2, h3⟩ := grow_left (s' := s.new (.tok e (n + m) k)) (ty := ty) hcl.inv h (new_get s _) (.inl (next_none hw)) (fun e'' _ => by simp [Gh.clear]) (by rw [dm_get hw]; exact hao) (by rw [dm_get hw]; exact alAll_strip haln) hlo (by simpa using hln)
      (Rs_mono hxt _ _ hao hRo) (Rs_strip (Rs_mono hxt _ _ haln hRn)) hl (hfo w.drew rfl) (hfm w.drew rfl) hroom hb
    exact ⟨u, w', σ', hcl.trans h1, h2, h3⟩
  dsimp only at he
  split at he
  · simp only [R] at hx
    split at he
    · rename_i hm0; cases he; exact none_left hx (Nat.le_refl _) hm0 (by simpa only [R] using hx)
    · rename_i hm0
      split at he <;> cases he
      rename_i hb
      have := fresh (old := []) (vo := []) hx rfl (by simp) (by simp [Rs]) (fun w2 _ => by simp [Builtin.firstCells]) (by omega) (by simpa using hb)
      simpa using this
  · rename_i cs n own
    split at he
    case isFalse => cases he
    rename_i hcl
    have hx0 := hx
    simp only [R] at hx
    simp only [AV.al, Bool.and_eq_true] at hax
    rcases hx with ⟨b, o, cap, hu, hnc, hown, hRC⟩ | ⟨rfl, rfl, hno, ad, hu⟩
    case inr =>
      split at he
      · rename_i hm0; cases he; exact none_left hu (Nat.le_refl _) hm0 hx0
      · rename_i hm0
        split at he
        case isFalse => cases he
        rename_i hb
        split at he
        · cases he
          exact fresh (old := []) (vo := []) hu rfl (by simp) (by simp [Rs]) (fun w2 _ => by simp [Builtin.firstCells, loadCells, loadCellsFrom]) (by omega) hb
        · rename_i t e0; exact absurd rfl (hno t e0)
        · cases he
    obtain ⟨vo, hRo, hvo⟩ := cells_RC hI.gh _ _ _ hRC
    have hlvo := Rs_length _ _ hRo
    have hfo : ∀ w2 : World, w2.heap = w.heap → (Builtin.firstCells k n (.slice (some ⟨b, o, none⟩) n cap)).run P w2 = .ok vo.toArray w2 := fun w2 h2 =>
      run_firstCells_some w2 k n ⟨b, o, none⟩ n cap vo (by omega) fun j v hv => by rw [addr_add, cell_same (w := w) (by rw [h2])]; exact hvo j v hv
    split at he
    · rename_i hm0; cases he; exact none_left hu hnc hm0 hx0
    rename_i hm0
    split at he
    case isFalse => cases he
    rename_i hb
    split at he
    · -- full
      cases he
      simp only [OwnOk] at hown
      exact fresh hu hax.2 hcl hRo hfo (by omega) hb
    · -- owned
      rename_i t e0
      split at he
      case h_2 => cases he
      rename_i ty1 e1 z1 htok
      split at he
      case isFalse => cases he
      rename_i heq
      obtain ⟨hty1, he1, hz1⟩ := heq
      have hty1' := hty1.symm
      subst hty1'
      have hz1' := hz1.symm
      have he1' := he1.symm
      subst hz1'; subst he1'
      cases he
      obtain ⟨slack, z2, hT, hcap⟩ := hown
      obtain ⟨_, ⟨b', eo', slack', hT', ⟨c, fr, hblk, hsz, hfr⟩, hnoG, hlater⟩, _⟩ := hI.obj t _ htok
      have hTT := hT.symm.trans hT'
      simp only [Option.some.injEq, Prod.mk.injEq] at hTT
      obtain ⟨hT1, hT2, hT3, hT4⟩ := hTT
      have hT4' := hT4.symm
      subst hT1 hT2 hT3 hT4'

      by_cases hroom : n + m ≤ cap
      · -- in place
        have hml : (m + (slack - m)) * k = slack * k := by congr 1; omega
        rw [Nat.add_mul] at hml
        have hst := run_storeCells_free P b (o + cs.length) e fr vn 0 c w hblk (fun j h1 _ => by omega) (by omega) (Rs_one hRn hone')
        simp only [Nat.add_zero] at hst
        have hsame : ∀ j, j < o + cs.length → (c.toList.take (o + cs.length) ++ vn ++ c.toList.drop (o + cs.length + vn.length)).toArray[j]? = c[j]? := fun j hj => by
          simp only [List.getElem?_toArray]
          rw [List.append_assoc, List.getElem?_append_left (by simp; omega), List.getElem?_take, if_pos hj]
          simp
        have hnew' : ∀ (j : Nat) (v : Value), vn[j]? = some v → (c.toList.take (o + cs.length) ++ vn ++ c.toList.drop (o + cs.length + vn.length)).toArray[o + cs.length + j]? = some v := fun j v hv => by
          have hj := (List.getElem?_eq_some_iff.1 hv).1
          simp only [List.getElem?_toArray]
          rw [List.append_assoc, List.getElem?_append_right (by simp; omega), List.getElem?_append_left (by simp; omega)]
          rw [← hv]; congr 1; simp; omega
        have hstep := Step.growTok (g' := (s.set t (.tok e (e0 + m) k)).get) (slack' := slack - m) hI htok (fun j => get_set' hw htok j) hT (by omega) hblk (o + cs.length + m * k) hsame (by simp; omega) (by omega)
        refine ⟨.slice (some ⟨b, o, none⟩) (n + m) cap, _, _, hstep, ?_, .inl (run_nv ?_)⟩
        · simp only [R]
          refine .inl ⟨b, o, cap, rfl, hroom, ⟨slack - m, k, ?_, by omega⟩, RC_append (RC_mono hstep.ext _ _ _ (by rw [dm_get hw]; exact hax.2) hRC) (RC_of (Rs_mono hstep.ext _ _ (by rw [dm_get hw]; exact alAll_strip haln) (Rs_strip hRn)) fun j v hv => ?_)⟩
          · simp only [Gh.tok, List.length_append, List.length_map, hln, and_self, if_true, Nat.add_assoc]
          · have hj := (List.getElem?_eq_some_iff.1 hv).1
            exact .inr ⟨rfl, by omega, by omega, hnew' j v hv⟩
        · rw [hu, append_fit h hl (hfm w rfl) hroom]
          simp only [addr_add, ← hcl, List.toList_toArray, hst, Result.andThen_ok]
      · -- a new row for the same token
        rw [hu]
        exact grow_left (old := cs) (new := new.map AV.strip) (s' := s.set t (.tok e (e0 + m) k)) (ty := ty) hI h (fun j => get_set' hw htok j) (.inr ⟨_, _, _, htok⟩) (fun e'' he'' => hlater e'' (by omega)) (by rw [dm_get hw]; exact hax.2) (by rw [dm_get hw]; exact alAll_strip haln) hcl (by simpa using hln) hRo (Rs_strip hRn) hl (hfo w.drew rfl) (hfm w.drew rfl) (by omega) hb
    · cases he
  · rename_i id off n cap
    have hx0 := hx
    simp only [R] at hx; obtain ⟨c, hu, hnc, hcap⟩ := hx
    split at he
    · rename_i hm0; cases he; exact none_left hu hnc hm0 hx0
    · rename_i hm0
      split at he
      case h_2 => cases he
      rename_i c' old hold
      split at he
      case isFalse => cases he
      rename_i hcn
      split at he <;> cases he
      rename_i hb
      have hc' := hcap c' rfl
      obtain ⟨_, hlo, vo, hRo, hfo⟩ := cellsOf_R (P := P) hI hx0 hold rfl
      have hlvo := Rs_length _ _ hRo
      refine fresh (old := old.map AV.strip) hu (alAll_strip (cellsOf_al hw hax hold)) (by simpa using hlo) (Rs_strip hRo) (fun w2 h2 => ?_) (by omega) hb
      have := hfo w2 n h2 (Nat.le_refl _)
      rw [List.take_of_length_le (by omega)] at this
      rw [← hu]; exact this
  · cases he
end
end Fw
