/- Regions that draw their order: the whole. -/
import Derived.Test.YtgpfcgpgbflpgaaFwV5
namespace Fw
open Go Go.RowKit

section
variable {P : Program} {X : Bs} {cx : Cx} {callee : Callee} {ops : Array Oper} {is : List IOper} {rs : List Rec} {ρ0 : Env} {s0 : St}

theorem count_lt {p q : Nat → Bool} {i : Nat} : ∀ (l : List Nat), (∀ k, q k = true → p k = true) → i ∈ l → p i = true → q i = false → l.countP q < l.countP p
  | [], _, h, _, _ => by simp at h
  | k :: l, hpq, hi, hp, hq => by
    simp only [List.countP_cons]
    have hle : l.countP q ≤ l.countP p := List.countP_mono_left fun x _ hx => hpq x hx
    rcases List.mem_cons.1 hi with rfl | h
    · simp [hp, hq]; omega
    · have := count_lt l hpq h hp hq
      have hk := hpq k
      cases hqk : q k <;> cases hpk : p k <;> simp_all <;> omega

def lst (listed : Array Bool) : Nat → Bool := fun k => listed.getD k false

theorem lst_set {listed : Array Bool} {i : Nat} (hi : i < listed.size) : lst (listed.setIfInBounds i true) = add (lst listed) i := by
  funext k
  simp only [lst, add, Array.getD_eq_getD_getElem?, Array.getElem?_setIfInBounds]
  by_cases h : i = k
  · subst h; simp [hi]
  · have : ¬ k = i := fun e => h e.symm
    simp [h, this]

theorem mem_ready {listed : Array Bool} (hsz : listed.size = ops.size) {i : Nat} : i ∈ Region.ready .any ops listed ↔ ∃ o, ops[i]? = some o ∧ lst listed i = false ∧ ∀ e ∈ o.after.toList, Region.binds .any e = true → lst listed e.on = true := by
  simp only [Region.ready, List.mem_filter, List.mem_range, Bool.and_eq_true, Bool.not_eq_true']
  constructor
  · rintro ⟨h1, h2, h3⟩
    have ho : ops[i]? = some ops[i] := Array.getElem?_eq_getElem h1
    refine ⟨ops[i], ho, ?_, fun e he hb => ?_⟩
    · simp only [lst, Array.getD_eq_getD_getElem?] at h2 ⊢
      rw [Array.getElem?_eq_getElem (by omega)] at h2 ⊢; exact h2
    · rw [ho] at h3
      simp only [Option.map_some, Option.getD_some, Array.all_eq_true'] at h3
      have := h3 e (by simpa using he)
      simpa [hb, lst] using this
  · rintro ⟨o, ho, h2, h3⟩
    have h1 : i < ops.size := (Array.getElem?_eq_some_iff.1 ho).1
    refine ⟨h1, ?_, ?_⟩
    · simp only [lst, Array.getD_eq_getD_getElem?] at h2 ⊢
      rw [Array.getElem?_eq_getElem (by omega)] at h2 ⊢; exact h2
    · rw [ho]
      simp only [Option.map_some, Option.getD_some, Array.all_eq_true']
      intro e he
      cases hb : Region.binds .any e with
      | false => rfl
      | true => simpa [lst] using h3 e (by simpa using he) hb

theorem draw_any (hX : cx.gl = X.gl) (hGl : cx.GlOk) (hk : CalleeOk callee) (hc : CallOk P X callee) (h : DCtx P cx callee ops is rs ρ0 s0) {Q : Exit → Act → World → Prop} {σ0 : Gh} {w0 : World}
    (hQ : ∀ σ' w' a', Step X σ0 s0.get w0 σ' (hpL (fun _ => true) 0 rs s0.get) w' → DGood X ops is rs ρ0 s0 (fun _ => true) σ' w' a' → Q .normal a' w') :
    ∀ (fuel : Nat) (listed : Array Bool) (σ : Gh) (w : World) (a : Act), listed.size = ops.size → Cl ops (lst listed) → ((List.range ops.size).countP fun k => !lst listed k) ≤ fuel →
      Step X σ0 s0.get w0 σ (hpL (lst listed) 0 rs s0.get) w → DGood X ops is rs ρ0 s0 (lst listed) σ w a → wpAny P .any ops Q fuel listed a w := by
  -- the end: all have been done
  have fin : ∀ (listed : Array Bool) (σ : Gh) (w : World) (a : Act), listed.size = ops.size → (∀ k, k < ops.size → lst listed k = true) → Step X σ0 s0.get w0 σ (hpL (lst listed) 0 rs s0.get) w → DGood X ops is rs ρ0 s0 (lst listed) σ w a → Q .normal a w := by
    intro listed σ w a hsz hall hst hg
    have e1 : hpL (lst listed) 0 rs s0.get = hpL (fun _ => true) 0 rs s0.get := by
      funext j
      refine hpL_agree rs 0 rfl fun l r hr _ => ?_
      have := (List.getElem?_eq_some_iff.1 hr).1
      rw [h.lrs] at this
      rw [Nat.zero_add]; exact hall l this
    have e2 : envL (lst listed) 0 (is.zip (cMasks [] ops.toList)) rs ρ0 = envL (fun _ => true) 0 (is.zip (cMasks [] ops.toList)) rs ρ0 := by
      refine env_ext (by rw [envL_len, envL_len]) fun t => ?_
      refine envL_agree _ rs 0 rfl rfl fun l x m hl _ => ?_
      rw [List.getElem?_zip_eq_some] at hl
      have := (List.getElem?_eq_some_iff.1 hl.1).1
      rw [h.lis] at this
      rw [Nat.zero_add]; exact hall l this
    refine hQ σ w a (by rw [← e1]; exact hst) ⟨by rw [← e1]; exact hg.inv, by rw [← e1, ← e2]; exact hg.al, by rw [← e2]; exact hg.env⟩
  have stuck : ∀ (listed : Array Bool), listed.size = ops.size → Region.ready .any ops listed = [] → ∀ k, k < ops.size → lst listed k = true := by
    intro listed hsz hr k
    induction k using Nat.strongRecOn with
    | ind k ih =>
      intro hk
      cases hL : lst listed k with
      | true => rfl
      | false =>
        have ho : ops[k]? = some ops[k] := Array.getElem?_eq_getElem hk
        have : k ∈ Region.ready .any ops listed := (mem_ready hsz).2 ⟨_, ho, hL, fun e he hb => by
          have := h.edge k _ e ho he hb
          exact ih e.on this (by omega)⟩
        rw [hr] at this; cases this
  intro fuel
  induction fuel with
  | zero =>
    intro listed σ w a hsz hcl hcnt hst hg
    have hall : ∀ k, k < ops.size → lst listed k = true := fun k hk => by
      have h0 : ((List.range ops.size).countP fun k => !lst listed k) = 0 := by omega
      rw [List.countP_eq_zero] at h0
      simpa using h0 k (List.mem_range.2 hk)
    simp only [wpAny]
    refine ⟨?_, fin listed σ w a hsz hall hst hg⟩
    rw [List.eq_nil_iff_forall_not_mem]
    intro i hi
    obtain ⟨o, ho, h1, _⟩ := (mem_ready hsz).1 hi
    rw [hall i (Array.getElem?_eq_some_iff.1 ho).1] at h1; cases h1
  | succ fuel ih =>
    intro listed σ w a hsz hcl hcnt hst hg
    simp only [wpAny]
    refine ⟨fun hr => fin listed σ w a hsz (stuck listed hsz hr) hst hg, fun i hi => ?_⟩
    obtain ⟨o, ho, hun, hed⟩ := (mem_ready hsz).1 hi
    have hlt : i < ops.size := (Array.getElem?_eq_some_iff.1 ho).1
    have hready : ∀ l, Bits ops i l → lst listed l = true := mask_ready hcl ho hed
    have hls := lst_set (listed := listed) (i := i) (by omega)
    refine draw_step hX hGl hk hc h hcl hun hlt hready hg fun σ' w' a' hst' hg' => ?_
    refine ih _ σ' w' a' (by simpa using hsz) (by rw [hls]; exact hcl.add hready) ?_ (by rw [hls]; exact hst.trans hst') (by rw [hls]; exact hg')
    have := count_lt (p := fun k => !lst listed k) (q := fun k => !lst (listed.setIfInBounds i true) k) (i := i) (List.range ops.size) (fun k hq => by
      rw [hls] at hq; simp only [add, Bool.not_or, Bool.and_eq_true] at hq; exact hq.1) (List.mem_range.2 hlt) (by simp [hun]) (by rw [hls]; simp [add])
    omega

theorem cOpers_get {P : Program} {ops : Array Oper} : ∀ (os : List Oper) {is : List IOper}, cOpers P ops os = some is → is.length = os.length ∧ ∀ (k : Nat) (o : Oper), os[k]? = some o → ∃ io, is[k]? = some io ∧ cOper P ops o = some io
  | [], is, h => by simp only [cOpers, Option.some.injEq] at h; subst h; exact ⟨rfl, fun k o h => by simp at h⟩
  | o :: os, is, h => by
    simp only [cOpers, Option.bind_eq_some_iff, Option.map_eq_some_iff] at h; obtain ⟨i, h1, is', h2, rfl⟩ := h
    obtain ⟨h3, h4⟩ := cOpers_get os h2
    refine ⟨by simp [h3], fun k o' hk => ?_⟩
    cases k with
    | zero => simp at hk; subst hk; exact ⟨i, rfl, h1⟩
    | succ k => simp only [List.getElem?_cons_succ] at hk ⊢; exact h4 k o' hk

theorem rec_ids {io : IOper} {r : Rec} (h : RecOk cx callee io r) (hf : RecFacts r) (id : Nat) : (r.d = some (.lay id) → id = r.s.next ∧ r.s'.next = r.s.next + 1) ∧ (r.d = some (.rd id) ∨ r.d = some (.wr id) → id < r.s.next) := by
  cases hwt : wants r.ρ io.guard with
  | false =>
    obtain ⟨_, _, h3⟩ := h.skip hwt
    rw [h3]
    exact ⟨fun e => (by cases e), fun e => by rcases e with e | e <;> cases e⟩
  | true =>
    have he := h.want hwt
    clear h
    revert he
    generalize io.op = oo
    intro he
    unfold evDeed at he
    split at he
    · simp only [Option.map_eq_some_iff, Prod.mk.injEq] at he; obtain ⟨⟨v, t⟩, h1, h2, h3, h4⟩ := he
      rw [← h4]
      exact ⟨fun e => (by cases e), fun e => by rcases e with e | e <;> cases e⟩
    · split at he
      · rename_i hl
        simp only [Option.map_eq_some_iff, Prod.mk.injEq] at he; obtain ⟨⟨v, t⟩, h1, h2, h3, h4⟩ := he
        rw [← h4, ← h3]
        refine ⟨fun e => ?_, fun e => by rcases e with e | e <;> cases e⟩
        cases e
        refine ⟨rfl, ?_⟩
        cases oo <;> simp only [IOp.lays, Bool.false_eq_true] at hl
        · simp only [evOp, Option.some.injEq] at h1; cases h1; rfl
        · simp only [evOp, Option.map_eq_some_iff] at h1; obtain ⟨b, _, h5⟩ := h1; cases h5; rfl
      · split at he
        · simp only [Option.map_eq_some_iff, Prod.mk.injEq] at he; obtain ⟨⟨v, t⟩, h1, h2, h3, h4⟩ := he
          simp only [evOp, Option.map_eq_some_iff, Option.bind_eq_some_iff] at h1; obtain ⟨b, ⟨y, h5, h6⟩, h7⟩ := h1
          rw [h5] at h4
          rw [← h4]
          refine ⟨fun e => (by split at e <;> cases e), fun e => ?_⟩
          cases y <;> dsimp only at e <;> first | (rcases e with e | e <;> cases e; done) | skip
          rename_i id' off
          have hid : id' = id := by rcases e with e | e <;> cases e; rfl
          subst hid
          simp only [loadA] at h6
          split at h6
          · rename_i cs hcs; exact hf.ok.lt hcs
          · cases h6
        · simp only [Option.map_eq_some_iff, Prod.mk.injEq] at he; obtain ⟨⟨v, t⟩, h1, h2, h3, h4⟩ := he
          simp only [evOp, Option.map_eq_some_iff, Option.bind_eq_some_iff] at h1; obtain ⟨y, h5, z, h6, t', h7, h8⟩ := h1
          rw [h5] at h4
          rw [← h4]
          refine ⟨fun e => (by split at e <;> cases e), fun e => ?_⟩
          cases y <;> dsimp only at e <;> first | (rcases e with e | e <;> cases e; done) | skip
          rename_i id' off
          have hid : id' = id := by rcases e with e | e <;> cases e; rfl
          subst hid
          simp only [storeA] at h7
          split at h7
          · rename_i cs hcs; exact hf.ok.lt hcs
          · cases h7
        · simp only [Option.map_eq_some_iff] at he; obtain ⟨⟨v, t⟩, h1, h2⟩ := he
          split at h2
          · simp only [Prod.mk.injEq] at h2; obtain ⟨_, _, h5⟩ := h2
            rw [← h5]; exact ⟨fun e => (by cases e), fun e => by rcases e with e | e <;> cases e⟩
          · simp only [Prod.mk.injEq] at h2; obtain ⟨_, _, h5⟩ := h2
            rw [← h5]; exact ⟨fun e => (by cases e), fun e => by rcases e with e | e <;> cases e⟩

theorem drawOk (hX : cx.gl = X.gl) (hGl : cx.GlOk) (hm : P.follows .mixedOrders = true) : DrawOk P X cx := by
  intro callee hk hc id ops is s ρ s' ρ' hcO hsh he σ w a Q hg hQ
  simp only [cCode, Option.bind_eq_some_iff, if_true] at hcO
  obtain ⟨is0, h1, h2⟩ := hcO
  split at h2
  case isFalse => cases h2
  rename_i hpair
  cases h2
  obtain ⟨hlis, hget⟩ := cOpers_get _ h1
  simp only [Array.length_toList] at hlis
  have hml := (cMasks_get ops.toList []).1
  simp only [List.length_nil, Nat.zero_add, Array.length_toList] at hml
  obtain ⟨rs, htr, hdeed⟩ := trace_of _ he
  obtain ⟨f1, f2, f3, f4, f5⟩ := trace_facts hGl hk htr hg.whole hg.al hsh
  obtain ⟨t1, t2, t3⟩ := trace_at hGl hk htr hg.whole hg.al hsh 0
  have hzl : (is0.zip (cMasks [] ops.toList)).length = ops.size := by simp [hlis, hml]
  have hzget : ∀ (k : Nat) (io : IOper), is0[k]? = some io → ∃ m, (is0.zip (cMasks [] ops.toList))[k]? = some (io, m) ∧ m = (cMasks [] ops.toList).getD k 0 := fun k io hio => by
    have hlt : k < (cMasks [] ops.toList).length := by have := (List.getElem?_eq_some_iff.1 hio).1; omega
    have h3 : (cMasks [] ops.toList)[k]? = some (cMasks [] ops.toList)[k] := List.getElem?_eq_getElem hlt
    exact ⟨(cMasks [] ops.toList)[k], by rw [List.getElem?_zip_eq_some]; exact ⟨hio, h3⟩, by simp [List.getD, h3]⟩
  have hop : ∀ (k : Nat) (o : Oper), ops[k]? = some o → ∃ io r, is0[k]? = some io ∧ cOper P ops o = some io ∧ io.op.shut = true ∧ rs[k]? = some r ∧ RecOk cx callee io r ∧ RecFacts r := fun k o ho => by
    obtain ⟨io, h3, h4⟩ := hget k o (by simpa using ho)
    obtain ⟨m, h5, _⟩ := hzget k io h3
    obtain ⟨r, h6, h7, h8⟩ := f2 k io m h5
    exact ⟨io, r, h3, h4, List.all_eq_true.1 hsh _ (List.mem_of_getElem? h5), h6, h7, h8⟩
  have hpo : ∀ (j : Nat) (y : IOper) (q : Oper), is0[j]? = some y → ops[j]? = some q → (∀ e ∈ q.after.toList, Region.binds .any e = true → e.on < j) ∧ ∀ (i : Nat) (x : IOper) (p : Oper), i < j → is0[i]? = some x → ops[i]? = some p →
      ((cMasks [] ops.toList).getD j 0).testBit i = true ∨ (clash x.dst (namesOf y q) = false ∧ clash y.dst (namesOf x p) = false) := fun j y q hy hq => by
    have hjl : j < ops.size := (Array.getElem?_eq_some_iff.1 hq).1
    have hzz : ∀ (i : Nat) (x : IOper) (p : Oper), is0[i]? = some x → ops[i]? = some p → (is0.zip ops.toList)[i]? = some (x, p) := fun i x p hx hp => by rw [List.getElem?_zip_eq_some]; exact ⟨hx, by simpa using hp⟩
    simp only [pairOk, List.all_eq_true, List.mem_range] at hpair
    have := hpair j (by simp [hlis]; exact hjl)
    rw [hzz j y q hy hq] at this
    simp only [Bool.and_eq_true, List.all_eq_true, Bool.or_eq_true, Bool.not_eq_true', decide_eq_true_eq, List.mem_range] at this
    refine ⟨fun e he hb => ?_, fun i x p hi hx hp => ?_⟩
    · rcases this.1 e he with h3 | h3
      · rw [hb] at h3; cases h3
      · exact h3
    · rcases this.2 i hi with h3 | h3
      · exact .inl h3
      · rw [hzz i x p hx hp] at h3
        simp only [Bool.and_eq_true, Bool.not_eq_true'] at h3
        exact .inr h3
  have hctx : DCtx P cx callee ops is0 rs ρ s := by
    refine ⟨hlis, by rw [f1, hzl], hop, fun l k q r e d hl hq hr he hd => ?_, f5, fun i j x y p q hij hx hy hp hq => (hpo j y q hy hq).2 i x p hij hx hp, fun j q e hq he hb => ?_, fun k r i hr => ?_, fun k r hr => ?_⟩
    · have hkl : k < ops.size := by have := (List.getElem?_eq_some_iff.1 hr).1; omega
      obtain ⟨io, r', h3, _, _, h6, _⟩ := hop k _ (Array.getElem?_eq_getElem hkl)
      obtain ⟨m, h5, h7⟩ := hzget k io h3
      have := (hdeed k m io r d h5 hr hd).2 l q e hl hq he
      rw [Nat.zero_add, h7] at this
      exact this
    · obtain ⟨io, _, h3, _⟩ := hop j q hq
      exact (hpo j io q h3 hq).1 e he hb
    · have hkl : k < ops.size := by have := (List.getElem?_eq_some_iff.1 hr).1; omega
      obtain ⟨io, r', _, _, _, h6, h7, h8⟩ := hop k _ (Array.getElem?_eq_getElem hkl)
      rw [hr] at h6; cases h6
      exact rec_ids h7 h8 i
    · have := t1 k r hr
      simpa only [Nat.zero_add] using this
  refine wp_region_any hm ?_
  have hdr : Step X σ s.get w σ s.get { w with drawn := w.drawn + 1 } := Step.heap_same hg.inv (Below.drew hg.inv.below) rfl
  have hL0 : lst (Array.replicate ops.size false) = fun _ => false := by
    funext k
    simp only [lst, Array.getD_eq_getD_getElem?, Array.getElem?_replicate]
    split <;> rfl
  have e0 : hpL (fun _ => false) 0 rs s.get = s.get := hpL_none rs 0 fun _ _ => rfl
  have e1 : envL (fun _ => false) 0 (is0.zip (cMasks [] ops.toList)) rs ρ = ρ := envL_none _ rs 0 fun _ _ => rfl
  obtain ⟨k1, a1⟩ := evDraw_kept hGl hk _ hg.whole hg.al hsh he
  refine draw_any hX hGl hk hc hctx (σ0 := σ) (w0 := w) (fun σ' w' a' hst hg' => hQ σ' w' a' (by rw [t3]; exact hst) ⟨k1.whole, a1, by rw [t3]; exact hg'.inv, by rw [t2]; exact hg'.env⟩) ops.size _ σ _ a (by simp) ?_ ?_ ?_ ?_
  · intro j i hj; rw [hL0] at hj; cases hj
  · refine Nat.le_trans List.countP_le_length ?_; simp
  · rw [hL0, e0]; exact hdr
  · rw [hL0]
    exact ⟨by rw [e0]; exact hdr.inv, by rw [e0, e1, dm_get hg.whole]; exact hg.al, by rw [e1]; exact hg.env⟩
end
end Fw
