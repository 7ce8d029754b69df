/- Regions that draw their order: every order. -/
import Derived.Test.YtgpfcgpgbflpgaaFwV4
namespace Fw
open Go Go.RowKit

theorem maskOf_bits (acc : List Nat) (i : Nat) : ∀ (es : List Edge) (m : Nat), (es.foldl (fun m e => if Region.binds .any e then m ||| 2 ^ e.on ||| acc.getD e.on 0 else m) m).testBit i = true →
    m.testBit i = true ∨ ∃ e ∈ es, Region.binds .any e = true ∧ (e.on = i ∨ (acc.getD e.on 0).testBit i = true)
  | [], m, h => .inl h
  | e :: es, m, h => by
    simp only [List.foldl_cons] at h
    rcases maskOf_bits acc i es _ h with h1 | ⟨e', h1, h2, h3⟩
    · split at h1
      · rename_i hb
        simp only [Nat.testBit_or, Nat.testBit_two_pow, Bool.or_eq_true, decide_eq_true_eq] at h1
        rcases h1 with (h1 | h1) | h1
        · exact .inl h1
        · exact .inr ⟨e, List.mem_cons_self .., hb, .inl h1⟩
        · exact .inr ⟨e, List.mem_cons_self .., hb, .inr h1⟩
      · exact .inl h1
    · exact .inr ⟨e', List.mem_cons_of_mem _ h1, h2, h3⟩

theorem cMasks_get : ∀ (os : List Oper) (acc : List Nat), (cMasks acc os).length = acc.length + os.length ∧ (cMasks acc os).take acc.length = acc ∧
    ∀ (k : Nat) (o : Oper), os[k]? = some o → (cMasks acc os).getD (acc.length + k) 0 = maskOf ((cMasks acc os).take (acc.length + k)) o.after.toList
  | [], acc => ⟨rfl, by simp [cMasks], fun k o h => by simp at h⟩
  | o :: os, acc => by
    obtain ⟨h1, h2, h3⟩ := cMasks_get os (acc ++ [maskOf acc o.after.toList])
    simp only [cMasks]
    simp only [List.length_append, List.length_cons, List.length_nil] at h1 h2 h3
    have h2' : (cMasks (acc ++ [maskOf acc o.after.toList]) os).take acc.length = acc := by
      have := congrArg (List.take acc.length) h2
      rw [List.take_take] at this
      simpa using this
    refine ⟨by simp [h1]; omega, h2', fun k o' hk => ?_⟩
    cases k with
    | zero =>
      simp at hk; subst hk
      rw [Nat.add_zero, h2']
      have : (cMasks (acc ++ [maskOf acc o.after.toList]) os)[acc.length]? = some (maskOf acc o.after.toList) := by
        have := congrArg (fun l => l[acc.length]?) h2
        simp only [List.getElem?_take] at this
        rw [if_pos (by omega)] at this
        rw [this]; simp
      simp [List.getD, this]
    | succ k =>
      have := h3 k o' (by simpa using hk)
      rw [show acc.length + (k + 1) = acc.length + (0 + 1) + k by omega]
      exact this

theorem mask_bit {ops : Array Oper} {k i : Nat} {o : Oper} (hk : ops[k]? = some o) (hb : ((cMasks [] ops.toList).getD k 0).testBit i = true) :
    ∃ e ∈ o.after.toList, Region.binds .any e = true ∧ (e.on = i ∨ ((cMasks [] ops.toList).getD e.on 0).testBit i = true) := by
  obtain ⟨_, _, h3⟩ := cMasks_get ops.toList []
  have := h3 k o (by simpa using hk)
  simp only [List.length_nil, Nat.zero_add] at this
  rw [this] at hb
  unfold maskOf at hb
  rcases maskOf_bits _ i _ 0 hb with h | ⟨e, h1, h2, h4⟩
  · simp at h
  · refine ⟨e, h1, h2, h4.imp id fun h => ?_⟩
    simp only [List.getD, List.getElem?_take] at h ⊢
    split at h
    · exact h
    · simp at h

section
variable {P : Program} {X : Bs} {cx : Cx} {callee : Callee} {ops : Array Oper} {is : List IOper} {rs : List Rec} {ρ0 : Env} {s0 : St}

structure DCtx (P : Program) (cx : Cx) (callee : Callee) (ops : Array Oper) (is : List IOper) (rs : List Rec) (ρ0 : Env) (s0 : St) : Prop where
  lis : is.length = ops.size
  lrs : rs.length = ops.size
  op : ∀ (k : Nat) (o : Oper), ops[k]? = some o → ∃ io r, is[k]? = some io ∧ cOper P ops o = some io ∧ io.op.shut = true ∧ rs[k]? = some r ∧ RecOk cx callee io r ∧ RecFacts r
  deeds : ∀ (l k : Nat) (q r : Rec) (e d : Deed), l < k → rs[l]? = some q → rs[k]? = some r → q.d = some e → r.d = some d → ((cMasks [] ops.toList).getD k 0).testBit l = true ∨ e.free d = true
  mono : ∀ (i k : Nat) (q r : Rec), i < k → rs[i]? = some q → rs[k]? = some r → q.s'.next ≤ r.s.next
  pair : ∀ (i j : Nat) (x y : IOper) (p q : Oper), i < j → is[i]? = some x → is[j]? = some y → ops[i]? = some p → ops[j]? = some q → ((cMasks [] ops.toList).getD j 0).testBit i = true ∨ (clash x.dst (namesOf y q) = false ∧ clash y.dst (namesOf x p) = false)
  edge : ∀ (j : Nat) (q : Oper) (e : Edge), ops[j]? = some q → e ∈ q.after.toList → Region.binds .any e = true → e.on < j
  ids : ∀ (k : Nat) (r : Rec) (id : Nat), rs[k]? = some r → (r.d = some (.lay id) → id = r.s.next ∧ r.s'.next = r.s.next + 1) ∧ (r.d = some (.rd id) ∨ r.d = some (.wr id) → id < r.s.next)
  at' : ∀ (k : Nat) (r : Rec), rs[k]? = some r → r.ρ = envL (fun l => decide (l < k)) 0 (is.zip (cMasks [] ops.toList)) rs ρ0 ∧ r.s.get = hpL (fun l => decide (l < k)) 0 rs s0.get ∧
      r.ρ' = envL (fun l => decide (l < k + 1)) 0 (is.zip (cMasks [] ops.toList)) rs ρ0 ∧ r.s'.get = hpL (fun l => decide (l < k + 1)) 0 rs s0.get

theorem DCtx.fact (h : DCtx P cx callee ops is rs ρ0 s0) {l : Nat} {q : Rec} (hq : rs[l]? = some q) : RecFacts q := by
  have hlt := (List.getElem?_eq_some_iff.1 hq).1
  rw [h.lrs] at hlt
  obtain ⟨io, q', _, _, _, hq', _, hf⟩ := h.op l (ops[l]'hlt) (Array.getElem?_eq_getElem hlt)
  rw [hq] at hq'; cases hq'
  exact hf

abbrev Bits (ops : Array Oper) (k l : Nat) : Prop := ((cMasks [] ops.toList).getD k 0).testBit l = true

def Cl (ops : Array Oper) (L : Nat → Bool) : Prop := ∀ j i, L j = true → Bits ops j i → L i = true

theorem zone_agree (h : DCtx P cx callee ops is rs ρ0 s0) {L : Nat → Bool} (hcl : Cl ops L) {i : Nat} {r : Rec} (hr : rs[i]? = some r) (hi : L i = false) (hready : ∀ l, Bits ops i l → L l = true) {j : Nat} (hz : r.zone j) :
    (∀ (l : Nat) (q : Rec), l < i → rs[l]? = some q → q.touches j → L l = true) ∧ (∀ (l : Nat) (q : Rec), i < l → rs[l]? = some q → q.touches j → L l = false) := by
  have before : ∀ (l : Nat) (q : Rec) (e d : Deed), l < i → rs[l]? = some q → q.d = some e → r.d = some d → e.free d = false → L l = true := fun l q e d hl hq he hd hf => by
    rcases h.deeds l i q r e d hl hq hr he hd with h1 | h1
    · exact hready l h1
    · rw [hf] at h1; cases h1
  have after : ∀ (l : Nat) (q : Rec) (e d : Deed), i < l → rs[l]? = some q → q.d = some e → r.d = some d → d.free e = false → L l = false := fun l q e d hl hq he hd hf => by
    cases hL : L l with
    | false => rfl
    | true =>
      rcases h.deeds i l r q d e hl hr hq hd he with h1 | h1
      · rw [hcl l i hL h1] at hi; cases hi
      · rw [hf] at h1; cases h1
  unfold Rec.zone at hz
  split at hz
  · exact hz.elim
  · -- lay
    rename_i id hd
    subst hz
    obtain ⟨hid, hnx⟩ := (h.ids i r j hr).1 hd
    refine ⟨fun l q hl hq ht => ?_, fun l q hl hq ht => ?_⟩
    · exfalso
      have hm := h.mono l i q r hl hq hr
      unfold Rec.touches at ht
      split at ht
      · rename_i e he; subst ht; obtain ⟨h1, h2⟩ := (h.ids l q j hq).1 he; omega
      · rename_i e he; subst ht
        have := (h.ids l q j hq).2 (.inr he)
        have := (h.fact hq).kept.next
        omega
      · omega
      · exact ht
    · unfold Rec.touches at ht
      split at ht
      · rename_i e he; subst ht
        obtain ⟨h1, h2⟩ := (h.ids l q j hq).1 he
        have hm := h.mono i l r q hl hr hq; omega
      · rename_i e he; subst ht; exact after l q _ _ hl hq he hd (by simp [Deed.free])
      · rename_i he; exact after l q _ _ hl hq he hd rfl
      · exact ht.elim
  · -- rd
    rename_i id hd
    subst hz
    have hid := (h.ids i r j hr).2 (.inl hd)
    refine ⟨fun l q hl hq ht => ?_, fun l q hl hq ht => ?_⟩
    · unfold Rec.touches at ht
      split at ht
      · rename_i e he; subst ht; exact before l q _ _ hl hq he hd (by simp [Deed.free])
      · rename_i e he; subst ht; exact before l q _ _ hl hq he hd (by simp [Deed.free])
      · rename_i he; exact before l q _ _ hl hq he hd rfl
      · exact ht.elim
    · have hm := h.mono i l r q hl hr hq
      have hkn : r.s.next ≤ r.s'.next := (h.fact hr).kept.next
      unfold Rec.touches at ht
      split at ht
      · rename_i e he; subst ht; obtain ⟨h1, h2⟩ := (h.ids l q j hq).1 he; omega
      · rename_i e he; subst ht; exact after l q _ _ hl hq he hd (by simp [Deed.free])
      · rename_i he; exact after l q _ _ hl hq he hd rfl
      · exact ht.elim
  · -- wr
    rename_i id hd
    subst hz
    have hid := (h.ids i r j hr).2 (.inr hd)
    refine ⟨fun l q hl hq ht => ?_, fun l q hl hq ht => ?_⟩
    · unfold Rec.touches at ht
      split at ht
      · rename_i e he; subst ht; exact before l q _ _ hl hq he hd (by simp [Deed.free])
      · rename_i e he; subst ht; exact before l q _ _ hl hq he hd (by simp [Deed.free])
      · rename_i he; exact before l q _ _ hl hq he hd rfl
      · exact ht.elim
    · have hm := h.mono i l r q hl hr hq
      have hkn : r.s.next ≤ r.s'.next := (h.fact hr).kept.next
      unfold Rec.touches at ht
      split at ht
      · rename_i e he; subst ht; obtain ⟨h1, h2⟩ := (h.ids l q j hq).1 he; omega
      · rename_i e he; subst ht; exact after l q _ _ hl hq he hd (by simp [Deed.free])
      · rename_i he; exact after l q _ _ hl hq he hd rfl
      · exact ht.elim
  all_goals
    rename_i hd
    refine ⟨fun l q hl hq ht => ?_, fun l q hl hq ht => ?_⟩
    · unfold Rec.touches at ht
      split at ht
      · rename_i e he; exact before l q _ _ hl hq he hd rfl
      · rename_i e he; exact before l q _ _ hl hq he hd rfl
      · rename_i he; exact before l q _ _ hl hq he hd rfl
      · exact ht.elim
    · have hm := h.mono i l r q hl hr hq
      unfold Rec.touches at ht
      split at ht
      · rename_i e he; subst ht; obtain ⟨h1, h2⟩ := (h.ids l q j hq).1 he; omega
      · rename_i e he; exact after l q _ _ hl hq he hd rfl
      · rename_i he; exact after l q _ _ hl hq he hd rfl
      · exact ht.elim

theorem mask_ready {L : Nat → Bool} (hcl : Cl ops L) {i : Nat} {o : Oper} (ho : ops[i]? = some o) (hr : ∀ e ∈ o.after.toList, Region.binds .any e = true → L e.on = true) (l : Nat) (hb : Bits ops i l) : L l = true := by
  obtain ⟨e, h1, h2, h3⟩ := mask_bit ho hb
  rcases h3 with rfl | h3
  · exact hr e h1 h2
  · exact hcl e.on l (hr e h1 h2) h3

def add (L : Nat → Bool) (i : Nat) : Nat → Bool := fun k => L k || decide (k = i)

theorem Cl.add {L : Nat → Bool} (hcl : Cl ops L) {i : Nat} (hr : ∀ l, Bits ops i l → L l = true) : Cl ops (add L i) := by
  intro j l hj hb
  simp only [Fw.add, Bool.or_eq_true, decide_eq_true_eq] at hj ⊢
  rcases hj with hj | rfl
  · exact .inl (hcl j l hj hb)
  · exact .inl (hr l hb)

structure DGood (X : Bs) (ops : Array Oper) (is : List IOper) (rs : List Rec) (ρ0 : Env) (s0 : St) (L : Nat → Bool) (σ : Gh) (w : World) (a : Act) : Prop where
  inv : Inv X σ (hpL L 0 rs s0.get) w
  al : alAll (dm (hpL L 0 rs s0.get)) (envL L 0 (is.zip (cMasks [] ops.toList)) rs ρ0) = true
  env : EnvOk σ (envL L 0 (is.zip (cMasks [] ops.toList)) rs ρ0) a

theorem clash_false {d : Option Nat} {ns : List Nat} (h : clash d ns = false) {t : Nat} (hd : d = some t) : t ∉ ns := by
  subst hd; simpa [clash] using h

theorem writer_agree (h : DCtx P cx callee ops is rs ρ0 s0) {L : Nat → Bool} (hcl : Cl ops L) {i : Nat} {io : IOper} {o : Oper} (hio : is[i]? = some io) (ho : ops[i]? = some o) (hi : L i = false) (hready : ∀ l, Bits ops i l → L l = true) {t : Nat} (ht : t ∈ namesOf io o)
    {l : Nat} {x : IOper} (hx : is[l]? = some x) (hd : x.dst = some t) : L l = decide (l < i) := by
  have hlt : l < ops.size := by have := (List.getElem?_eq_some_iff.1 hx).1; rw [h.lis] at this; exact this
  have hp : ops[l]? = some ops[l] := Array.getElem?_eq_getElem hlt
  rcases Nat.lt_trichotomy l i with hl | rfl | hl
  · simp only [hl, decide_true]
    rcases h.pair l i x io _ o hl hx hio hp ho with h1 | ⟨h1, _⟩
    · exact hready l h1
    · exact absurd ht (clash_false h1 hd)
  · simp [hi]
  · have : ¬ l < i := by omega
    simp only [this, decide_false]
    cases hL : L l with
    | false => rfl
    | true =>
      rcases h.pair i l io x o _ hl hio hx ho hp with h1 | ⟨_, h1⟩
      · rw [hcl l i hL h1] at hi; cases hi
      · exact absurd ht (clash_false h1 hd)

theorem draw_step (hX : cx.gl = X.gl) (hGl : cx.GlOk) (hk : CalleeOk callee) (hc : CallOk P X callee) (h : DCtx P cx callee ops is rs ρ0 s0) {L : Nat → Bool} (hcl : Cl ops L) {i : Nat} (hi : L i = false) (hlt : i < ops.size) (hready : ∀ l, Bits ops i l → L l = true)
    {σ : Gh} {w : World} {a : Act} (hg : DGood X ops is rs ρ0 s0 L σ w a) {K : Act → World → Prop} {Q : Exit → Act → World → Prop}
    (hK : ∀ σ' w' a', Step X σ (hpL L 0 rs s0.get) w σ' (hpL (add L i) 0 rs s0.get) w' → DGood X ops is rs ρ0 s0 (add L i) σ' w' a' → K a' w') : wpOp P ops Q i K a w := by
  have ho : ops[i]? = some ops[i] := Array.getElem?_eq_getElem hlt
  generalize hoo : ops[i] = o at ho
  obtain ⟨io, r, hio, hcO, hsh, hr, hok, hf⟩ := h.op i o ho
  obtain ⟨hat1, hat2, hat3, hat4⟩ := h.at' i r hr
  have hmi : ∀ (l : Nat) (x : IOper) (m : Nat), (is.zip (cMasks [] ops.toList))[l]? = some (x, m) → is[l]? = some x := fun l x m hl => by
    rw [List.getElem?_zip_eq_some] at hl; exact hl.1
  have hself : (is.zip (cMasks [] ops.toList))[i]?.map (·.1) = some io := by
    have hml := (cMasks_get ops.toList []).1
    simp only [List.length_nil, Nat.zero_add, Array.length_toList] at hml
    have : (cMasks [] ops.toList)[i]? = some (cMasks [] ops.toList)[i] := List.getElem?_eq_getElem (by omega)
    have h2 : (is.zip (cMasks [] ops.toList))[i]? = some (io, (cMasks [] ops.toList)[i]'(by omega)) := by rw [List.getElem?_zip_eq_some]; exact ⟨hio, this⟩
    rw [h2]; rfl
  -- the temporaries
  have hN : ∀ t ∈ namesOf io o, (envL L 0 (is.zip (cMasks [] ops.toList)) rs ρ0).get t = r.ρ.get t := fun t ht => by
    rw [hat1]
    refine envL_agree _ rs 0 rfl rfl fun l x m hl hd => ?_
    rw [Nat.zero_add]
    exact writer_agree h hcl hio ho hi hready ht (hmi l x m hl) hd
  have henv : envL (add L i) 0 (is.zip (cMasks [] ops.toList)) rs ρ0 = (envL L 0 (is.zip (cMasks [] ops.toList)) rs ρ0).put io.dst r.v := by
    refine env_ext (by rw [put_len, envL_len, envL_len]) fun t => ?_
    by_cases hd : io.dst = some t
    · have ht : t ∈ namesOf io o := by simp [namesOf, dTmps, hd]
      have e1 : (envL (add L i) 0 (is.zip (cMasks [] ops.toList)) rs ρ0).get t = r.ρ'.get t := by
        rw [hat3]
        refine envL_agree _ rs 0 rfl rfl fun l x m hl hd' => ?_
        rw [Nat.zero_add]
        have := writer_agree h hcl hio ho hi hready ht (hmi l x m hl) hd'
        simp only [add, this]
        rw [Bool.eq_iff_iff]; simp; omega
      rw [e1, hok.env, put_get, put_get, hN t ht, hat1, envL_len, envL_len]
    · rw [put_get, if_neg (fun e => hd e.1)]
      refine envL_agree _ rs 0 rfl rfl fun l x m hl hd' => ?_
      rw [Nat.zero_add]
      have hne : l ≠ i := fun e => by
        subst e
        rw [hl] at hself; simp at hself; subst hself; exact hd hd'
      simp [add, hne]
  -- the blocks
  have hz : ∀ j, r.zone j → hpL L 0 rs s0.get j = r.s.get j ∧ hpL (add L i) 0 rs s0.get j = r.s'.get j := fun j hj => by
    obtain ⟨h1, h2⟩ := zone_agree h hcl hr hi hready hj
    have ag : ∀ (l : Nat) (q : Rec), rs[l]? = some q → q.touches j → L l = decide (l < i) := fun l q hq ht => by
      rcases Nat.lt_trichotomy l i with hl | rfl | hl
      · simp [hl, h1 l q hl hq ht]
      · simp [hi]
      · have : ¬ l < i := by omega
        simp [this, h2 l q hl hq ht]
    constructor
    · rw [hat2]
      refine hpL_agree rs 0 rfl fun l q hq ht => ?_
      rw [Nat.zero_add]; exact ag l q hq ht
    · rw [hat4]
      refine hpL_agree rs 0 rfl fun l q hq ht => ?_
      rw [Nat.zero_add]
      simp only [add, ag l q hq ht]
      rw [Bool.eq_iff_iff]; simp; omega
  have hz3 : ∀ j, ¬ r.touches j → hpL (add L i) 0 rs s0.get j = hpL L 0 rs s0.get j := fun j hj => by
    refine hpL_agree rs 0 rfl fun l q hq ht => ?_
    rw [Nat.zero_add]
    have hne : l ≠ i := fun e => by subst e; rw [hr] at hq; cases hq; exact hj ht
    simp [add, hne]
  simp only [wpOp, ho]
  simp only [cOper, Option.bind_eq_some_iff, Option.map_eq_some_iff] at hcO
  obtain ⟨op, h1, g, h2, rfl⟩ := hcO
  have hwt : wants (envL L 0 (is.zip (cMasks [] ops.toList)) rs ρ0) g = wants r.ρ g := by
    cases g with
    | none => rfl
    | some tw =>
      obtain ⟨t, want⟩ := tw
      have := hN t (by simp [namesOf, gTmps])
      simp only [wants, this]
  rw [wants_R hg.env h2, hwt]
  dsimp only at hsh henv
  cases hq : wants r.ρ g with
  | true =>
    have hd := hok.want hq
    rcases cOpB_cases h1 with h1 | rfl
    case inr => simp [evDeed, evOp, IOp.plain, IOp.lays] at hd
    simp only [if_true]
    refine .inl (draw_left (N := namesOf _ o) hX hGl hk hc h1 hsh hf hd hg.inv hg.al hg.env hN (fun t ht => by simp [namesOf, ht]) (fun t ht => by simp [namesOf, ht]) (fun j hj => (hz j hj).1) (fun j hj => (hz j hj).2) hz3 fun σ' u w' hst hR hal => hK σ' w' _ hst ⟨hst.inv, ?_, ?_⟩)
    · rw [henv]; exact put_al (alAll_mono hst.dom _ hg.al) hal _
    · rw [henv]; exact EnvOk.put (hg.env.ext hst.ext hg.al) hR _
  | false =>
    obtain ⟨hv, hs, hdn⟩ := hok.skip hq
    simp only [Bool.false_eq_true, if_false]
    have hgg : hpL (add L i) 0 rs s0.get = hpL L 0 rs s0.get := funext fun j => hz3 j (by simp [Rec.touches, hdn])
    refine hK σ w _ (by rw [hgg]; exact Step.refl hg.inv) ⟨by rw [hgg]; exact hg.inv, ?_, ?_⟩
    · rw [henv, hgg, hv]; exact put_al hg.al rfl _
    · rw [henv, hv]; exact hg.env.put (R_undef σ) _
end
end Fw
