/- Regions that draw their order: the record of a run in the text's order, and what a part of it leaves. -/
import Derived.Test.YtgpfcgpgbflpgaaFwV1
namespace Fw
open Go Go.RowKit

/-- One operation of the run in the text's order. -/
structure Rec where
  ρ : Env
  s : St
  v : AV
  d : Option Deed
  ρ' : Env
  s' : St

structure RecOk (cx : Cx) (callee : Callee) (io : IOper) (r : Rec) : Prop where
  want : wants r.ρ io.guard = true → evDeed cx callee r.ρ r.s io.op = some (r.v, r.s', r.d)
  skip : wants r.ρ io.guard = false → r.v = AV.undef ∧ r.s' = r.s ∧ r.d = none
  env : r.ρ' = r.ρ.put io.dst r.v

inductive Trace (cx : Cx) (callee : Callee) : List (IOper × Nat) → Env → St → List Rec → Env → St → Prop
  | nil {ρ s} : Trace cx callee [] ρ s [] ρ s
  | cons {io m os ρ s v d ρ1 s1 rs ρ' s'} : RecOk cx callee io ⟨ρ, s, v, d, ρ1, s1⟩ → Trace cx callee os ρ1 s1 rs ρ' s' → Trace cx callee ((io, m) :: os) ρ s (⟨ρ, s, v, d, ρ1, s1⟩ :: rs) ρ' s'

theorem freeAll_iff (m : Nat) (d : Deed) : ∀ ds : List (Nat × Deed), freeAll m d ds = true ↔ ∀ j e, (j, e) ∈ ds → m.testBit j = true ∨ e.free d = true
  | [] => by simp [freeAll]
  | (j, e) :: ds => by
    simp only [freeAll, Bool.and_eq_true, Bool.or_eq_true, freeAll_iff m d ds, List.mem_cons, Prod.mk.injEq]
    constructor
    · rintro ⟨h1, h2⟩ j' e' (⟨rfl, rfl⟩ | h)
      · exact h1
      · exact h2 j' e' h
    · intro h; exact ⟨h j e (.inl ⟨rfl, rfl⟩), fun j' e' h' => h j' e' (.inr h')⟩

theorem trace_of {cx : Cx} {callee : Callee} : ∀ (os : List (IOper × Nat)) {i : Nat} {ds : List (Nat × Deed)} {ρ : Env} {s : St} {ρ' : Env} {s' : St}, evDraw cx callee os i ds ρ s = some (ρ', s') →
    ∃ rs, Trace cx callee os ρ s rs ρ' s' ∧
      (∀ (k : Nat) (m : Nat) (io : IOper) (r : Rec) (d : Deed), os[k]? = some (io, m) → rs[k]? = some r → r.d = some d →
        (∀ j e, (j, e) ∈ ds → m.testBit j = true ∨ e.free d = true) ∧ ∀ (l : Nat) (q : Rec) (e : Deed), l < k → rs[l]? = some q → q.d = some e → m.testBit (i + l) = true ∨ e.free d = true)
  | [], i, ds, ρ, s, ρ', s', h => by
    simp only [evDraw, Option.some.injEq] at h; cases h
    exact ⟨[], .nil, fun k m io r d h => by simp at h⟩
  | (io, m) :: os, i, ds, ρ, s, ρ', s', h => by
    simp only [evDraw] at h
    split at h
    · rename_i hw
      simp only [Option.bind_eq_some_iff] at h; obtain ⟨⟨v, s1, d⟩, h1, h2⟩ := h
      dsimp only at h2
      split at h2
      · obtain ⟨rs, h3, h4⟩ := trace_of os h2
        refine ⟨⟨ρ, s, v, none, ρ.put io.dst v, s1⟩ :: rs, .cons ⟨fun _ => h1, fun h => (by rw [hw] at h; cases h), rfl⟩ h3, fun k m' io' r d hk hr hd => ?_⟩
        cases k with
        | zero => simp at hr; subst hr; cases hd
        | succ k =>
          simp only [List.getElem?_cons_succ] at hk hr
          obtain ⟨h5, h6⟩ := h4 k m' io' r d hk hr hd
          refine ⟨h5, fun l q e hl hq he => ?_⟩
          cases l with
          | zero => simp at hq; subst hq; cases he
          | succ l =>
            simp only [List.getElem?_cons_succ] at hq
            have := h6 l q e (by omega) hq he
            rwa [show i + (l + 1) = i + 1 + l by omega]
      · rename_i d0
        split at h2
        · rename_i hf
          rw [freeAll_iff] at hf
          obtain ⟨rs, h3, h4⟩ := trace_of os h2
          refine ⟨⟨ρ, s, v, some d0, ρ.put io.dst v, s1⟩ :: rs, .cons ⟨fun _ => h1, fun h => (by rw [hw] at h; cases h), rfl⟩ h3, fun k m' io' r d hk hr hd => ?_⟩
          cases k with
          | zero =>
            simp at hr hk; subst hr; obtain ⟨rfl, rfl⟩ := hk; cases hd
            exact ⟨hf, fun l q e hl => by omega⟩
          | succ k =>
            simp only [List.getElem?_cons_succ] at hk hr
            obtain ⟨h5, h6⟩ := h4 k m' io' r d hk hr hd
            refine ⟨fun j e hj => h5 j e (List.mem_cons_of_mem _ hj), fun l q e hl hq he => ?_⟩
            cases l with
            | zero =>
              simp at hq; subst hq; cases he
              exact h5 i d0 (List.mem_cons_self ..)
            | succ l =>
              simp only [List.getElem?_cons_succ] at hq
              have := h6 l q e (by omega) hq he
              rwa [show i + (l + 1) = i + 1 + l by omega]
        · cases h2
    · rename_i hw
      obtain ⟨rs, h3, h4⟩ := trace_of os h
      refine ⟨⟨ρ, s, AV.undef, none, ρ.put io.dst AV.undef, s⟩ :: rs, .cons ⟨fun h => absurd h hw, fun _ => ⟨rfl, rfl, rfl⟩, rfl⟩ h3, fun k m' io' r d hk hr hd => ?_⟩
      cases k with
      | zero => simp at hr; subst hr; cases hd
      | succ k =>
        simp only [List.getElem?_cons_succ] at hk hr
        obtain ⟨h5, h6⟩ := h4 k m' io' r d hk hr hd
        refine ⟨h5, fun l q e hl hq he => ?_⟩
        cases l with
        | zero => simp at hq; subst hq; cases he
        | succ l =>
          simp only [List.getElem?_cons_succ] at hq
          have := h6 l q e (by omega) hq he
          rwa [show i + (l + 1) = i + 1 + l by omega]

/-- What a record does to the blocks. -/
def Rec.act (r : Rec) (g : Hp) : Hp := fun j => match r.d with
  | some (.lay id) => if j = id then r.s'.get id else g j
  | some (.wr id) => if j = id then r.s'.get id else g j
  | some .wrAll => if j < r.s'.next then r.s'.get j else g j
  | _ => g j

def Rec.touches (r : Rec) (j : Nat) : Prop := match r.d with
  | some (.lay id) => j = id
  | some (.wr id) => j = id
  | some .wrAll => j < r.s'.next
  | _ => False

/-- What the records of L leave: the temporaries and the blocks. -/
def envL (L : Nat → Bool) : Nat → List (IOper × Nat) → List Rec → Env → Env
  | k, (io, _) :: os, r :: rs, ρ => envL L (k + 1) os rs (if L k then ρ.put io.dst r.v else ρ)
  | _, _, _, ρ => ρ

def hpL (L : Nat → Bool) : Nat → List Rec → Hp → Hp
  | k, r :: rs, g => hpL L (k + 1) rs (if L k then r.act g else g)
  | _, [], g => g

theorem act_same {r : Rec} {g h : Hp} {j : Nat} (e : g j = h j) : r.act g j = r.act h j := by
  unfold Rec.act; split <;> first | exact e | (split <;> first | rfl | exact e)
theorem act_idle {r : Rec} {g : Hp} {j : Nat} (e : ¬ r.touches j) : r.act g j = g j := by
  unfold Rec.touches at e
  unfold Rec.act
  split <;> rename_i hd <;> first | rfl | (rw [hd] at e; dsimp only at e; rw [if_neg e])

theorem hpL_agree {L L' : Nat → Bool} {j : Nat} : ∀ (rs : List Rec) (k : Nat) {g h : Hp}, g j = h j → (∀ (l : Nat) (r : Rec), rs[l]? = some r → r.touches j → L (k + l) = L' (k + l)) → hpL L k rs g j = hpL L' k rs h j
  | [], _, _, _, e, _ => e
  | r :: rs, k, g, h, e, hL => by
    simp only [hpL]
    refine hpL_agree rs (k + 1) ?_ fun l q hq ht => ?_
    · by_cases ht : r.touches j
      · have := hL 0 r rfl ht
        simp only [Nat.add_zero] at this
        rw [this]; split
        · exact act_same e
        · exact e
      · have h1 : (if L k then r.act g else g) j = g j := by split <;> first | exact act_idle ht | rfl
        have h2 : (if L' k then r.act h else h) j = h j := by split <;> first | exact act_idle ht | rfl
        rw [h1, h2]; exact e
    · have := hL (l + 1) q (by simpa using hq) ht
      rwa [show k + 1 + l = k + (l + 1) by omega]

theorem put_len (ρ : Env) (d : Option Nat) (v : AV) : (ρ.put d v).length = ρ.length := by cases d <;> simp [Env.put]
theorem put_get (ρ : Env) (d : Option Nat) (v : AV) (t : Nat) : (ρ.put d v).get t = if d = some t ∧ t < ρ.length then v else ρ.get t := by
  cases d with
  | none => simp [Env.put]
  | some d =>
    simp only [Env.put, Env.get, List.getD, List.getElem?_set, Option.some.injEq]
    by_cases h : d = t
    · subst h
      simp only [true_and, if_true]
      split
      · rfl
      · rename_i hl; rw [List.getElem?_eq_none (by omega)]
    · simp [h]
theorem env_ext {ρ ρ' : Env} (hl : ρ.length = ρ'.length) (h : ∀ t, ρ.get t = ρ'.get t) : ρ = ρ' := by
  apply List.ext_getElem hl
  intro i h1 h2
  have := h i
  simp only [Env.get, List.getD, List.getElem?_eq_getElem h1, List.getElem?_eq_getElem h2, Option.getD_some] at this
  exact this

theorem envL_len (L : Nat → Bool) : ∀ (os : List (IOper × Nat)) (rs : List Rec) (k : Nat) (ρ : Env), (envL L k os rs ρ).length = ρ.length
  | [], _, _, _ => by simp [envL]
  | (io, m) :: os, [], k, ρ => by simp [envL]
  | (io, m) :: os, r :: rs, k, ρ => by
    simp only [envL]
    rw [envL_len L os rs]
    split
    · exact put_len _ _ _
    · rfl

theorem envL_agree {L L' : Nat → Bool} {t : Nat} : ∀ (os : List (IOper × Nat)) (rs : List Rec) (k : Nat) {ρ ρ' : Env}, ρ.length = ρ'.length → ρ.get t = ρ'.get t → (∀ (l : Nat) (io : IOper) (m : Nat), os[l]? = some (io, m) → io.dst = some t → L (k + l) = L' (k + l)) →
    (envL L k os rs ρ).get t = (envL L' k os rs ρ').get t
  | [], _, _, _, _, _, e, _ => by simpa [envL] using e
  | (io, m) :: os, [], k, ρ, ρ', _, e, _ => by simpa [envL] using e
  | (io, m) :: os, r :: rs, k, ρ, ρ', hl, e, hL => by
    simp only [envL]
    refine envL_agree os rs (k + 1) ?_ ?_ fun l io' m' hq ht => ?_
    · split <;> split <;> simp [put_len, hl]
    · by_cases ht : io.dst = some t
      · have := hL 0 io m rfl ht
        simp only [Nat.add_zero] at this
        rw [this]; split
        · rw [put_get, put_get, hl, e]
        · exact e
      · have h1 : (if L k then ρ.put io.dst r.v else ρ).get t = ρ.get t := by
          split
          · rw [put_get, if_neg (fun h => ht h.1)]
          · rfl
        have h2 : (if L' k then ρ'.put io.dst r.v else ρ').get t = ρ'.get t := by
          split
          · rw [put_get, if_neg (fun h => ht h.1)]
          · rfl
        rw [h1, h2]; exact e
    · have := hL (l + 1) io' m' (by simpa using hq) ht
      rwa [show k + 1 + l = k + (l + 1) by omega]

theorem hpL_none {L : Nat → Bool} : ∀ (rs : List Rec) (k : Nat) {g : Hp}, (∀ l, k ≤ l → L l = false) → hpL L k rs g = g
  | [], _, _, _ => rfl
  | r :: rs, k, g, h => by
    simp only [hpL, h k (Nat.le_refl _), Bool.false_eq_true, if_false]
    exact hpL_none rs (k + 1) fun l hl => h l (by omega)
theorem envL_none {L : Nat → Bool} : ∀ (os : List (IOper × Nat)) (rs : List Rec) (k : Nat) {ρ : Env}, (∀ l, k ≤ l → L l = false) → envL L k os rs ρ = ρ
  | [], _, _, _, _ => by simp [envL]
  | (io, m) :: os, [], _, _, _ => by simp [envL]
  | (io, m) :: os, r :: rs, k, ρ, h => by
    simp only [envL, h k (Nat.le_refl _), Bool.false_eq_true, if_false]
    exact envL_none os rs (k + 1) fun l hl => h l (by omega)

section
variable {cx : Cx} {callee : Callee}

/-- What a single operation keeps and does. -/
structure RecFacts (r : Rec) : Prop where
  ok : Whole r.s
  al : alAll (below r.s.next) r.ρ = true
  kept : Kept r.s r.s'
  al' : alAll (below r.s'.next) r.ρ' = true
  act : r.act r.s.get = r.s'.get

theorem whole_none {s : St} (h : Whole s) {j : Nat} (hj : s.next ≤ j) : s.get j = none := by
  have := h.full j
  cases hg : s.get j with
  | none => rfl
  | some o => rw [hg] at this; simp [below] at this; omega

theorem lays_get {o : IOp} (hl : o.lays = true) {ρ : Env} {s t : St} {v : AV} (h : evOp cx callee ρ s o = some (v, t)) : v = .ptr s.next 0 ∧ ∀ j, j ≠ s.next → t.get j = s.get j := by
  cases o <;> simp only [IOp.lays, Bool.false_eq_true] at hl
  · simp only [evOp, Option.some.injEq] at h; cases h; exact ⟨rfl, fun j hj => by rw [get_new, if_neg hj]⟩
  · simp only [evOp, Option.map_eq_some_iff] at h; obtain ⟨b, _, h5⟩ := h; cases h5; exact ⟨rfl, fun j hj => by rw [get_new, if_neg hj]⟩

theorem rec_facts (hg : cx.GlOk) (hc : CalleeOk callee) {io : IOper} {r : Rec} (h : RecOk cx callee io r) (hw : Whole r.s) (hρ : alAll (below r.s.next) r.ρ = true) (hsh : io.op.shut = true) : RecFacts r := by
  cases hwt : wants r.ρ io.guard with
  | false =>
    obtain ⟨h1, h2, h3⟩ := h.skip hwt
    refine ⟨hw, hρ, by rw [h2]; exact Kept.refl hw, by rw [h.env, h1, h2]; exact put_al hρ rfl _, ?_⟩
    funext j; simp only [Rec.act, h3, h2]
  | true =>
    have he := h.want hwt
    obtain ⟨k, hv⟩ := evDeed_kept hg hc hw hρ hsh he
    refine ⟨hw, hρ, k, by rw [h.env]; exact put_al (alAll_mono (below_mono k.next) _ hρ) hv _, ?_⟩
    have key : (r.d = none → r.s' = r.s) ∧ (∀ id, r.d = some (.rd id) → r.s' = r.s) ∧ (r.d = some .rdAll → r.s' = r.s) ∧ (∀ id, r.d = some (.lay id) ∨ r.d = some (.wr id) → ∀ j, j ≠ id → r.s'.get j = r.s.get j) := by
      clear hv hsh
      revert he
      generalize io.op = oo
      intro he
      unfold evDeed at he
      split at he
      · simp only [Option.map_eq_some_iff, Prod.mk.injEq] at he; obtain ⟨⟨v, t⟩, h1, h2, h3, h4⟩ := he
        refine ⟨fun _ => h3.symm, fun id hd => ?_, fun hd => ?_, fun id hd => ?_⟩
        · rw [← h4] at hd; cases hd
        · rw [← h4] at hd; cases hd
        · rw [← h4] at hd; rcases hd with hd | hd <;> cases hd
      · rename_i hnp
        split at he
        · rename_i hl
          simp only [Option.map_eq_some_iff, Prod.mk.injEq] at he; obtain ⟨⟨v, t⟩, h1, h2, h3, h4⟩ := he
          refine ⟨fun hd => (by rw [← h4] at hd; cases hd), fun id hd => (by rw [← h4] at hd; cases hd), fun hd => (by rw [← h4] at hd; cases hd), fun id hd j hj => ?_⟩
          rw [← h4] at hd
          have hid : id = r.s.next := by rcases hd with hd | hd <;> cases hd; rfl
          subst hid
          rw [← h3]
          exact (lays_get hl h1).2 j hj
        · split at he
          · simp only [Option.map_eq_some_iff, Prod.mk.injEq] at he; obtain ⟨⟨v, t⟩, h1, h2, h3, h4⟩ := he
            refine ⟨fun _ => h3.symm, fun id _ => h3.symm, fun _ => h3.symm, fun id hd => ?_⟩
            rw [← h4] at hd
            split at hd <;> rcases hd with hd | hd <;> cases hd
          · rename_i n x y _ _
            simp only [Option.map_eq_some_iff, Prod.mk.injEq] at he; obtain ⟨⟨v, t⟩, h1, h2, h3, h4⟩ := he
            simp only [evOp, Option.bind_eq_some_iff, Option.map_eq_some_iff] at h1; obtain ⟨xa, h5, ya, h6, t', h7, h8⟩ := h1
            cases h8
            dsimp only at h3
            refine ⟨fun hd => ?_, fun id hd => ?_, fun hd => ?_, fun id hd j hj => ?_⟩
            · rw [← h4] at hd; split at hd <;> cases hd
            · rw [← h4] at hd; split at hd <;> cases hd
            · rw [← h4] at hd; split at hd <;> cases hd
            · rw [← h4] at hd
              rw [h5] at hd
              rw [← h3]
              unfold storeA at h7
              split at h7
              · rename_i id' off
                dsimp only at hd
                have hid : id' = id := by rcases hd with hd | hd <;> cases hd; rfl
                subst hid
                split at h7
                · rename_i cs hcs
                  split at h7
                  · simp only [Option.map_eq_some_iff] at h7; obtain ⟨ds, _, rfl⟩ := h7
                    rw [get_set' hw hcs, if_neg hj]
                  · cases h7
                · cases h7
              · cases h7
          · simp only [Option.map_eq_some_iff] at he; obtain ⟨⟨v, t⟩, h1, h2⟩ := he
            split at h2
            · simp only [Prod.mk.injEq] at h2; obtain ⟨_, h3, h4⟩ := h2
              refine ⟨fun _ => h3.symm, fun id _ => h3.symm, fun _ => h3.symm, fun id hd => ?_⟩
              rw [← h4] at hd; rcases hd with hd | hd <;> cases hd
            · simp only [Prod.mk.injEq] at h2; obtain ⟨_, h3, h4⟩ := h2
              refine ⟨fun hd => (by rw [← h4] at hd; cases hd), fun id hd => (by rw [← h4] at hd; cases hd), fun hd => (by rw [← h4] at hd; cases hd), fun id hd => ?_⟩
              rw [← h4] at hd; rcases hd with hd | hd <;> cases hd
    funext j
    unfold Rec.act
    split
    · rename_i id hd
      split
      · rename_i hj; rw [hj]
      · rename_i hj; exact (key.2.2.2 id (.inl hd) j hj).symm
    · rename_i id hd
      split
      · rename_i hj; rw [hj]
      · rename_i hj; exact (key.2.2.2 id (.inr hd) j hj).symm
    · rename_i hd
      split
      · rfl
      · rename_i hj
        have := k.next
        rw [whole_none hw (by omega), whole_none k.whole (by omega)]
    · rename_i h1 h2 h3
      have : r.s' = r.s := by
        cases hd : r.d with
        | none => exact key.1 hd
        | some d =>
          cases d with
          | lay id => exact absurd hd (h1 id)
          | rd id => exact key.2.1 id hd
          | wr id => exact absurd hd (h2 id)
          | rdAll => exact key.2.2.1 hd
          | wrAll => exact absurd hd h3
      rw [this]

theorem trace_facts (hg : cx.GlOk) (hc : CalleeOk callee) {os : List (IOper × Nat)} {ρ : Env} {s : St} {rs : List Rec} {ρ' : Env} {s' : St} (h : Trace cx callee os ρ s rs ρ' s') (hw : Whole s) (hρ : alAll (below s.next) ρ = true) (hsh : (os.all (·.1.op.shut)) = true) :
    rs.length = os.length ∧ (∀ (k : Nat) (io : IOper) (m : Nat), os[k]? = some (io, m) → ∃ r, rs[k]? = some r ∧ RecOk cx callee io r ∧ RecFacts r) ∧
    (∀ r ∈ rs, s.next ≤ r.s.next) ∧ s.next ≤ s'.next ∧ ∀ (i k : Nat) (q r : Rec), i < k → rs[i]? = some q → rs[k]? = some r → q.s'.next ≤ r.s.next := by
  induction h with
  | nil => exact ⟨rfl, fun k io m h => by simp at h, fun r h => by simp at h, Nat.le_refl _, fun i k q r _ h => by simp at h⟩
  | @cons io m os ρ s v d ρ1 s1 rs ρ' s' hr ht ih =>
    simp only [List.all_cons, Bool.and_eq_true] at hsh
    have hf := rec_facts hg hc hr hw hρ hsh.1
    obtain ⟨h1, h2, h3, h4, h5⟩ := ih hf.kept.whole hf.al' hsh.2
    have hn := hf.kept.next
    dsimp only at hn
    refine ⟨by simp [h1], fun k io' m' hk => ?_, fun r hr' => ?_, by omega, fun i k q r hik hq hr' => ?_⟩
    · cases k with
      | zero => simp at hk; obtain ⟨rfl, rfl⟩ := hk; exact ⟨_, rfl, hr, hf⟩
      | succ k => simp only [List.getElem?_cons_succ] at hk ⊢; exact h2 k io' m' hk
    · rcases List.mem_cons.1 hr' with rfl | hm
      · exact Nat.le_refl _
      · have := h3 r hm; omega
    · cases k with
      | zero => omega
      | succ k =>
        simp only [List.getElem?_cons_succ] at hr'
        cases i with
        | zero => simp at hq; subst hq; exact h3 r (List.mem_of_getElem? hr')
        | succ i => simp only [List.getElem?_cons_succ] at hq; exact h5 i k q r (by omega) hq hr'

/-- Where the run in the text's order stands: all that comes before has been done. -/
theorem trace_at (hg : cx.GlOk) (hc : CalleeOk callee) {os : List (IOper × Nat)} {ρ : Env} {s : St} {rs : List Rec} {ρ' : Env} {s' : St} (h : Trace cx callee os ρ s rs ρ' s') (hw : Whole s) (hρ : alAll (below s.next) ρ = true) (hsh : (os.all (·.1.op.shut)) = true) (n : Nat) :
    (∀ (k : Nat) (r : Rec), rs[k]? = some r → r.ρ = envL (fun l => decide (l < n + k)) n os rs ρ ∧ r.s.get = hpL (fun l => decide (l < n + k)) n rs s.get ∧
      r.ρ' = envL (fun l => decide (l < n + k + 1)) n os rs ρ ∧ r.s'.get = hpL (fun l => decide (l < n + k + 1)) n rs s.get) ∧
    ρ' = envL (fun _ => true) n os rs ρ ∧ s'.get = hpL (fun _ => true) n rs s.get := by
  induction h generalizing n with
  | nil => exact ⟨fun k r h => by simp at h, rfl, rfl⟩
  | @cons io m os ρ s v d ρ1 s1 rs ρ' s' hr ht ih =>
    simp only [List.all_cons, Bool.and_eq_true] at hsh
    have hf := rec_facts hg hc hr hw hρ hsh.1
    obtain ⟨h1, h2, h3⟩ := ih hf.kept.whole hf.al' hsh.2 (n + 1)
    have hact := hf.act
    have henv := hr.env
    dsimp only at hact henv
    refine ⟨fun k r hk => ?_, ?_, ?_⟩
    · cases k with
      | zero =>
        simp at hk; subst hk
        have hn : ∀ l, n ≤ l → decide (l < n + 0) = false := fun l hl => by simp; omega
        have hn1 : ∀ l, n + 1 ≤ l → decide (l < n + 0 + 1) = false := fun l hl => by simp; omega
        have hlt : decide (n < n + 0 + 1) = true := by simp
        refine ⟨(envL_none _ _ n hn).symm, (hpL_none _ n hn).symm, ?_, ?_⟩
        · simp only [envL]; rw [if_pos hlt, envL_none _ _ (n + 1) hn1]; exact henv
        · simp only [hpL]; rw [if_pos hlt, hpL_none _ (n + 1) hn1]; exact hact.symm
      | succ k =>
        simp only [List.getElem?_cons_succ] at hk
        obtain ⟨h4, h5, h6, h7⟩ := h1 k r hk
        simp only [envL, hpL]
        have hlt : decide (n < n + (k + 1)) = true := by simp
        have hlt2 : decide (n < n + (k + 1) + 1) = true := by simp; omega
        have hfn : (fun l => decide (l < n + (k + 1))) = (fun l => decide (l < n + 1 + k)) := by funext l; congr 1; apply propext; omega
        have hfn2 : (fun l => decide (l < n + (k + 1) + 1)) = (fun l => decide (l < n + 1 + k + 1)) := by funext l; congr 1; apply propext; omega
        rw [if_pos hlt, if_pos hlt, if_pos hlt2, if_pos hlt2, hact, ← henv, hfn, hfn2]
        exact ⟨h4, h5, h6, h7⟩
    · simp only [envL, if_true]; rw [← henv]; exact h2
    · simp only [hpL, if_true]; rw [hact]; exact h3
end
end Fw
