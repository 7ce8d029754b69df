/- Parts of the proof, one behind the other. -/
import Derived.Test.YtfhommjochpkbaaDoorFwD
import Derived.ProofKit
set_option linter.unusedSimpArgs false
set_option linter.unusedVariables false
set_option linter.unusedSectionVars false

/- The arguments of a law: whatever reads as data is a value of the abstract machine. -/
namespace Fw
open Go Go.RowKit

/-- The fields lie one behind the other and fill the cells. -/
def contig (P : Program) (total : Nat) : Nat → List Field → Bool
  | off, [] => off == total
  | off, f :: fs => f.offset == off && contig P total (off + P.cellsOf f.type) fs

/-- A closed set of types of numbers, texts, truth values, structs, arrays and slices of such. -/
def simpleSet (P : Program) (S : List TypeId) : Bool := S.all fun t => match P.underlying t with
  | some .bool => P.cellsOf t == 1
  | some (.int _) => P.cellsOf t == 1
  | some .string => P.cellsOf t == 1
  | some (.slice e) => S.contains e && decide (0 < P.cellsOf e)
  | some (.struct fs) => (fs.toList.all fun f => S.contains f.type) && contig P (P.cellsOf t) 0 fs.toList
  | some (.array n e) => S.contains e && n * P.cellsOf e == P.cellsOf t
  | _ => false

/-- The cells of a value of a type, of a depth at most. -/
def Ty (P : Program) : Nat → TypeId → List AV → Prop
  | 0, _, _ => False
  | f + 1, t, as => match P.underlying t with
    | some .bool => ∃ b, as = [.bool b]
    | some (.int k) => ∃ n, as = [.int k n] ∧ (Lit.int k n).wf = true
    | some .string => ∃ s, as = [.str s] ∧ s.length ≤ maxLen
    | some (.slice e) => as = [.nilslice] ∨ ∃ es : List (List AV), (∀ x ∈ es, Ty P f e x ∧ x.length = P.cellsOf e) ∧ es.length ≤ maxLen ∧ as = [.slice es.flatten es.length .no]
    | some (.struct fs) => ∃ ps : List (List AV), ps.length = fs.size ∧ (∀ (j : Nat) (x : Field) (p : List AV), fs[j]? = some x → ps[j]? = some p → Ty P f x.type p ∧ p.length = P.cellsOf x.type) ∧ as = ps.flatten
    | some (.array n e) => ∃ ps : List (List AV), ps.length = n ∧ (∀ p ∈ ps, Ty P f e p ∧ p.length = P.cellsOf e) ∧ as = ps.flatten
    | _ => False

section
variable {P : Program} {σ : Gh} {W : World} {H : Type} {enc : TypeId × Value → H}

theorem mapM_some {α β : Type} {f : α → Option β} : ∀ (l : List α) {ys : List β}, l.mapM f = some ys → ys.length = l.length ∧ ∀ (j : Nat) (x : α), l[j]? = some x → ∃ y, ys[j]? = some y ∧ f x = some y
  | [], ys, h => by simp at h; subst h; exact ⟨rfl, fun j x h => by simp at h⟩
  | a :: l, ys, h => by
    simp only [List.mapM_cons, Option.bind_eq_bind, Option.bind_eq_some_iff, Option.pure_def, Option.some.injEq] at h
    obtain ⟨b, h1, bs, h2, rfl⟩ := h
    obtain ⟨h3, h4⟩ := mapM_some l h2
    refine ⟨by simp [h3], fun j x hx => ?_⟩
    cases j with
    | zero => simp at hx; subst hx; exact ⟨b, rfl, h1⟩
    | succ j => simp only [List.getElem?_cons_succ] at hx ⊢; exact h4 j x hx

theorem cells?_get {base n : Nat} {a : Addr} {cs : List Value} (h : W.cells? base a n = some cs) : cs.length = n ∧ ∀ (j : Nat) (v : Value), cs[j]? = some v → W.cell? (a.add j) = some v := by
  unfold World.cells? at h
  split at h
  · obtain ⟨h1, h2⟩ := mapM_some _ h
    simp only [List.length_range] at h1
    refine ⟨h1, fun j v hv => ?_⟩
    have hj : j < n := by have := (List.getElem?_eq_some_iff.1 hv).1; omega
    obtain ⟨y, h3, h4⟩ := h2 j j (by simp [hj])
    rw [hv] at h3; cases h3; exact h4
  · cases h

theorem cell_spot {a : Addr} {v : Value} (h : W.cell? a = some v) : a.spot = none := by
  unfold World.cell? at h
  split at h
  · split at h
    · cases h
    · rename_i hs; simpa using hs
  · cases h

/-- Lists of rows, one behind the other. -/
theorem Rs_flatten {es : List (List AV)} {vss : List (List Value)} (hl : es.length = vss.length) (h : ∀ (j : Nat) (x : List AV) (y : List Value), es[j]? = some x → vss[j]? = some y → Rs σ x y) : Rs σ es.flatten vss.flatten := by
  induction es generalizing vss with
  | nil => cases vss with
    | nil => simp [Rs]
    | cons => simp at hl
  | cons x es ih =>
    cases vss with
    | nil => simp at hl
    | cons y vss =>
      simp only [List.flatten_cons]
      exact Rs_append (h 0 x y rfl rfl) (ih (by simpa using hl) fun j x' y' hx hy => h (j + 1) x' y' (by simpa using hx) (by simpa using hy))

theorem choose_list {α β : Type} {R : α → β → Prop} : ∀ (l : List α), (∀ x ∈ l, ∃ y, R x y) → ∃ ys : List β, ys.length = l.length ∧ ∀ (j : Nat) (x : α) (y : β), l[j]? = some x → ys[j]? = some y → R x y
  | [], _ => ⟨[], rfl, fun j x y h => by simp at h⟩
  | a :: l, h => by
    obtain ⟨y, hy⟩ := h a (by simp)
    obtain ⟨ys, h1, h2⟩ := choose_list l fun x hx => h x (by simp [hx])
    refine ⟨y :: ys, by simp [h1], fun j x y' hx hy' => ?_⟩
    cases j with
    | zero => simp at hx hy'; subst hx; subst hy'; exact hy
    | succ j => simp only [List.getElem?_cons_succ] at hx hy'; exact h2 j x y' hx hy'

theorem contig_flat {P : Program} {total : Nat} {cs : List Value} (hl : cs.length = total) : ∀ (off : Nat) (fs : List Field), contig P total off fs = true → (fs.map fun f => (cs.drop f.offset).take (P.cellsOf f.type)).flatten = cs.drop off
  | off, [], h => by
    simp only [contig, beq_iff_eq] at h
    simp; omega
  | off, f :: fs, h => by
    simp only [contig, Bool.and_eq_true, beq_iff_eq] at h
    simp only [List.map_cons, List.flatten_cons]
    rw [contig_flat hl _ fs h.2, h.1, ← List.drop_drop, List.take_append_drop]

theorem contig_fits {P : Program} {total : Nat} : ∀ (off : Nat) (fs : List Field), contig P total off fs = true → (∀ f ∈ fs, f.offset + P.cellsOf f.type ≤ total) ∧ off ≤ total
  | off, [], h => by
    simp only [contig, beq_iff_eq] at h
    exact ⟨fun f hf => by simp at hf, by omega⟩
  | off, f :: fs, h => by
    simp only [contig, Bool.and_eq_true, beq_iff_eq] at h
    obtain ⟨h1, h2⟩ := contig_fits _ fs h.2
    refine ⟨fun g hg => ?_, by omega⟩
    rcases List.mem_cons.1 hg with rfl | hg
    · omega
    · exact h1 g hg

theorem range_flat {k : Nat} {cs : List Value} : ∀ (n off : Nat), cs.length = off + n * k → ((List.range' 0 n).map fun i => (cs.drop (off + i * k)).take k).flatten = cs.drop off
  | 0, off, h => by simp; omega
  | n + 1, off, h => by
    rw [List.range'_succ, List.map_cons, List.flatten_cons]
    have e : ((List.range' (0 + 1) n).map fun i => (cs.drop (off + i * k)).take k) = (List.range' 0 n).map fun i => (cs.drop (off + k + i * k)).take k := by
      rw [List.range'_eq_map_range, List.range'_eq_map_range, List.map_map, List.map_map]
      apply List.map_congr_left
      intro i _
      simp only [Function.comp, Nat.zero_add]
      rw [Nat.add_mul, Nat.one_mul, Nat.add_assoc]
    rw [e, range_flat n (off + k) (by rw [h, Nat.succ_mul]; omega)]
    simp only [Nat.zero_mul, Nat.add_zero]
    rw [← List.drop_drop, List.take_append_drop]

/-- A cell of rows laid one behind the other. -/
theorem flat_cell {k b o : Nat} : ∀ (vss : List (List Value)), (∀ y ∈ vss, y.length = k) → (∀ (i : Nat) (y : List Value), vss[i]? = some y → ∀ (m : Nat) (u : Value), y[m]? = some u → W.cell? ⟨b, o + (i * k + m), none⟩ = some u) →
    ∀ (j : Nat) (v : Value), vss.flatten[j]? = some v → W.cell? ⟨b, o + j, none⟩ = some v := by
  intro vss
  induction vss generalizing o with
  | nil => intro _ _ j v h; simp at h
  | cons y vss ih =>
    intro hl hc j v h
    have hy := hl y (by simp)
    simp only [List.flatten_cons] at h
    by_cases hj : j < y.length
    · rw [List.getElem?_append_left hj] at h
      have := hc 0 y rfl j v h
      simpa using this
    · rw [List.getElem?_append_right (by omega)] at h
      have := ih (o := o + k) (fun z hz => hl z (by simp [hz])) (fun i z hz m u hu => by
        have := hc (i + 1) z (by simpa using hz) m u hu
        rw [Nat.succ_mul] at this
        rwa [show o + (i * k + k + m) = o + k + (i * k + m) by omega] at this) (j - y.length) v h
      rwa [show o + k + (j - y.length) = o + j by omega] at this

/-- A simple type's cells are each a value of the machine. -/
theorem trod_Rs {S : List TypeId} (hS : simpleSet P S = true) (hσ : ∀ b o v, W.cell? ⟨b, o, none⟩ = some v → σ.G b o v) {base : Nat} {held : Bool} :
    ∀ (fuel : Nat) (t : TypeId) (cs : List Value) (x : DataW H × List MemPlace), t ∈ S → DataW.trod enc P W base (fun _ => true) held fuel t cs = some x → ∃ as, Rs σ as cs ∧ Ty P fuel t as
  | 0, t, cs, x, _, h => by simp [DataW.trod] at h
  | fuel + 1, t, cs, x, ht, h => by
    have hst := List.all_eq_true.1 hS t ht
    have ih := trod_Rs hS hσ (base := base) (held := held) fuel
    simp only [DataW.trod] at h
    split at h
    case h_1 hu =>
      rename_i b
      exact ⟨[.bool b], by simp [Rs, R], by simp only [Ty, hu]; exact ⟨b, rfl⟩⟩
    case h_2 k k' n hu =>
      split at h
      · rename_i hq
        obtain ⟨rfl, hwf⟩ := hq
        exact ⟨[.int k' n], by simp [Rs, R], by simp only [Ty, hu]; exact ⟨n, rfl, hwf⟩⟩
      · cases h
    case h_4 str hu =>
      split at h
      · rename_i hq
        refine ⟨[.str str.data.toList], by simp [Rs, R], by simp only [Ty, hu]; exact ⟨_, rfl, by rw [Array.length_toList]; exact hq⟩⟩
      · cases h
    case h_7 hu => exact ⟨[.nilslice], by simp [Rs, R], by simp [Ty, hu]⟩
    case h_8 e a len cap hu =>
      rw [hu] at hst
      simp only [Bool.and_eq_true, List.contains_iff_mem, decide_eq_true_eq] at hst
      split at h
      · rename_i hq
        simp only [Option.bind_eq_some_iff, if_true, Option.map_eq_some_iff] at h
        obtain ⟨elems, h1, rest, h2, _⟩ := h
        obtain ⟨h3, h4⟩ := mapM_some _ h1
        simp only [List.length_range] at h3
        have each : ∀ i ∈ List.range len, ∃ p : List AV × List Value, Rs σ p.1 p.2 ∧ Ty P fuel e p.1 ∧ p.1.length = P.cellsOf e ∧ ∀ (j : Nat) (v : Value), p.2[j]? = some v → W.cell? ((a.add (i * P.cellsOf e)).add j) = some v := fun i hi => by
          have hi' : i < len := List.mem_range.1 hi
          obtain ⟨y, h5, h6⟩ := h4 i i (by simp [hi'])
          simp only [Option.bind_eq_some_iff] at h6
          obtain ⟨cs', h7, h8⟩ := h6
          obtain ⟨h9, h10⟩ := cells?_get h7
          obtain ⟨as, h11, h12⟩ := ih e cs' y hst.1 h8
          exact ⟨(as, cs'), h11, h12, by rw [← Rs_length _ _ h11]; exact h9, h10⟩
        obtain ⟨ps, h5, h6⟩ := choose_list (List.range len) each
        simp only [List.length_range] at h5
        have hp : ∀ (j : Nat) (p : List AV × List Value), ps[j]? = some p → Rs σ p.1 p.2 ∧ Ty P fuel e p.1 ∧ p.1.length = P.cellsOf e ∧ ∀ (i : Nat) (v : Value), p.2[i]? = some v → W.cell? ((a.add (j * P.cellsOf e)).add i) = some v := fun j p hj => by
          have hjl : j < len := by have := (List.getElem?_eq_some_iff.1 hj).1; omega
          exact h6 j j p (by simp [hjl]) hj
        have hty : ∀ x ∈ ps.map (·.1), Ty P fuel e x ∧ x.length = P.cellsOf e := fun x hx => by
          obtain ⟨p, hp1, rfl⟩ := List.mem_map.1 hx
          obtain ⟨j, hj⟩ := List.mem_iff_getElem?.1 hp1
          exact ⟨(hp j p hj).2.1, (hp j p hj).2.2.1⟩
        refine ⟨[.slice ((ps.map (·.1)).flatten) (ps.map (·.1)).length .no], ?_, by simp only [Ty, hu]; exact .inr ⟨ps.map (·.1), hty, by simp; omega, rfl⟩⟩
        simp only [Rs]
        refine ⟨_, [], rfl, ?_, rfl⟩
        simp only [R, List.length_map, h5]
        -- an address with a spot has no cells at all
        by_cases hcap : cap = 0
        · subst hcap
          have hl0 : len = 0 := by omega
          subst hl0
          have : ps = [] := List.eq_nil_of_length_eq_zero h5
          subst this
          exact .inr ⟨rfl, rfl, by simp, a, rfl⟩
        · have hsp : a.spot = none := by
            have hadd : ∀ i : Nat, i * P.cellsOf e = 0 → a.add (i * P.cellsOf e) = a := fun i hi => by rw [hi]; rfl
            by_cases hl0 : len = 0
            · obtain ⟨h7, h8⟩ := mapM_some _ h2
              obtain ⟨y, _, h9⟩ := h8 0 0 (List.getElem?_range (by omega))
              simp only [Option.bind_eq_some_iff] at h9
              obtain ⟨cs', h10, _⟩ := h9
              obtain ⟨h11, h12⟩ := cells?_get h10
              obtain ⟨v0, hv0⟩ : ∃ v0, cs'[0]? = some v0 := ⟨cs'[0]'(by omega), List.getElem?_eq_getElem (by omega)⟩
              have := h12 0 v0 hv0
              rw [hl0, Nat.zero_add, hadd 0 (by simp)] at this
              exact cell_spot this
            · obtain ⟨p0, hp0⟩ : ∃ p0, ps[0]? = some p0 := ⟨ps[0]'(by omega), List.getElem?_eq_getElem (by omega)⟩
              obtain ⟨q1, _, q3, q4⟩ := hp 0 p0 hp0
              have hl1 := Rs_length _ _ q1
              obtain ⟨v0, hv0⟩ : ∃ v0, p0.2[0]? = some v0 := ⟨p0.2[0]'(by omega), List.getElem?_eq_getElem (by omega)⟩
              have := q4 0 v0 hv0
              rw [hadd 0 (by simp)] at this
              exact cell_spot this
          obtain ⟨ab, ao, asp⟩ := a
          dsimp only at hsp; subst hsp
          refine .inl ⟨ab, ao, cap, rfl, hq.2.1, trivial, ?_⟩
          have hRs : Rs σ (ps.map (·.1)).flatten (ps.map (·.2)).flatten := Rs_flatten (by simp) fun j x y hx hy => by
            simp only [List.getElem?_map, Option.map_eq_some_iff] at hx hy
            obtain ⟨p, hp1, rfl⟩ := hx
            obtain ⟨p', hp2, rfl⟩ := hy
            rw [hp1] at hp2; cases hp2
            exact (hp j p hp1).1
          refine RC_of hRs fun j v hv => hσ _ _ _ ?_
          refine flat_cell (k := P.cellsOf e) (ps.map (·.2)) (fun y hy => ?_) (fun i y hi m u hu' => ?_) j v hv
          · obtain ⟨p, hp1, rfl⟩ := List.mem_map.1 hy
            obtain ⟨i, hi⟩ := List.mem_iff_getElem?.1 hp1
            have := (hp i p hi).2.2.1
            rw [Rs_length _ _ (hp i p hi).1]; exact this
          · simp only [List.getElem?_map, Option.map_eq_some_iff] at hi
            obtain ⟨p, hp1, rfl⟩ := hi
            have := (hp i p hp1).2.2.2 m u hu'
            rw [addr_add, addr_add] at this
            rw [Nat.add_assoc] at this; exact this
      · cases h
    case h_9 =>
      rename_i cs0 _ _ fs hu
      rw [hu] at hst
      simp only [Bool.and_eq_true, List.all_eq_true, List.contains_iff_mem] at hst
      split at h
      · rename_i hq
        simp only [Option.map_eq_some_iff] at h
        obtain ⟨xs, h1, _⟩ := h
        obtain ⟨h3, h4⟩ := mapM_some _ h1
        have each : ∀ f ∈ fs.toList, ∃ p : List AV, Rs σ p ((cs0.drop f.offset).take (P.cellsOf f.type)) ∧ Ty P fuel f.type p := fun f hf => by
          obtain ⟨j, hj⟩ := List.mem_iff_getElem?.1 hf
          obtain ⟨y, _, h6⟩ := h4 j f hj
          exact ih f.type _ y (hst.1 f hf) h6
        obtain ⟨ps, h5, h6⟩ := choose_list fs.toList each
        have hfl := contig_flat (P := P) hq 0 fs.toList hst.2
        rw [List.drop_zero] at hfl
        have hR : Rs σ ps.flatten cs0 := by
          rw [← hfl]
          refine Rs_flatten (by simp [h5]) fun j p y hp hy => ?_
          simp only [List.getElem?_map, Option.map_eq_some_iff] at hy
          obtain ⟨f, hf, rfl⟩ := hy
          exact (h6 j f p hf hp).1
        refine ⟨ps.flatten, hR, ?_⟩
        simp only [Ty, hu]
        refine ⟨ps, by simpa using h5, fun j f p hf hp => ?_, rfl⟩
        obtain ⟨h7, h8⟩ := h6 j f p (by simpa using hf) hp
        refine ⟨h8, ?_⟩
        have hl := Rs_length _ _ h7
        rw [← hl]
        have hb := (contig_fits (P := P) 0 fs.toList hst.2).1 f (List.mem_of_getElem? (by simpa using hf))
        simp; omega
      · cases h
    case h_10 =>
      rename_i cs0 _ _ n e hu
      rw [hu] at hst
      simp only [Bool.and_eq_true, List.contains_iff_mem, beq_iff_eq] at hst
      split at h
      · rename_i hq
        simp only [Option.map_eq_some_iff] at h
        obtain ⟨xs, h1, _⟩ := h
        obtain ⟨h3, h4⟩ := mapM_some _ h1
        have each : ∀ i ∈ List.range n, ∃ p : List AV, Rs σ p ((cs0.drop (i * P.cellsOf e)).take (P.cellsOf e)) ∧ Ty P fuel e p := fun i hi => by
          obtain ⟨y, _, h6⟩ := h4 i i (List.getElem?_range (List.mem_range.1 hi))
          exact ih e _ y hst.1 h6
        obtain ⟨ps, h5, h6⟩ := choose_list (List.range n) each
        simp only [List.length_range] at h5
        have hfl := range_flat (k := P.cellsOf e) (cs := cs0) n 0 (by omega)
        rw [List.drop_zero, ← List.range_eq_range'] at hfl
        simp only [Nat.zero_add] at hfl
        have hpj : ∀ (j : Nat) (p : List AV), ps[j]? = some p → j < n ∧ Rs σ p ((cs0.drop (j * P.cellsOf e)).take (P.cellsOf e)) ∧ Ty P fuel e p := fun j p hp => by
          have hj : j < n := by have := (List.getElem?_eq_some_iff.1 hp).1; omega
          obtain ⟨h7, h8⟩ := h6 j j p (List.getElem?_range hj) hp
          exact ⟨hj, h7, h8⟩
        have hR : Rs σ ps.flatten cs0 := by
          rw [← hfl]
          refine Rs_flatten (by simp [h5]) fun j p y hp hy => ?_
          obtain ⟨hj, h7, _⟩ := hpj j p hp
          simp only [List.getElem?_map, List.getElem?_range hj, Option.map_some, Option.some.injEq] at hy
          subst hy; exact h7
        refine ⟨ps.flatten, hR, ?_⟩
        simp only [Ty, hu]
        refine ⟨ps, h5, fun p hp => ?_, rfl⟩
        obtain ⟨j, hj⟩ := List.mem_iff_getElem?.1 hp
        obtain ⟨hjn, h7, h8⟩ := hpj j p hj
        refine ⟨h8, ?_⟩
        have hl := Rs_length _ _ h7
        rw [← hl]
        have : (j + 1) * P.cellsOf e ≤ n * P.cellsOf e := Nat.mul_le_mul_right _ hjn
        rw [Nat.succ_mul] at this
        simp; omega
      · cases h
    all_goals first | (cases h; done) | (rename P.underlying t = _ => hu; rw [hu] at hst; simp at hst)
end
end Fw


/- From a run of the abstract machine to a law's row. -/
namespace Fw
open Go Go.RowKit Go.ChangeShapes Go.WideShapes Go.ChangeAt

section
variable {P : Program} {H : Type} {enc : TypeId × Value → H} {W W' : World}

theorem trodAll_below (hl : laidOutB P = true) (hb : Below W.heap.size W W') : ∀ {ts : List TypeId} {vs : List Value} {ds : List (DataW H)} {ps : List MemPlace}, (∀ t ∈ ts, P.readableRec t = true ∧ t < P.types.size) →
    DataW.TrodAll enc P W 0 (fun _ => true) true ts vs ds ps → (∀ x ∈ ps, x.block < W.heap.size) → ∀ sp : Nat → Bool, (∀ p ∈ ps, sp p.block = true) → DataW.TrodAll enc P W' 0 sp true ts vs ds ps
  | [], [], [], ps, _, h, _, _, _ => h
  | t :: ts, v :: vs, d :: ds, ps, ht, h, hlt, sp, hsp => by
    obtain ⟨p, q, h1, h2, rfl⟩ := h
    refine ⟨p, q, WideElems.Trod_stays hl (ht t (by simp)).1 (ht t (by simp)).2 h1 (fun x hx => hb.same (hlt x (by simp [hx]))) (fun x hx => hsp x (by simp [hx])), ?_, rfl⟩
    exact trodAll_below hl hb (fun t' ht' => ht t' (by simp [ht'])) h2 (fun x hx => hlt x (by simp [hx])) sp fun x hx => hsp x (by simp [hx])
  | [], _ :: _, _, _, _, h, _, _, _ => h.elim
  | [], [], _ :: _, _, _, h, _, _, _ => h.elim
  | _ :: _, [], _, _, _, h, _, _, _ => h.elim
  | _ :: _, _ :: _, [], _, _, h, _, _, _ => h.elim

/-- A law's answer: true; the arguments read as they did. -/
theorem post_true {fn : Func} {s : ChangeSpec} {apart fresh handsOn again : Bool} {args : Array Value} {ds gs : List (DataW H)} {before : List MemPlace} {tb : TypeId} (hl : laidOutB P = true) (hW : DataW.Whole enc P fn.params.toList s.vars apart W args.toList ds gs before)
    (hb : Below W.heap.size W W') (hpar : ∀ t ∈ fn.params.toList, P.readableRec t = true ∧ t < P.types.size) (hvars : s.vars = []) (hres : fn.resultTypes = #[tb]) (htb : P.underlying tb = some .bool)
    (hspec : s.fn H (ds ++ gs) = { results := [.lit (.bool true)], args := ds }) : s.post enc P fn apart fresh handsOn again W args (.bool true) W' := by
  have hold : ∀ p ∈ before, (fun b => decide (b < W.heap.size)) p.block = true := fun p hp => by simpa using hW.lt p hp
  have hlt := hW.lt
  have hW0 := hW
  obtain ⟨p, q, hA, hV, rfl, hz, hn⟩ := hW0
  rw [hvars] at hV
  cases gs with
  | cons g gs => exact hV.elim
  | nil =>
    have hq : q = [] := hV
    subst hq
    have hsz : fn.resultTypes.size = 1 := by rw [hres]; rfl
    have hargs : ∀ sp : Nat → Bool, (∀ x ∈ p, sp x.block = true) → DataW.TrodAll enc P W' 0 sp true fn.params.toList args.toList ds p := trodAll_below hl hb hpar hA fun x hx => hlt x (by simpa using hx)
    have hr : ∀ (b : Nat) (sp : Nat → Bool) (hd : Bool), DataW.TrodAll enc P W' b sp hd fn.resultTypes.toList ((Value.bool true).resultList fn.resultTypes.size) [.lit (.bool true)] [] := fun b sp hd => by
      rw [hres]; exact trodAll_mk1 (shut_bool htb _)
    refine ⟨ds, [], p ++ [], [], p, [], hW, by rw [hspec]; exact hr _ _ _, by rw [hspec]; exact hargs _ fun x hx => hold x (by simpa using hx), by rw [hspec, hvars]; rfl, World.keptBut_mono (fun x hx => hx) (hb.frame _), fun _ => ?_⟩
    refine ⟨?_, _, _, ([] ++ p) ++ [], ⟨[] ++ p, [], trodAll_append (hargs _ (fun _ _ => rfl)) (hr _ _ _), (show DataW.TrodVars enc P W' (fun _ => true) s.vars [] [] from by rw [hvars]; rfl), rfl, ?_, ?_⟩, ?_⟩
    · exact ok_one hres rfl (okWide_bool_mk htb _)
    · intro b off hp
      have hb' : b < W.heap.size := hlt (.cell b off) (by simpa using hp)
      rw [Below.frozen hb (p := ⟨b, off, none⟩) hb']
      exact hz b off (by simpa using hp)
    · intro ha; simpa using hn ha
    · intro x hx _; simpa using hx

/-- An argument, typed. -/
def TyArg (P : Program) (t : TypeId) (a : AV) : Prop := match P.underlying t with
  | some (.struct _) => ∃ fuel cs, a = .agg cs ∧ Ty P fuel t cs
  | some (.array _ _) => ∃ fuel cs, a = .agg cs ∧ Ty P fuel t cs
  | _ => ∃ fuel, Ty P fuel t [a]

def TyArgs (P : Program) : List TypeId → List AV → Prop
  | [], as => as = []
  | t :: ts, as => ∃ a rest, as = a :: rest ∧ TyArg P t a ∧ TyArgs P ts rest


theorem arg_R {S : List TypeId} (hS : simpleSet P S = true) {t : TypeId} (ht : t ∈ S) {v : Value} {base : Nat} (hok : Value.okWide P W .any base t v) {d : DataW H} {ps : List MemPlace} (h : DataW.Trod enc P W 0 (fun _ => true) true t v d ps) :
    ∃ a, R (firstGh W) a v ∧ TyArg P t a := by
  obtain ⟨fuel, h⟩ := h
  obtain ⟨as, h1, h2⟩ := trod_Rs (σ := firstGh W) hS (fun _ _ _ h => h) fuel t _ _ ht h
  have hst := List.all_eq_true.1 hS t ht
  have agg : (∃ fs, P.underlying t = some (.struct fs)) ∨ (∃ n e, P.underlying t = some (.array n e)) → ∃ a, R (firstGh W) a v ∧ TyArg P t a := fun hag => by
    have hv : ∃ cs, v = .agg cs := by
      rcases hag with ⟨fs, hu⟩ | ⟨n, e, hu⟩ <;> · simp only [Value.okWide, hu] at hok; obtain ⟨cs, h3, _⟩ := hok; exact ⟨cs, h3⟩
    obtain ⟨cs, rfl⟩ := hv
    refine ⟨.agg as, by simp only [R]; exact ⟨cs, rfl, h1⟩, ?_⟩
    rcases hag with ⟨fs, hu⟩ | ⟨n, e, hu⟩ <;> · simp only [TyArg, hu]; exact ⟨fuel, as, rfl, h2⟩
  have one : (∀ cs, v ≠ .agg cs) → (TyArg P t = fun a => ∃ fuel, Ty P fuel t [a]) → ∃ a, R (firstGh W) a v ∧ TyArg P t a := fun hv hu => by
    have hc : v.cells.toList = [v] := by cases v <;> first | rfl | exact absurd rfl (hv _)
    rw [hc] at h1
    have hl := Rs_length _ _ h1
    match as, hl with
    | [a], _ =>
      simp only [Rs] at h1
      obtain ⟨_, _, h3, h4, _⟩ := h1
      cases h3
      refine ⟨a, h4, ?_⟩
      rw [hu]; exact ⟨fuel, h2⟩
  have notagg : ∀ d, P.underlying t = some d → (∀ fs, d ≠ .struct fs) → (∀ n e, d ≠ .array n e) → ∀ cs, v ≠ .agg cs := fun d hu hn1 hn2 cs e => by
    subst e
    unfold Value.okWide at hok
    rw [hu] at hok
    cases d <;> first | exact absurd rfl (hn1 _) | exact absurd rfl (hn2 _ _) | (simp [Cell.okWide, hu, Cell.ok] at hok)
  split at hst
  case h_1 hu => exact one (notagg _ hu (by simp) (by simp)) (by funext a; simp [TyArg, hu])
  case h_2 k hu => exact one (notagg _ hu (by simp) (by simp)) (by funext a; simp [TyArg, hu])
  case h_3 hu => exact one (notagg _ hu (by simp) (by simp)) (by funext a; simp [TyArg, hu])
  case h_4 e hu => exact one (notagg _ hu (by simp) (by simp)) (by funext a; simp [TyArg, hu])
  case h_5 fs hu => exact agg (.inl ⟨fs, hu⟩)
  case h_6 n e hu => exact agg (.inr ⟨n, e, hu⟩)
  case h_7 => cases hst

theorem Ty_al {p : Nat → Bool} : ∀ (fuel : Nat) (t : TypeId) (as : List AV), Ty P fuel t as → alAll p as = true
  | 0, _, _, h => h.elim
  | fuel + 1, t, as, h => by
    have ih := Ty_al (p := p) fuel
    simp only [Ty] at h
    split at h
    · obtain ⟨b, rfl⟩ := h; rfl
    · obtain ⟨n, rfl, _⟩ := h; rfl
    · obtain ⟨s, rfl, _⟩ := h; rfl
    · rename_i e _
      rcases h with rfl | ⟨es, h1, _, rfl⟩
      · rfl
      · simp only [alAll, AV.al, Own.al, Bool.and_true, Bool.true_and]
        rw [alAll_iff]; intro a ha
        obtain ⟨x, hx, hax⟩ := List.mem_flatten.1 ha
        exact (alAll_iff x).1 (ih e x (h1 x hx).1) a hax
    · rename_i fs _
      obtain ⟨ps, h1, h2, rfl⟩ := h
      rw [alAll_iff]; intro a ha
      obtain ⟨x, hx, hax⟩ := List.mem_flatten.1 ha
      obtain ⟨j, hj⟩ := List.mem_iff_getElem?.1 hx
      have hjl : j < fs.size := by have := (List.getElem?_eq_some_iff.1 hj).1; omega
      exact (alAll_iff x).1 (ih _ x (h2 j fs[j] x (Array.getElem?_eq_getElem hjl) hj).1) a hax
    · rename_i n e _
      obtain ⟨ps, h1, h2, rfl⟩ := h
      rw [alAll_iff]; intro a ha
      obtain ⟨x, hx, hax⟩ := List.mem_flatten.1 ha
      exact (alAll_iff x).1 (ih e x (h2 x hx).1) a hax
    · exact h.elim

theorem TyArgs_al {p : Nat → Bool} : ∀ {ts : List TypeId} {as : List AV}, TyArgs P ts as → alAll p as = true
  | [], as, h => by have : as = [] := h; subst this; rfl
  | t :: ts, as, h => by
    obtain ⟨a, rest, rfl, h1, h2⟩ := h
    simp only [alAll, TyArgs_al h2, Bool.and_true]
    unfold TyArg at h1
    split at h1
    · obtain ⟨f, cs, rfl, h3⟩ := h1; simpa [AV.al] using Ty_al f t cs h3
    · obtain ⟨f, cs, rfl, h3⟩ := h1; simpa [AV.al] using Ty_al f t cs h3
    · obtain ⟨f, h3⟩ := h1; simpa [alAll] using Ty_al (p := p) f t _ h3

theorem args_R {S : List TypeId} (hS : simpleSet P S = true) {base : Nat} : ∀ {ts : List TypeId} {vs : List Value} {ds : List (DataW H)} {ps : List MemPlace}, (∀ t ∈ ts, t ∈ S) → (∀ (j : Nat) (t : TypeId) (v : Value), ts[j]? = some t → vs[j]? = some v → Value.okWide P W .any base t v) →
    DataW.TrodAll enc P W 0 (fun _ => true) true ts vs ds ps → ∃ as, Rs (firstGh W) as vs ∧ TyArgs P ts as
  | [], [], [], _, _, _, _ => ⟨[], by simp [Rs], rfl⟩
  | t :: ts, v :: vs, d :: ds, ps, ht, hok, h => by
    obtain ⟨p, q, h1, h2, _⟩ := h
    obtain ⟨a, h3, h4⟩ := arg_R hS (ht t (by simp)) (hok 0 t v rfl rfl) h1
    obtain ⟨as, h5, h6⟩ := args_R hS (fun t' ht' => ht t' (by simp [ht'])) (fun j t' v' hj hv => hok (j + 1) t' v' (by simpa using hj) (by simpa using hv)) h2
    exact ⟨a :: as, by simp only [Rs]; exact ⟨v, vs, rfl, h3, h5⟩, a, as, rfl, h4, h6⟩
  | [], _ :: _, _, _, _, _, h => h.elim
  | [], [], _ :: _, _, _, _, h => h.elim
  | _ :: _, [], _, _, _, _, h => h.elim
  | _ :: _, _ :: _, [], _, _, _, h => h.elim


theorem trodAll_len {base : Nat} {sp : Nat → Bool} {hd : Bool} : ∀ {ts : List TypeId} {vs : List Value} {ds : List (DataW H)} {ps : List MemPlace}, DataW.TrodAll enc P W base sp hd ts vs ds ps → ds.length = ts.length
  | [], [], [], _, _ => rfl
  | t :: ts, v :: vs, d :: ds, ps, h => by obtain ⟨_, _, _, h2, _⟩ := h; simp [trodAll_len h2]
  | [], _ :: _, _, _, h => h.elim
  | [], [], _ :: _, _, h => h.elim
  | _ :: _, [], _, _, h => h.elim
  | _ :: _, _ :: _, [], _, h => h.elim

end
end Fw


/- Typed arguments, opened. -/
namespace Fw
open Go Go.RowKit
section
variable {P : Program}
theorem Ty_string {t : TypeId} (h : P.underlying t = some .string) : ∀ {f : Nat} {as : List AV}, Ty P f t as → ∃ s, as = [.str s] ∧ s.length ≤ maxLen
  | 0, _, h0 => h0.elim
  | f + 1, as, h0 => by simpa only [Ty, h] using h0
theorem Ty_int {t : TypeId} {k : IntKind} (h : P.underlying t = some (.int k)) : ∀ {f : Nat} {as : List AV}, Ty P f t as → ∃ n, as = [.int k n] ∧ (Lit.int k n).wf = true
  | 0, _, h0 => h0.elim
  | f + 1, as, h0 => by simpa only [Ty, h] using h0

theorem Ty_slice {t e : TypeId} (h : P.underlying t = some (.slice e)) : ∀ {f : Nat} {as : List AV}, Ty P f t as → as = [.nilslice] ∨ ∃ f', f' < f ∧ ∃ es : List (List AV), (∀ x ∈ es, Ty P f' e x ∧ x.length = P.cellsOf e) ∧ es.length ≤ maxLen ∧ as = [.slice es.flatten es.length .no]
  | 0, _, h0 => h0.elim
  | f + 1, as, h0 => by
    simp only [Ty, h] at h0
    rcases h0 with h0 | ⟨es, h1, h2, h3⟩
    · exact .inl h0
    · exact .inr ⟨f, Nat.lt_succ_self f, es, h1, h2, h3⟩

theorem TyArg_string {t : TypeId} (h : P.underlying t = some .string) {a : AV} (ha : TyArg P t a) : ∃ s, a = .str s ∧ s.length ≤ maxLen := by
  simp only [TyArg, h] at ha
  obtain ⟨f, ha⟩ := ha
  obtain ⟨s, h1, h2⟩ := Ty_string h ha
  exact ⟨s, by simpa using h1, h2⟩
theorem TyArg_int {t : TypeId} {k : IntKind} (h : P.underlying t = some (.int k)) {a : AV} (ha : TyArg P t a) : ∃ n, a = .int k n ∧ (Lit.int k n).wf = true := by
  simp only [TyArg, h] at ha
  obtain ⟨f, ha⟩ := ha
  obtain ⟨s, h1, h2⟩ := Ty_int h ha
  exact ⟨s, by simpa using h1, h2⟩
theorem TyArg_slice {t e : TypeId} (h : P.underlying t = some (.slice e)) {a : AV} (ha : TyArg P t a) : a = .nilslice ∨ ∃ f, ∃ es : List (List AV), (∀ x ∈ es, Ty P f e x ∧ x.length = P.cellsOf e) ∧ es.length ≤ maxLen ∧ a = .slice es.flatten es.length .no := by
  simp only [TyArg, h] at ha
  obtain ⟨f, ha⟩ := ha
  rcases Ty_slice h ha with h1 | ⟨f', _, es, h1, h2, h3⟩
  · exact .inl (by simpa using h1)
  · exact .inr ⟨f', es, h1, h2, by simpa using h3⟩
end
end Fw
