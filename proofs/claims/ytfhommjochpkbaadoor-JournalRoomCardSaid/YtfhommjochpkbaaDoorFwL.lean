/- Parts of the proof, one behind the other. -/
import Derived.Test.YtfhommjochpkbaaDoorFwG
import Derived.Test.YtfhommjochpkbaaDoorFwX
import Derived.ProofKit
import Derived.LaidMore
import Derived.Stop.Joined
import Derived.Lib.LaidTab
import Derived.Shelf.Spec.BitsCarry
import Derived.JoinedCond
import Derived.Handed
set_option linter.unusedSimpArgs false
set_option linter.unusedVariables false
set_option linter.unusedSectionVars false

/- Rows that list what package-level variables hold: the tables that a law's run reads; the two carries of math/bits. -/
namespace Fw
open Go Go.RowKit Go.ChangeShapes Go.WideShapes Go.ChangeAt

section
variable {P : Program} {H : Type} {enc : TypeId × Value → H} {W W' : World}

theorem inv1 {gl : Nat → Option (List AV)} (hgl : ∀ n cs, gl n = some cs → alAll (fun _ => false) cs = true ∧ RC (firstGh W) cs n 0) : Inv (bs0 W gl) (firstGh W) st0.get W :=
  ⟨Below.refl _ _, fun n cs h => hgl n cs h, fun _ _ _ h => h, fun id o h => by simp [st0, St.get, look] at h, fun i j oi oj h => by simp [st0, St.get, look] at h⟩

theorem laid_mem {L : List (String × DataW Unit)} {ps : List MemPlace} (h : DataW.LaidVars P W L ps) {n : String} {d : DataW Unit} (hm : (n, d) ∈ L) :
    ∃ g t cs fuel p, P.globalNamed n = some g ∧ (P.globals[g]?).map (·.type) = some t ∧ W.var? P n = some cs ∧ DataW.trod (fun _ => ()) P W 0 (fun _ => true) false fuel t cs.toList = some (d, p) := by
  induction L generalizing ps with
  | nil => simp at hm
  | cons x L ih =>
    obtain ⟨n', d'⟩ := x
    obtain ⟨g, t, cs, fuel, p, q, h1, h2, h3, h4, h5, _⟩ := h
    rcases List.mem_cons.1 hm with e | hm
    · cases e; exact ⟨g, t, cs, fuel, p, h1, h2, h3, h4⟩
    · exact ih h5 hm

theorem laidH_mem {L : List (String × DataW Unit)} (h : laidMetH P L W) {n : String} {d : DataW Unit} (hm : (n, d) ∈ L) (hd : d.handleName? = none) :
    ∃ g t cs fuel p, P.globalNamed n = some g ∧ (P.globals[g]?).map (·.type) = some t ∧ W.var? P n = some cs ∧ DataW.trod (fun _ => ()) P W 0 (fun _ => true) false fuel t cs.toList = some (d, p) := by
  unfold laidMetH at h
  split at h
  · obtain ⟨ps, h1, _⟩ := h
    exact laid_mem h1 hm
  · obtain ⟨⟨ps, h1, _⟩, _⟩ := h
    exact laid_mem h1 (List.mem_filter.2 ⟨hm, by simp [hd]⟩)

theorem tab_RC {name : String} {k : IntKind} {zs : List Int} {g : Nat} (h : Lib.TabIs P W name k zs) (hg : P.globalNamed name = some g) : RC (firstGh W) (zs.map (AV.int k)) g 0 := by
  have key : ∀ (n i : Nat), i + n = zs.length → RC (firstGh W) ((zs.drop i).map (AV.int k)) g i := by
    intro n
    induction n with
    | zero => intro i hi; rw [List.drop_eq_nil_of_le (by omega)]; simp [RC]
    | succ n ih =>
      intro i hi
      have hlt : i < zs.length := by omega
      rw [List.drop_eq_getElem_cons hlt, List.map_cons]
      simp only [RC]
      refine ⟨⟨.int k zs[i], ?_, by simp [R]⟩, ih (i + 1) (by omega)⟩
      have := h.cell hg i hlt
      have h2 : W.cell? ⟨g, i, none⟩ = some (.int k zs[i]) := by simpa [List.getD, hlt] using this
      exact h2
  simpa using key zs.length 0 (by omega)

theorem laid_tab {L : List (String × DataW Unit)} (h : laidMetH P L W) {name : String} {k : IntKind} {zs : List Int} (hm : (name, Lib.tabData k zs) ∈ L) {g : Nat} {t e : TypeId} {n : Nat}
    (hg : P.globalNamed name = some g) (hty : (P.globals[g]?).map (·.type) = some t) (ht : P.underlying t = some (.array n e)) (he : P.underlying e = some (.int k)) (hce : P.cellsOf e = 1) (hct : P.cellsOf t = n) :
    alAll (fun _ => false) (zs.map (AV.int k)) = true ∧ RC (firstGh W) (zs.map (AV.int k)) g 0 := by
  obtain ⟨g', t', cs, fuel, p, hg', ht', hvar, hd⟩ := laidH_mem h hm rfl
  obtain rfl := Option.some.inj (hg.symm.trans hg')
  obtain rfl := Option.some.inj (hty.symm.trans ht')
  refine ⟨(alAll_iff _).2 fun a ha => ?_, tab_RC (name := name) ?_ hg⟩
  · obtain ⟨z, _, rfl⟩ := List.mem_map.1 ha; rfl
  · unfold Lib.TabIs
    rw [hvar, ← Lib.cells_of_tab ht he hce hct hd]

end

/- math/bits -/
section
variable {P : Program}
end
end Fw


/- Arguments of a bulk at most: texts and lists are as short as the bulk says. -/
namespace Fw
open Go Go.RowKit Go.ChangeShapes Go.WideShapes Go.ChangeAt
/-- A measure of readings that bounds texts and lists. -/
structure Bulk {H : Type} (B : Nat) (Q : DataW H → Prop) : Prop where
  str : ∀ s, Q (.lit (.string s)) → s.length ≤ B
  sl : ∀ es r, Q (.slice es r) → es.length ≤ B ∧ ∀ d ∈ es, Q d
  ag : ∀ es, Q (.agg es) → ∀ d ∈ es, Q d
section
variable {P : Program} {σ : Gh} {W : World} {H : Type} {enc : TypeId × Value → H}

end
end Fw


/- Arguments as large as a machine grants: no text is longer than its memory reaches. -/
namespace Fw
open Go Go.RowKit Go.ChangeShapes Go.WideShapes Go.ChangeAt
mutual
/-- No text is longer. -/
def txtA (B : Nat) : AV → Bool
  | .str s => decide (s.length ≤ B)
  | .slice cs _ _ => txtAll B cs
  | .agg cs => txtAll B cs
  | _ => true
def txtAll (B : Nat) : List AV → Bool
  | [] => true
  | a :: l => txtA B a && txtAll B l
end
theorem txtAll_app {B : Nat} : ∀ (l m : List AV), txtAll B (l ++ m) = (txtAll B l && txtAll B m)
  | [], m => by simp [txtAll]
  | a :: l, m => by simp [txtAll, txtAll_app l m, Bool.and_assoc]
theorem txtAll_flatten {B : Nat} : ∀ {es : List (List AV)}, (∀ x ∈ es, txtAll B x = true) → txtAll B es.flatten = true
  | [], _ => rfl
  | x :: es, h => by
    rw [List.flatten_cons, txtAll_app, h x (by simp), txtAll_flatten (fun y hy => h y (by simp [hy]))]; rfl
/-- A measure of readings, by their types, that bounds texts. -/
structure BulkT {H : Type} (P : Program) (B : Nat) (Q : TypeId → DataW H → Prop) : Prop where
  str : ∀ {t s}, Q t (.lit (.string s)) → s.length ≤ B
  sl : ∀ {t e es r}, P.underlying t = some (.slice e) → Q t (.slice es r) → ∀ d ∈ es, Q e d
  st : ∀ {t fs ds}, P.underlying t = some (.struct fs) → Q t (.agg ds) → ∀ (j : Nat) (f : Field) (d : DataW H), fs.toList[j]? = some f → ds[j]? = some d → Q f.type d
  ar : ∀ {t n e ds}, P.underlying t = some (.array n e) → Q t (.agg ds) → ∀ d ∈ ds, Q e d
def WQ {H : Type} (P : Program) (t : TypeId) (d : DataW H) : Prop := (d.weights P t).all (· ≤ reachBytes) = true
theorem all_each {P : Program} {H : Type} {p : Nat → Bool} {e : TypeId} : ∀ {l : List (DataW H)}, (DataW.weightsAll P e l).all p = true → ∀ d ∈ l, (d.weights P e).all p = true
  | x :: l, h, d, hd => by
    simp only [DataW.weightsAll, List.all_append, Bool.and_eq_true] at h
    rcases List.mem_cons.1 hd with rfl | hd
    · exact h.1
    · exact all_each h.2 d hd
theorem each_each {P : Program} {H : Type} {p : Nat → Bool} : ∀ {ts : List TypeId} {l : List (DataW H)}, (DataW.weightsEach P ts l).all p = true → ∀ (j : Nat) (t : TypeId) (d : DataW H), ts[j]? = some t → l[j]? = some d → (d.weights P t).all p = true
  | [], _, _, j, t, d, ht, _ => by simp at ht
  | _ :: _, [], _, j, t, d, _, hd => by simp at hd
  | u :: ts, x :: l, h, 0, t, d, ht, hd => by
    simp only [DataW.weightsEach, List.all_append, Bool.and_eq_true] at h
    simp at ht hd; subst ht hd; exact h.1
  | u :: ts, x :: l, h, j + 1, t, d, ht, hd => by
    simp only [DataW.weightsEach, List.all_append, Bool.and_eq_true] at h
    exact each_each h.2 j t d (by simpa using ht) (by simpa using hd)
theorem bulk_WQ {H : Type} (P : Program) : BulkT P reachBytes (WQ (H := H) P) := by
  refine ⟨fun h => ?_, fun hu h d hd => ?_, fun hu h j f d hj hd => ?_, fun hu h d hd => ?_⟩
  · simpa [WQ, DataW.weights] using h
  · unfold WQ at h ⊢
    simp only [DataW.weights, hu, List.all_cons, List.all_append, Bool.and_eq_true] at h
    exact all_each h.2.1 d hd
  · unfold WQ at h ⊢
    simp only [DataW.weights, hu] at h
    exact each_each h j f.type d (by rw [List.getElem?_map, hj]; rfl) hd
  · unfold WQ at h ⊢
    simp only [DataW.weights, hu] at h
    exact all_each h d hd
section
variable {P : Program} {σ : Gh} {W : World} {H : Type} {enc : TypeId × Value → H}

/-- A simple type's cells are each a value of the machine. -/
theorem trod_Rs3 {B : Nat} {Q : TypeId → DataW H → Prop} (hQ : BulkT P B Q) {S : List TypeId} (hS : simpleSet P S = true) (hσ : ∀ b o v, W.cell? ⟨b, o, none⟩ = some v → σ.G b o v) {base : Nat} {held : Bool} :
    ∀ (fuel : Nat) (t : TypeId) (cs : List Value) (x : DataW H × List MemPlace), t ∈ S → DataW.trod enc P W base (fun _ => true) held fuel t cs = some x → Q t x.1 → ∃ as0, Rs σ as0 cs ∧ Ty P fuel t as0 ∧ txtAll B as0 = true
  | 0, t, cs, x, _, h, _ => by simp [DataW.trod] at h
  | fuel + 1, t, cs, x, ht, h, hx => by
    have hst := List.all_eq_true.1 hS t ht
    have ih := trod_Rs3 hQ hS hσ (base := base) (held := held) fuel
    simp only [DataW.trod] at h
    split at h
    case h_1 hu =>
      rename_i b
      exact ⟨[.bool b], by simp [Rs, R], by simp only [Ty, hu]; exact ⟨b, rfl⟩, rfl⟩
    case h_2 k k' n hu =>
      split at h
      · rename_i hq
        obtain ⟨rfl, hwf⟩ := hq
        exact ⟨[.int k' n], by simp [Rs, R], by simp only [Ty, hu]; exact ⟨n, rfl, hwf⟩, rfl⟩
      · cases h
    case h_4 str hu =>
      split at h
      · rename_i hq
        cases h
        have hb := hQ.str hx
        refine ⟨[.str str.data.toList], by simp [Rs, R], by simp only [Ty, hu]; exact ⟨_, rfl, by rw [Array.length_toList]; exact hq⟩, ?_⟩
        simp only [txtAll, txtA, Bool.and_true]
        exact decide_eq_true hb
      · cases h
    case h_7 hu => exact ⟨[.nilslice], by simp [Rs, R], by simp [Ty, hu], rfl⟩
    case h_8 e a len cap hu =>
      rw [hu] at hst
      simp only [Bool.and_eq_true, List.contains_iff_mem, decide_eq_true_eq] at hst
      split at h
      · rename_i hq
        simp only [Option.bind_eq_some_iff, if_true, Option.map_eq_some_iff] at h
        obtain ⟨elems, h1, rest, h2, he⟩ := h
        subst he
        have hqe := hQ.sl hu hx
        obtain ⟨h3, h4⟩ := mapM_some _ h1
        simp only [List.length_range] at h3
        have each : ∀ i ∈ List.range len, ∃ p : List AV × List Value, Rs σ p.1 p.2 ∧ (Ty P fuel e p.1 ∧ txtAll B p.1 = true) ∧ p.1.length = P.cellsOf e ∧ ∀ (j : Nat) (v : Value), p.2[j]? = some v → W.cell? ((a.add (i * P.cellsOf e)).add j) = some v := fun i hi => by
          have hi' : i < len := List.mem_range.1 hi
          obtain ⟨y, h5, h6⟩ := h4 i i (by simp [hi'])
          simp only [Option.bind_eq_some_iff] at h6
          obtain ⟨cs', h7, h8⟩ := h6
          obtain ⟨h9, h10⟩ := cells?_get h7
          obtain ⟨as0, h11, h12, h13⟩ := ih e cs' y hst.1 h8 (hqe _ (List.mem_map_of_mem (List.mem_of_getElem? h5)))
          exact ⟨(as0, cs'), h11, ⟨h12, h13⟩, by rw [← Rs_length _ _ h11]; exact h9, h10⟩
        obtain ⟨ps, h5, h6⟩ := choose_list (List.range len) each
        simp only [List.length_range] at h5
        have hp : ∀ (j : Nat) (p : List AV × List Value), ps[j]? = some p → Rs σ p.1 p.2 ∧ (Ty P fuel e p.1 ∧ txtAll B p.1 = true) ∧ p.1.length = P.cellsOf e ∧ ∀ (i : Nat) (v : Value), p.2[i]? = some v → W.cell? ((a.add (j * P.cellsOf e)).add i) = some v := fun j p hj => by
          have hjl : j < len := by have := (List.getElem?_eq_some_iff.1 hj).1; omega
          exact h6 j j p (by simp [hjl]) hj
        have hty : ∀ x ∈ ps.map (·.1), Ty P fuel e x ∧ x.length = P.cellsOf e := fun x hx => by
          obtain ⟨p, hp1, rfl⟩ := List.mem_map.1 hx
          obtain ⟨j, hj⟩ := List.mem_iff_getElem?.1 hp1
          exact ⟨(hp j p hj).2.1.1, (hp j p hj).2.2.1⟩
        have hsh : ∀ x ∈ ps.map (·.1), txtAll B x = true := fun x hx => by
          obtain ⟨p, hp1, rfl⟩ := List.mem_map.1 hx
          obtain ⟨j, hj⟩ := List.mem_iff_getElem?.1 hp1
          exact (hp j p hj).2.1.2
        refine ⟨[.slice ((ps.map (·.1)).flatten) (ps.map (·.1)).length .no], ?_, by simp only [Ty, hu]; exact .inr ⟨ps.map (·.1), hty, by simp; omega, rfl⟩, by
          simp only [txtAll, txtA, Bool.and_true, txtAll_flatten hsh]⟩
        simp only [Rs]
        refine ⟨_, [], rfl, ?_, rfl⟩
        simp only [R, List.length_map, h5]
        -- an address with a spot has no cells at all
        by_cases hcap : cap = 0
        · subst hcap
          have hl0 : len = 0 := by omega
          subst hl0
          have : ps = [] := List.eq_nil_of_length_eq_zero h5
          subst this
          exact .inr ⟨rfl, rfl, by simp, a, rfl⟩
        · have hsp : a.spot = none := by
            have hadd : ∀ i : Nat, i * P.cellsOf e = 0 → a.add (i * P.cellsOf e) = a := fun i hi => by rw [hi]; rfl
            by_cases hl0 : len = 0
            · obtain ⟨h7, h8⟩ := mapM_some _ h2
              obtain ⟨y, _, h9⟩ := h8 0 0 (List.getElem?_range (by omega))
              simp only [Option.bind_eq_some_iff] at h9
              obtain ⟨cs', h10, _⟩ := h9
              obtain ⟨h11, h12⟩ := cells?_get h10
              obtain ⟨v0, hv0⟩ : ∃ v0, cs'[0]? = some v0 := ⟨cs'[0]'(by omega), List.getElem?_eq_getElem (by omega)⟩
              have := h12 0 v0 hv0
              rw [hl0, Nat.zero_add, hadd 0 (by simp)] at this
              exact cell_spot this
            · obtain ⟨p0, hp0⟩ : ∃ p0, ps[0]? = some p0 := ⟨ps[0]'(by omega), List.getElem?_eq_getElem (by omega)⟩
              obtain ⟨q1, _, q3, q4⟩ := hp 0 p0 hp0
              have hl1 := Rs_length _ _ q1
              obtain ⟨v0, hv0⟩ : ∃ v0, p0.2[0]? = some v0 := ⟨p0.2[0]'(by omega), List.getElem?_eq_getElem (by omega)⟩
              have := q4 0 v0 hv0
              rw [hadd 0 (by simp)] at this
              exact cell_spot this
          obtain ⟨ab, ao, asp⟩ := a
          dsimp only at hsp; subst hsp
          refine .inl ⟨ab, ao, cap, rfl, hq.2.1, trivial, ?_⟩
          have hRs : Rs σ (ps.map (·.1)).flatten (ps.map (·.2)).flatten := Rs_flatten (by simp) fun j x y hx hy => by
            simp only [List.getElem?_map, Option.map_eq_some_iff] at hx hy
            obtain ⟨p, hp1, rfl⟩ := hx
            obtain ⟨p', hp2, rfl⟩ := hy
            rw [hp1] at hp2; cases hp2
            exact (hp j p hp1).1
          refine RC_of hRs fun j v hv => hσ _ _ _ ?_
          refine flat_cell (k := P.cellsOf e) (ps.map (·.2)) (fun y hy => ?_) (fun i y hi m u hu' => ?_) j v hv
          · obtain ⟨p, hp1, rfl⟩ := List.mem_map.1 hy
            obtain ⟨i, hi⟩ := List.mem_iff_getElem?.1 hp1
            have := (hp i p hi).2.2.1
            rw [Rs_length _ _ (hp i p hi).1]; exact this
          · simp only [List.getElem?_map, Option.map_eq_some_iff] at hi
            obtain ⟨p, hp1, rfl⟩ := hi
            have := (hp i p hp1).2.2.2 m u hu'
            rw [addr_add, addr_add] at this
            rw [Nat.add_assoc] at this; exact this
      · cases h
    case h_9 =>
      rename_i cs0 _ _ fs hu
      rw [hu] at hst
      simp only [Bool.and_eq_true, List.all_eq_true, List.contains_iff_mem] at hst
      split at h
      · rename_i hq
        simp only [Option.map_eq_some_iff] at h
        obtain ⟨xs, h1, he⟩ := h
        subst he
        have hqe := hQ.st hu hx
        obtain ⟨h3, h4⟩ := mapM_some _ h1
        have each : ∀ f ∈ fs.toList, ∃ p : List AV, Rs σ p ((cs0.drop f.offset).take (P.cellsOf f.type)) ∧ Ty P fuel f.type p ∧ txtAll B p = true := fun f hf => by
          obtain ⟨j, hj⟩ := List.mem_iff_getElem?.1 hf
          obtain ⟨y, hy, h6⟩ := h4 j f hj
          exact ih f.type _ y (hst.1 f hf) h6 (hqe j f _ hj (by rw [List.getElem?_map, hy]; rfl))
        obtain ⟨ps, h5, h6⟩ := choose_list fs.toList each
        have hfl := contig_flat (P := P) hq 0 fs.toList hst.2
        rw [List.drop_zero] at hfl
        have hR : Rs σ ps.flatten cs0 := by
          rw [← hfl]
          refine Rs_flatten (by simp [h5]) fun j p y hp hy => ?_
          simp only [List.getElem?_map, Option.map_eq_some_iff] at hy
          obtain ⟨f, hf, rfl⟩ := hy
          exact (h6 j f p hf hp).1
        refine ⟨ps.flatten, hR, ?_, txtAll_flatten fun p hp => by
          obtain ⟨j, hj⟩ := List.mem_iff_getElem?.1 hp
          have hjl : j < fs.toList.length := by have := (List.getElem?_eq_some_iff.1 hj).1; omega
          exact (h6 j _ p (List.getElem?_eq_getElem hjl) hj).2.2⟩
        simp only [Ty, hu]
        refine ⟨ps, by simpa using h5, fun j f p hf hp => ?_, rfl⟩
        obtain ⟨h7, h8, _⟩ := h6 j f p (by simpa using hf) hp
        refine ⟨h8, ?_⟩
        have hl := Rs_length _ _ h7
        rw [← hl]
        have hb := (contig_fits (P := P) 0 fs.toList hst.2).1 f (List.mem_of_getElem? (by simpa using hf))
        simp; omega
      · cases h
    case h_10 =>
      rename_i cs0 _ _ n e hu
      rw [hu] at hst
      simp only [Bool.and_eq_true, List.contains_iff_mem, beq_iff_eq] at hst
      split at h
      · rename_i hq
        simp only [Option.map_eq_some_iff] at h
        obtain ⟨xs, h1, he⟩ := h
        subst he
        have hqe := hQ.ar hu hx
        obtain ⟨h3, h4⟩ := mapM_some _ h1
        have each : ∀ i ∈ List.range n, ∃ p : List AV, Rs σ p ((cs0.drop (i * P.cellsOf e)).take (P.cellsOf e)) ∧ Ty P fuel e p ∧ txtAll B p = true := fun i hi => by
          obtain ⟨y, hy, h6⟩ := h4 i i (List.getElem?_range (List.mem_range.1 hi))
          exact ih e _ y hst.1 h6 (hqe _ (List.mem_map_of_mem (List.mem_of_getElem? hy)))
        obtain ⟨ps, h5, h6⟩ := choose_list (List.range n) each
        simp only [List.length_range] at h5
        have hfl := range_flat (k := P.cellsOf e) (cs := cs0) n 0 (by omega)
        rw [List.drop_zero, ← List.range_eq_range'] at hfl
        simp only [Nat.zero_add] at hfl
        have hpj : ∀ (j : Nat) (p : List AV), ps[j]? = some p → j < n ∧ Rs σ p ((cs0.drop (j * P.cellsOf e)).take (P.cellsOf e)) ∧ Ty P fuel e p ∧ txtAll B p = true := fun j p hp => by
          have hj : j < n := by have := (List.getElem?_eq_some_iff.1 hp).1; omega
          obtain ⟨h7, h8⟩ := h6 j j p (List.getElem?_range hj) hp
          exact ⟨hj, h7, h8⟩
        have hR : Rs σ ps.flatten cs0 := by
          rw [← hfl]
          refine Rs_flatten (by simp [h5]) fun j p y hp hy => ?_
          obtain ⟨hj, h7, _⟩ := hpj j p hp
          simp only [List.getElem?_map, List.getElem?_range hj, Option.map_some, Option.some.injEq] at hy
          subst hy; exact h7
        refine ⟨ps.flatten, hR, ?_, txtAll_flatten fun p hp => by
          obtain ⟨j, hj⟩ := List.mem_iff_getElem?.1 hp
          exact (hpj j p hj).2.2.2⟩
        simp only [Ty, hu]
        refine ⟨ps, h5, fun p hp => ?_, rfl⟩
        obtain ⟨j, hj⟩ := List.mem_iff_getElem?.1 hp
        obtain ⟨hjn, h7, h8, _⟩ := hpj j p hj
        refine ⟨h8, ?_⟩
        have hl := Rs_length _ _ h7
        rw [← hl]
        have : (j + 1) * P.cellsOf e ≤ n * P.cellsOf e := Nat.mul_le_mul_right _ hjn
        rw [Nat.succ_mul] at this
        simp; omega
      · cases h
    all_goals first | (cases h; done) | (rename P.underlying t = _ => hu; rw [hu] at hst; simp at hst)
theorem arg_R3 {B : Nat} {Q : TypeId → DataW H → Prop} (hQ : BulkT P B Q) {S : List TypeId} (hS : simpleSet P S = true) {t : TypeId} (ht : t ∈ S) {v : Value} {base : Nat} (hok : Value.okWide P W .any base t v) {d : DataW H} {ps : List MemPlace} (h : DataW.Trod enc P W 0 (fun _ => true) true t v d ps) (hx : Q t d) :
    ∃ a, R (firstGh W) a v ∧ TyArg P t a ∧ txtA B a = true := by
  obtain ⟨fuel, h⟩ := h
  obtain ⟨as0, h1, h2, hsh⟩ := trod_Rs3 hQ (σ := firstGh W) hS (fun _ _ _ h => h) fuel t _ _ ht h hx
  have hst := List.all_eq_true.1 hS t ht
  have agg : (∃ fs, P.underlying t = some (.struct fs)) ∨ (∃ n e, P.underlying t = some (.array n e)) → ∃ a, R (firstGh W) a v ∧ TyArg P t a ∧ txtA B a = true := fun hag => by
    have hv : ∃ cs, v = .agg cs := by
      rcases hag with ⟨fs, hu⟩ | ⟨n, e, hu⟩ <;> · simp only [Value.okWide, hu] at hok; obtain ⟨cs, h3, _⟩ := hok; exact ⟨cs, h3⟩
    obtain ⟨cs, rfl⟩ := hv
    refine ⟨.agg as0, by simp only [R]; exact ⟨cs, rfl, h1⟩, ?_, by simpa only [txtA] using hsh⟩
    rcases hag with ⟨fs, hu⟩ | ⟨n, e, hu⟩ <;> · simp only [TyArg, hu]; exact ⟨fuel, as0, rfl, h2⟩
  have one : (∀ cs, v ≠ .agg cs) → (TyArg P t = fun a => ∃ fuel, Ty P fuel t [a]) → ∃ a, R (firstGh W) a v ∧ TyArg P t a ∧ txtA B a = true := fun hv hu => by
    have hc : v.cells.toList = [v] := by cases v <;> first | rfl | exact absurd rfl (hv _)
    rw [hc] at h1
    have hl := Rs_length _ _ h1
    match as0, hl with
    | [a], _ =>
      simp only [Rs] at h1
      obtain ⟨_, _, h3, h4, _⟩ := h1
      cases h3
      refine ⟨a, h4, ?_, by simpa only [txtAll, Bool.and_true] using hsh⟩
      rw [hu]; exact ⟨fuel, h2⟩
  have notagg : ∀ d, P.underlying t = some d → (∀ fs, d ≠ .struct fs) → (∀ n e, d ≠ .array n e) → ∀ cs, v ≠ .agg cs := fun d hu hn1 hn2 cs e => by
    subst e
    unfold Value.okWide at hok
    rw [hu] at hok
    cases d <;> first | exact absurd rfl (hn1 _) | exact absurd rfl (hn2 _ _) | (simp [Cell.okWide, hu, Cell.ok] at hok)
  split at hst
  case h_1 hu => exact one (notagg _ hu (by simp) (by simp)) (by funext a; simp [TyArg, hu])
  case h_2 k hu => exact one (notagg _ hu (by simp) (by simp)) (by funext a; simp [TyArg, hu])
  case h_3 hu => exact one (notagg _ hu (by simp) (by simp)) (by funext a; simp [TyArg, hu])
  case h_4 e hu => exact one (notagg _ hu (by simp) (by simp)) (by funext a; simp [TyArg, hu])
  case h_5 fs hu => exact agg (.inl ⟨fs, hu⟩)
  case h_6 n e hu => exact agg (.inr ⟨n, e, hu⟩)
  case h_7 => cases hst


theorem args_R3 {B : Nat} {Q : TypeId → DataW H → Prop} (hQ : BulkT P B Q) {S : List TypeId} (hS : simpleSet P S = true) {base : Nat} : ∀ {ts : List TypeId} {vs : List Value} {ds : List (DataW H)} {ps : List MemPlace}, (∀ t ∈ ts, t ∈ S) → (∀ (j : Nat) (t : TypeId) (v : Value), ts[j]? = some t → vs[j]? = some v → Value.okWide P W .any base t v) →
    DataW.TrodAll enc P W 0 (fun _ => true) true ts vs ds ps → (∀ (j : Nat) (t : TypeId) (d : DataW H), ts[j]? = some t → ds[j]? = some d → Q t d) → ∃ as0, Rs (firstGh W) as0 vs ∧ TyArgs P ts as0 ∧ txtAll B as0 = true
  | [], [], [], _, _, _, _, _ => ⟨[], by simp [Rs], rfl, rfl⟩
  | t :: ts, v :: vs, d :: ds, ps, ht, hok, h, hx => by
    obtain ⟨p, q, h1, h2, _⟩ := h
    obtain ⟨a, h3, h4, hs1⟩ := arg_R3 hQ hS (ht t (by simp)) (hok 0 t v rfl rfl) h1 (hx 0 t d rfl rfl)
    obtain ⟨as0, h5, h6, hs2⟩ := args_R3 hQ hS (fun t' ht' => ht t' (by simp [ht'])) (fun j t' v' hj hv => hok (j + 1) t' v' (by simpa using hj) (by simpa using hv)) h2 (fun j t' d' hj hd => hx (j + 1) t' d' (by simpa using hj) (by simpa using hd))
    exact ⟨a :: as0, by simp only [Rs]; exact ⟨v, vs, rfl, h3, h5⟩, ⟨a, as0, rfl, h4, h6⟩, by simp only [txtAll, hs1, hs2]; rfl⟩
  | [], _ :: _, _, _, _, _, h, _ => h.elim
  | [], [], _ :: _, _, _, _, h, _ => h.elim
  | _ :: _, [], _, _, _, _, h, _ => h.elim
  | _ :: _, _ :: _, [], _, _, _, h, _ => h.elim


theorem law_calls3 {B : Nat} {Q : TypeId → DataW H → Prop} (hQ : BulkT P B Q) {cx : Cx} (hcx : ∀ X : Bs, X.gl = cx.gl → CxP P X cx) (hgl : ∀ n cs, cx.gl n = some cs → alAll (fun _ => false) cs = true ∧ RC (firstGh W) cs n 0) {f : Nat} (hext : cx.ext f = none) {S : List TypeId} (hS : simpleSet P S = true) {ts : List TypeId} (hts : ∀ t ∈ ts, t ∈ S)
    (hlaw : ∀ as0, TyArgs P ts as0 → txtAll B as0 = true → ∃ k s', callF cx k f as0 st0 = some (.bool true, s')) {base : Nat} {args : Array Value} {ds : List (DataW H)} {ps : List MemPlace}
    (hok : ∀ (j : Nat) (t : TypeId) (v : Value), ts[j]? = some t → args[j]? = some v → Value.okWide P W .any base t v) (hA : DataW.TrodAll enc P W 0 (fun _ => true) true ts args.toList ds ps) (hx : ∀ (j : Nat) (t : TypeId) (d : DataW H), ts[j]? = some t → ds[j]? = some d → Q t d) :
    Calls P f args W fun e W' => e = .returned (.bool true) ∧ Below W.heap.size W W' := by
  obtain ⟨as0, h1, h2, hsh⟩ := args_R3 hQ hS hts (fun j t v hj hv => hok j t v hj (by simpa using hv)) hA hx
  obtain ⟨k, s', h3⟩ := hlaw as0 h2 hsh
  have := callF_calls (X := bs0 W cx.gl) hcx rfl k whole0 (TyArgs_al h2) hext h3 (inv1 hgl) h1
  rw [Array.toArray_toList] at this
  refine this.mono ?_
  rintro e w' ⟨u, rfl, σ', hst, hR⟩
  simp only [R] at hR
  subst hR
  exact ⟨rfl, hst.inv.below⟩



/-- A law that the machine answers with true, where the row lists what variables hold; no text is longer than memory reaches. -/
theorem law_lifted_sized {a : Assume} {C : Checked} {os : Os} {f : FuncId} {fn : Func} {s : ChangeSpec} {conds : List PathCond} {apart fresh handsOn again : Bool} {cx : Cx} {S : List TypeId} {tb : TypeId} {L : List (String × DataW Unit)}
    (own : ownKnob C.prog.godebug = none) (started : os.Started) (noInit : C.prog.inits.idxOf? f = none) (hfn : C.prog.funcs[f]? = some fn)
    (witness : ∃ (w : World) (tape : Tape) (i : Input), w.os = os ∧ (w.forCall tape i).Shaped C.prog ∧ i.vars = [] ∧ Input.okWide C.prog (w.forCall tape i) .any w.heap.size f i ∧
      ((s.pre enc C.prog fn conds apart (w.forCall tape i).memory i.args ∧ laidMetH C.prog L (w.forCall tape i).memory) ∧ sizedMet enc C.prog fn (OpenSpec.ofChange s) apart (w.forCall tape i).memory i.args) ∧ a.holds C.prog (lone (Frame.enter C.prog f i.args .normal) [] (w.forCall tape i)))
    (hl : laidOutB C.prog = true) (hcx : ∀ X : Bs, X.gl = cx.gl → CxP C.prog X cx) (hgl : ∀ W, laidMetH C.prog L W → ∀ n cs, cx.gl n = some cs → alAll (fun _ => false) cs = true ∧ RC (firstGh W) cs n 0) (hext : cx.ext f = none) (hS : simpleSet C.prog S = true)
    (hpar : ∀ t ∈ fn.params.toList, t ∈ S ∧ C.prog.readableRec t = true ∧ t < C.prog.types.size) (hvars : s.vars = []) (hres : fn.resultTypes = #[tb]) (htb : C.prog.underlying tb = some .bool)
    (hspec : ∀ ds : List (DataW H), ds.length = fn.params.size → s.fn H ds = { results := [.lit (.bool true)], args := ds })
    (hlaw : ∀ as0, TyArgs C.prog fn.params.toList as0 → txtAll reachBytes as0 = true → ∃ k s', callF cx k f as0 st0 = some (.bool true, s')) :
    ReturnsInHanded a C os f .any (fun w args => (s.pre enc C.prog fn conds apart w args ∧ laidMetH C.prog L w) ∧ sizedMet enc C.prog fn (OpenSpec.ofChange s) apart w args) (s.post enc C.prog fn apart fresh handsOn again) := by
  refine returnsInHanded_of_change_and (X := fun w _ => laidMetH C.prog L w) (fun _ _ _ hh h => h.of_heap hh) own started noInit hfn witness ?_
  intro W base args ds gs before hval hW _ hwt hL _
  have hW0 := hW
  obtain ⟨p, q, hA, hV, _, _, _⟩ := hW0
  rw [hvars] at hV
  cases gs with
  | cons g gs => exact hV.elim
  | nil =>
    refine (law_calls3 (bulk_WQ C.prog) hcx (hgl W hL) hext hS (fun t ht => (hpar t ht).1) hlaw (fun j t v hj hv => hval j t v (by simpa using hj) hv) hA (fun j t d hj hd => ?_)).mono ?_
    · have hjl : j < fn.params.toList.length := (List.getElem?_eq_some_iff.1 hj).1
      refine each_each hwt j t d ?_ ?_
      · rw [List.getElem?_append_left hjl]; exact hj
      · rw [List.append_nil]; exact hd
    rintro e W' ⟨rfl, hb⟩
    refine ⟨_, rfl, post_true hl hW hb (fun t ht => (hpar t ht).2) hvars hres htb ?_⟩
    rw [List.append_nil]
    exact hspec ds (by rw [trodAll_len hA]; simp)
end
end Fw
