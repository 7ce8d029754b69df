/- Parts of the proof, one behind the other. -/
import Derived.Test.YtljlkedecdgimaaDoorFwG
import Derived.Test.YtljlkedecdgimaaDoorFwX
import Derived.ProofKit
import Derived.LaidMore
import Derived.Stop.Joined
import Derived.Lib.LaidTab
import Derived.Shelf.Spec.BitsCarry
import Derived.JoinedCond
set_option linter.unusedSimpArgs false
set_option linter.unusedVariables false
/- Rows that list what package-level variables hold: the tables that a law's run reads; the two carries of math/bits. -/
namespace Fw
open Go Go.RowKit Go.ChangeShapes Go.WideShapes Go.ChangeAt

section
variable {P : Program} {H : Type} {enc : TypeId × Value → H} {W W' : World}

theorem inv1 {gl : Nat → Option (List AV)} (hgl : ∀ n cs, gl n = some cs → alAll (fun _ => false) cs = true ∧ RC (firstGh W) cs n 0) : Inv (bs0 W gl) (firstGh W) st0.get W :=
  ⟨Below.refl _ _, fun n cs h => hgl n cs h, fun _ _ _ h => h, fun id o h => by simp [st0, St.get, look] at h, fun i j oi oj h => by simp [st0, St.get, look] at h⟩

theorem law_calls1 {cx : Cx} (hcx : ∀ X : Bs, X.gl = cx.gl → CxP P X cx) (hgl : ∀ n cs, cx.gl n = some cs → alAll (fun _ => false) cs = true ∧ RC (firstGh W) cs n 0) {f : Nat} (hext : cx.ext f = none) {S : List TypeId} (hS : simpleSet P S = true) {ts : List TypeId} (hts : ∀ t ∈ ts, t ∈ S)
    (hlaw : ∀ as0, TyArgs P ts as0 → ∃ k s', callF cx k f as0 st0 = some (.bool true, s')) {base : Nat} {args : Array Value} {ds : List (DataW H)} {ps : List MemPlace}
    (hok : ∀ (j : Nat) (t : TypeId) (v : Value), ts[j]? = some t → args[j]? = some v → Value.okWide P W .any base t v) (hA : DataW.TrodAll enc P W 0 (fun _ => true) true ts args.toList ds ps) :
    Calls P f args W fun e W' => e = .returned (.bool true) ∧ Below W.heap.size W W' := by
  obtain ⟨as0, h1, h2⟩ := args_R hS hts (fun j t v hj hv => hok j t v hj (by simpa using hv)) hA
  obtain ⟨k, s', h3⟩ := hlaw as0 h2
  have := callF_calls (hcx (bs0 W cx.gl) rfl) k whole0 (TyArgs_al h2) hext h3 (inv1 hgl) h1
  rw [Array.toArray_toList] at this
  refine this.mono ?_
  rintro e w' ⟨u, rfl, σ', hst, hR⟩
  simp only [R] at hR
  subst hR
  exact ⟨rfl, hst.inv.below⟩

theorem laid_mem {L : List (String × DataW Unit)} {ps : List MemPlace} (h : DataW.LaidVars P W L ps) {n : String} {d : DataW Unit} (hm : (n, d) ∈ L) :
    ∃ g t cs fuel p, P.globalNamed n = some g ∧ (P.globals[g]?).map (·.type) = some t ∧ W.var? P n = some cs ∧ DataW.trod (fun _ => ()) P W 0 (fun _ => true) false fuel t cs.toList = some (d, p) := by
  induction L generalizing ps with
  | nil => simp at hm
  | cons x L ih =>
    obtain ⟨n', d'⟩ := x
    obtain ⟨g, t, cs, fuel, p, q, h1, h2, h3, h4, h5, _⟩ := h
    rcases List.mem_cons.1 hm with e | hm
    · cases e; exact ⟨g, t, cs, fuel, p, h1, h2, h3, h4⟩
    · exact ih h5 hm

theorem laidH_mem {L : List (String × DataW Unit)} (h : laidMetH P L W) {n : String} {d : DataW Unit} (hm : (n, d) ∈ L) (hd : d.handleName? = none) :
    ∃ g t cs fuel p, P.globalNamed n = some g ∧ (P.globals[g]?).map (·.type) = some t ∧ W.var? P n = some cs ∧ DataW.trod (fun _ => ()) P W 0 (fun _ => true) false fuel t cs.toList = some (d, p) := by
  unfold laidMetH at h
  split at h
  · obtain ⟨ps, h1, _⟩ := h
    exact laid_mem h1 hm
  · obtain ⟨⟨ps, h1, _⟩, _⟩ := h
    exact laid_mem h1 (List.mem_filter.2 ⟨hm, by simp [hd]⟩)

theorem tab_RC {name : String} {k : IntKind} {zs : List Int} {g : Nat} (h : Lib.TabIs P W name k zs) (hg : P.globalNamed name = some g) : RC (firstGh W) (zs.map (AV.int k)) g 0 := by
  have key : ∀ (n i : Nat), i + n = zs.length → RC (firstGh W) ((zs.drop i).map (AV.int k)) g i := by
    intro n
    induction n with
    | zero => intro i hi; rw [List.drop_eq_nil_of_le (by omega)]; simp [RC]
    | succ n ih =>
      intro i hi
      have hlt : i < zs.length := by omega
      rw [List.drop_eq_getElem_cons hlt, List.map_cons]
      simp only [RC]
      refine ⟨⟨.int k zs[i], ?_, by simp [R]⟩, ih (i + 1) (by omega)⟩
      have := h.cell hg i hlt
      have h2 : W.cell? ⟨g, i, none⟩ = some (.int k zs[i]) := by simpa [List.getD, hlt] using this
      exact h2
  simpa using key zs.length 0 (by omega)

theorem laid_tab {L : List (String × DataW Unit)} (h : laidMetH P L W) {name : String} {k : IntKind} {zs : List Int} (hm : (name, Lib.tabData k zs) ∈ L) {g : Nat} {t e : TypeId} {n : Nat}
    (hg : P.globalNamed name = some g) (hty : (P.globals[g]?).map (·.type) = some t) (ht : P.underlying t = some (.array n e)) (he : P.underlying e = some (.int k)) (hce : P.cellsOf e = 1) (hct : P.cellsOf t = n) :
    alAll (fun _ => false) (zs.map (AV.int k)) = true ∧ RC (firstGh W) (zs.map (AV.int k)) g 0 := by
  obtain ⟨g', t', cs, fuel, p, hg', ht', hvar, hd⟩ := laidH_mem h hm rfl
  obtain rfl := Option.some.inj (hg.symm.trans hg')
  obtain rfl := Option.some.inj (hty.symm.trans ht')
  refine ⟨(alAll_iff _).2 fun a ha => ?_, tab_RC (name := name) ?_ hg⟩
  · obtain ⟨z, _, rfl⟩ := List.mem_map.1 ha; rfl
  · unfold Lib.TabIs
    rw [hvar, ← Lib.cells_of_tab ht he hce hct hd]

/-- A law that the machine answers with true, where the row lists what variables hold. -/
theorem law_lifted_laid {a : Assume} {C : Checked} {os : Os} {f : FuncId} {fn : Func} {s : ChangeSpec} {conds : List PathCond} {apart fresh handsOn again : Bool} {cx : Cx} {S : List TypeId} {tb : TypeId} {L : List (String × DataW Unit)}
    (own : ownKnob C.prog.godebug = none) (started : os.Started) (noInit : C.prog.inits.idxOf? f = none) (hfn : C.prog.funcs[f]? = some fn)
    (witness : ∃ (w : World) (tape : Tape) (i : Input), w.os = os ∧ (w.forCall tape i).Shaped C.prog ∧ i.vars = [] ∧ Input.okWide C.prog (w.forCall tape i) .any w.heap.size f i ∧
      ((s.pre enc C.prog fn conds apart (w.forCall tape i).memory i.args ∧ laidMetH C.prog L (w.forCall tape i).memory) ∧ sizedMet enc C.prog fn (OpenSpec.ofChange s) apart (w.forCall tape i).memory i.args) ∧ a.holds C.prog (lone (Frame.enter C.prog f i.args .normal) [] (w.forCall tape i)))
    (hl : laidOutB C.prog = true) (hcx : ∀ X : Bs, X.gl = cx.gl → CxP C.prog X cx) (hgl : ∀ W, laidMetH C.prog L W → ∀ n cs, cx.gl n = some cs → alAll (fun _ => false) cs = true ∧ RC (firstGh W) cs n 0) (hext : cx.ext f = none) (hS : simpleSet C.prog S = true)
    (hpar : ∀ t ∈ fn.params.toList, t ∈ S ∧ C.prog.readableRec t = true ∧ t < C.prog.types.size) (hvars : s.vars = []) (hres : fn.resultTypes = #[tb]) (htb : C.prog.underlying tb = some .bool)
    (hspec : ∀ ds : List (DataW H), ds.length = fn.params.size → s.fn H ds = { results := [.lit (.bool true)], args := ds })
    (hlaw : ∀ as0, TyArgs C.prog fn.params.toList as0 → ∃ k s', callF cx k f as0 st0 = some (.bool true, s')) :
    ReturnsInHanded a C os f .any (fun w args => (s.pre enc C.prog fn conds apart w args ∧ laidMetH C.prog L w) ∧ sizedMet enc C.prog fn (OpenSpec.ofChange s) apart w args) (s.post enc C.prog fn apart fresh handsOn again) := by
  refine returnsInHanded_of_change_and (X := fun w _ => laidMetH C.prog L w) (fun _ _ _ hh h => h.of_heap hh) own started noInit hfn witness ?_
  intro W base args ds gs before hval hW _ _ hL _
  have hW0 := hW
  obtain ⟨p, q, hA, hV, _, _, _⟩ := hW0
  rw [hvars] at hV
  cases gs with
  | cons g gs => exact hV.elim
  | nil =>
    refine (law_calls1 hcx (hgl W hL) hext hS (fun t ht => (hpar t ht).1) hlaw (fun j t v hj hv => hval j t v (by simpa using hj) hv) hA).mono ?_
    rintro e W' ⟨rfl, hb⟩
    refine ⟨_, rfl, post_true hl hW hb (fun t ht => (hpar t ht).2) hvars hres htb ?_⟩
    rw [List.append_nil]
    exact hspec ds (by rw [trodAll_len hA]; simp)
end

/- math/bits -/
def xAdd64 (args : List AV) (s : St) : Option (AV × St) :=
  match args with
  | [.int .u64 x, .int .u64 y, .int .u64 c] => if 0 ≤ x ∧ 0 ≤ y ∧ 0 ≤ c ∧ c ≤ 1 then some (.tuple [.int .u64 ((x + y + c) % 18446744073709551616), .int .u64 ((x + y + c) / 18446744073709551616)], s) else none
  | _ => none
def xSub64 (args : List AV) (s : St) : Option (AV × St) :=
  match args with
  | [.int .u64 x, .int .u64 y, .int .u64 c] => if 0 ≤ x ∧ 0 ≤ y ∧ y ≤ 18446744073709551615 ∧ 0 ≤ c ∧ c ≤ 1 then some (.tuple [.int .u64 ((x + 18446744073709551616 - y - c) % 18446744073709551616), .int .u64 (if x < y + c then 1 else 0)], s) else none
  | _ => none
section
variable {P : Program}
theorem xAdd64_ok {f : FuncId} {fn : Func} (hf : P.funcs[f]? = some fn) (hname : (fn.name == "runtime.NumGoroutine") = false) (hb : fn.body.isNone = true) (hn : Extern.findNext fn = none)
    (he : Extern.find fn = some add64Entry) : ExtOk P f xAdd64 := by
  refine ExtOk.entry hf hname hb hn he fun args s v s' h => ?_
  unfold xAdd64 at h
  split at h
  · rename_i x y c
    split at h
    · rename_i hh
      cases h
      refine ⟨rfl, rfl, fun σ vs hR w => ?_⟩
      simp only [Rs, R] at hR
      obtain ⟨v1, r1, rfl, rfl, v2, r2, rfl, rfl, v3, r3, rfl, rfl, rfl⟩ := hR
      exact ⟨_, run_add64 x y c hh.1 hh.2.1 hh.2.2.1 hh.2.2.2 w, by simp [R, Rs]⟩
    · cases h
  · cases h
theorem xSub64_ok {f : FuncId} {fn : Func} (hf : P.funcs[f]? = some fn) (hname : (fn.name == "runtime.NumGoroutine") = false) (hb : fn.body.isNone = true) (hn : Extern.findNext fn = none)
    (he : Extern.find fn = some Go.Proofs.sub64Entry) : ExtOk P f xSub64 := by
  refine ExtOk.entry hf hname hb hn he fun args s v s' h => ?_
  unfold xSub64 at h
  split at h
  · rename_i x y c
    split at h
    · rename_i hh
      cases h
      refine ⟨rfl, rfl, fun σ vs hR w => ?_⟩
      simp only [Rs, R] at hR
      obtain ⟨v1, r1, rfl, rfl, v2, r2, rfl, rfl, v3, r3, rfl, rfl, rfl⟩ := hR
      obtain ⟨x, rfl⟩ := Int.eq_ofNat_of_zero_le hh.1
      obtain ⟨y, rfl⟩ := Int.eq_ofNat_of_zero_le hh.2.1
      obtain ⟨c, rfl⟩ := Int.eq_ofNat_of_zero_le hh.2.2.2.1
      refine ⟨_, Go.Proofs.run_sub64 x y c (by omega) w, ?_⟩
      simp only [R, Rs]
      have e1 : (((x + 18446744073709551616 - y - c) % 18446744073709551616 : Nat) : Int) = ((x : Int) + 18446744073709551616 - y - c) % 18446744073709551616 := by omega
      have e2 : ((if x < y + c then 1 else 0 : Nat) : Int) = if (x : Int) < (y : Int) + c then 1 else 0 := by split <;> split <;> omega
      rw [e1, e2]
      exact ⟨_, rfl, _, _, rfl, rfl, _, _, rfl, rfl, rfl⟩
    · cases h
  · cases h
end
end Fw

/- Arguments of a bulk at most: texts and lists are as short as the bulk says. -/
namespace Fw
open Go Go.RowKit Go.ChangeShapes Go.WideShapes Go.ChangeAt
mutual
/-- No text and no list is longer. -/
def shortA (B : Nat) : AV → Bool
  | .str s => decide (s.length ≤ B)
  | .slice cs n _ => decide (n ≤ B) && shortAll B cs
  | .agg cs => shortAll B cs
  | _ => true
def shortAll (B : Nat) : List AV → Bool
  | [] => true
  | a :: l => shortA B a && shortAll B l
end
theorem shortAll_app {B : Nat} : ∀ (l m : List AV), shortAll B (l ++ m) = (shortAll B l && shortAll B m)
  | [], m => by simp [shortAll]
  | a :: l, m => by simp [shortAll, shortAll_app l m, Bool.and_assoc]
theorem shortAll_flatten {B : Nat} : ∀ {es : List (List AV)}, (∀ x ∈ es, shortAll B x = true) → shortAll B es.flatten = true
  | [], _ => rfl
  | x :: es, h => by
    rw [List.flatten_cons, shortAll_app, h x (by simp), shortAll_flatten (fun y hy => h y (by simp [hy]))]; rfl
/-- A measure of readings that bounds texts and lists. -/
structure Bulk {H : Type} (B : Nat) (Q : DataW H → Prop) : Prop where
  str : ∀ s, Q (.lit (.string s)) → s.length ≤ B
  sl : ∀ es r, Q (.slice es r) → es.length ≤ B ∧ ∀ d ∈ es, Q d
  ag : ∀ es, Q (.agg es) → ∀ d ∈ es, Q d
section
variable {P : Program} {σ : Gh} {W : World} {H : Type} {enc : TypeId × Value → H}

/-- A simple type's cells are each a value of the machine. -/
theorem trod_Rs2 {B : Nat} {Q : DataW H → Prop} (hQ : Bulk B Q) {S : List TypeId} (hS : simpleSet P S = true) (hσ : ∀ b o v, W.cell? ⟨b, o, none⟩ = some v → σ.G b o v) {base : Nat} {held : Bool} :
    ∀ (fuel : Nat) (t : TypeId) (cs : List Value) (x : DataW H × List MemPlace), t ∈ S → DataW.trod enc P W base (fun _ => true) held fuel t cs = some x → Q x.1 → ∃ as0, Rs σ as0 cs ∧ Ty P fuel t as0 ∧ shortAll B as0 = true
  | 0, t, cs, x, _, h, _ => by simp [DataW.trod] at h
  | fuel + 1, t, cs, x, ht, h, hx => by
    have hst := List.all_eq_true.1 hS t ht
    have ih := trod_Rs2 hQ hS hσ (base := base) (held := held) fuel
    simp only [DataW.trod] at h
    split at h
    case h_1 hu =>
      rename_i b
      exact ⟨[.bool b], by simp [Rs, R], by simp only [Ty, hu]; exact ⟨b, rfl⟩, rfl⟩
    case h_2 k k' n hu =>
      split at h
      · rename_i hq
        obtain ⟨rfl, hwf⟩ := hq
        exact ⟨[.int k' n], by simp [Rs, R], by simp only [Ty, hu]; exact ⟨n, rfl, hwf⟩, rfl⟩
      · cases h
    case h_4 str hu =>
      split at h
      · rename_i hq
        cases h
        have hb := hQ.str _ hx
        refine ⟨[.str str.data.toList], by simp [Rs, R], by simp only [Ty, hu]; exact ⟨_, rfl, by rw [Array.length_toList]; exact hq⟩, ?_⟩
        simp only [shortAll, shortA, Bool.and_true]
        exact decide_eq_true hb
      · cases h
    case h_7 hu => exact ⟨[.nilslice], by simp [Rs, R], by simp [Ty, hu], rfl⟩
    case h_8 e a len cap hu =>
      rw [hu] at hst
      simp only [Bool.and_eq_true, List.contains_iff_mem, decide_eq_true_eq] at hst
      split at h
      · rename_i hq
        simp only [Option.bind_eq_some_iff, if_true, Option.map_eq_some_iff] at h
        obtain ⟨elems, h1, rest, h2, he⟩ := h
        subst he
        obtain ⟨hqb, hqe⟩ := hQ.sl _ _ hx
        obtain ⟨h3, h4⟩ := mapM_some _ h1
        simp only [List.length_range] at h3
        have each : ∀ i ∈ List.range len, ∃ p : List AV × List Value, Rs σ p.1 p.2 ∧ (Ty P fuel e p.1 ∧ shortAll B p.1 = true) ∧ p.1.length = P.cellsOf e ∧ ∀ (j : Nat) (v : Value), p.2[j]? = some v → W.cell? ((a.add (i * P.cellsOf e)).add j) = some v := fun i hi => by
          have hi' : i < len := List.mem_range.1 hi
          obtain ⟨y, h5, h6⟩ := h4 i i (by simp [hi'])
          simp only [Option.bind_eq_some_iff] at h6
          obtain ⟨cs', h7, h8⟩ := h6
          obtain ⟨h9, h10⟩ := cells?_get h7
          obtain ⟨as0, h11, h12, h13⟩ := ih e cs' y hst.1 h8 (hqe _ (List.mem_map_of_mem (List.mem_of_getElem? h5)))
          exact ⟨(as0, cs'), h11, ⟨h12, h13⟩, by rw [← Rs_length _ _ h11]; exact h9, h10⟩
        obtain ⟨ps, h5, h6⟩ := choose_list (List.range len) each
        simp only [List.length_range] at h5
        have hp : ∀ (j : Nat) (p : List AV × List Value), ps[j]? = some p → Rs σ p.1 p.2 ∧ (Ty P fuel e p.1 ∧ shortAll B p.1 = true) ∧ p.1.length = P.cellsOf e ∧ ∀ (i : Nat) (v : Value), p.2[i]? = some v → W.cell? ((a.add (j * P.cellsOf e)).add i) = some v := fun j p hj => by
          have hjl : j < len := by have := (List.getElem?_eq_some_iff.1 hj).1; omega
          exact h6 j j p (by simp [hjl]) hj
        have hty : ∀ x ∈ ps.map (·.1), Ty P fuel e x ∧ x.length = P.cellsOf e := fun x hx => by
          obtain ⟨p, hp1, rfl⟩ := List.mem_map.1 hx
          obtain ⟨j, hj⟩ := List.mem_iff_getElem?.1 hp1
          exact ⟨(hp j p hj).2.1.1, (hp j p hj).2.2.1⟩
        have hsh : ∀ x ∈ ps.map (·.1), shortAll B x = true := fun x hx => by
          obtain ⟨p, hp1, rfl⟩ := List.mem_map.1 hx
          obtain ⟨j, hj⟩ := List.mem_iff_getElem?.1 hp1
          exact (hp j p hj).2.1.2
        refine ⟨[.slice ((ps.map (·.1)).flatten) (ps.map (·.1)).length .no], ?_, by simp only [Ty, hu]; exact .inr ⟨ps.map (·.1), hty, by simp; omega, rfl⟩, by
          simp only [shortAll, shortA, Bool.and_true, shortAll_flatten hsh]
          exact decide_eq_true (by rw [List.length_map] at hqb; rw [List.length_map]; omega)⟩
        simp only [Rs]
        refine ⟨_, [], rfl, ?_, rfl⟩
        simp only [R, List.length_map, h5]
        -- an address with a spot has no cells at all
        by_cases hcap : cap = 0
        · subst hcap
          have hl0 : len = 0 := by omega
          subst hl0
          have : ps = [] := List.eq_nil_of_length_eq_zero h5
          subst this
          exact .inr ⟨rfl, rfl, by simp, a, rfl⟩
        · have hsp : a.spot = none := by
            have hadd : ∀ i : Nat, i * P.cellsOf e = 0 → a.add (i * P.cellsOf e) = a := fun i hi => by rw [hi]; rfl
            by_cases hl0 : len = 0
            · obtain ⟨h7, h8⟩ := mapM_some _ h2
              obtain ⟨y, _, h9⟩ := h8 0 0 (List.getElem?_range (by omega))
              simp only [Option.bind_eq_some_iff] at h9
              obtain ⟨cs', h10, _⟩ := h9
              obtain ⟨h11, h12⟩ := cells?_get h10
              obtain ⟨v0, hv0⟩ : ∃ v0, cs'[0]? = some v0 := ⟨cs'[0]'(by omega), List.getElem?_eq_getElem (by omega)⟩
              have := h12 0 v0 hv0
              rw [hl0, Nat.zero_add, hadd 0 (by simp)] at this
              exact cell_spot this
            · obtain ⟨p0, hp0⟩ : ∃ p0, ps[0]? = some p0 := ⟨ps[0]'(by omega), List.getElem?_eq_getElem (by omega)⟩
              obtain ⟨q1, _, q3, q4⟩ := hp 0 p0 hp0
              have hl1 := Rs_length _ _ q1
              obtain ⟨v0, hv0⟩ : ∃ v0, p0.2[0]? = some v0 := ⟨p0.2[0]'(by omega), List.getElem?_eq_getElem (by omega)⟩
              have := q4 0 v0 hv0
              rw [hadd 0 (by simp)] at this
              exact cell_spot this
          obtain ⟨ab, ao, asp⟩ := a
          dsimp only at hsp; subst hsp
          refine .inl ⟨ab, ao, cap, rfl, hq.2.1, trivial, ?_⟩
          have hRs : Rs σ (ps.map (·.1)).flatten (ps.map (·.2)).flatten := Rs_flatten (by simp) fun j x y hx hy => by
            simp only [List.getElem?_map, Option.map_eq_some_iff] at hx hy
            obtain ⟨p, hp1, rfl⟩ := hx
            obtain ⟨p', hp2, rfl⟩ := hy
            rw [hp1] at hp2; cases hp2
            exact (hp j p hp1).1
          refine RC_of hRs fun j v hv => hσ _ _ _ ?_
          refine flat_cell (k := P.cellsOf e) (ps.map (·.2)) (fun y hy => ?_) (fun i y hi m u hu' => ?_) j v hv
          · obtain ⟨p, hp1, rfl⟩ := List.mem_map.1 hy
            obtain ⟨i, hi⟩ := List.mem_iff_getElem?.1 hp1
            have := (hp i p hi).2.2.1
            rw [Rs_length _ _ (hp i p hi).1]; exact this
          · simp only [List.getElem?_map, Option.map_eq_some_iff] at hi
            obtain ⟨p, hp1, rfl⟩ := hi
            have := (hp i p hp1).2.2.2 m u hu'
            rw [addr_add, addr_add] at this
            rw [Nat.add_assoc] at this; exact this
      · cases h
    case h_9 =>
      rename_i cs0 _ _ fs hu
      rw [hu] at hst
      simp only [Bool.and_eq_true, List.all_eq_true, List.contains_iff_mem] at hst
      split at h
      · rename_i hq
        simp only [Option.map_eq_some_iff] at h
        obtain ⟨xs, h1, he⟩ := h
        subst he
        have hqe := hQ.ag _ hx
        obtain ⟨h3, h4⟩ := mapM_some _ h1
        have each : ∀ f ∈ fs.toList, ∃ p : List AV, Rs σ p ((cs0.drop f.offset).take (P.cellsOf f.type)) ∧ Ty P fuel f.type p ∧ shortAll B p = true := fun f hf => by
          obtain ⟨j, hj⟩ := List.mem_iff_getElem?.1 hf
          obtain ⟨y, hy, h6⟩ := h4 j f hj
          exact ih f.type _ y (hst.1 f hf) h6 (hqe _ (List.mem_map_of_mem (List.mem_of_getElem? hy)))
        obtain ⟨ps, h5, h6⟩ := choose_list fs.toList each
        have hfl := contig_flat (P := P) hq 0 fs.toList hst.2
        rw [List.drop_zero] at hfl
        have hR : Rs σ ps.flatten cs0 := by
          rw [← hfl]
          refine Rs_flatten (by simp [h5]) fun j p y hp hy => ?_
          simp only [List.getElem?_map, Option.map_eq_some_iff] at hy
          obtain ⟨f, hf, rfl⟩ := hy
          exact (h6 j f p hf hp).1
        refine ⟨ps.flatten, hR, ?_, shortAll_flatten fun p hp => by
          obtain ⟨j, hj⟩ := List.mem_iff_getElem?.1 hp
          have hjl : j < fs.toList.length := by have := (List.getElem?_eq_some_iff.1 hj).1; omega
          exact (h6 j _ p (List.getElem?_eq_getElem hjl) hj).2.2⟩
        simp only [Ty, hu]
        refine ⟨ps, by simpa using h5, fun j f p hf hp => ?_, rfl⟩
        obtain ⟨h7, h8, _⟩ := h6 j f p (by simpa using hf) hp
        refine ⟨h8, ?_⟩
        have hl := Rs_length _ _ h7
        rw [← hl]
        have hb := (contig_fits (P := P) 0 fs.toList hst.2).1 f (List.mem_of_getElem? (by simpa using hf))
        simp; omega
      · cases h
    case h_10 =>
      rename_i cs0 _ _ n e hu
      rw [hu] at hst
      simp only [Bool.and_eq_true, List.contains_iff_mem, beq_iff_eq] at hst
      split at h
      · rename_i hq
        simp only [Option.map_eq_some_iff] at h
        obtain ⟨xs, h1, he⟩ := h
        subst he
        have hqe := hQ.ag _ hx
        obtain ⟨h3, h4⟩ := mapM_some _ h1
        have each : ∀ i ∈ List.range n, ∃ p : List AV, Rs σ p ((cs0.drop (i * P.cellsOf e)).take (P.cellsOf e)) ∧ Ty P fuel e p ∧ shortAll B p = true := fun i hi => by
          obtain ⟨y, hy, h6⟩ := h4 i i (List.getElem?_range (List.mem_range.1 hi))
          exact ih e _ y hst.1 h6 (hqe _ (List.mem_map_of_mem (List.mem_of_getElem? hy)))
        obtain ⟨ps, h5, h6⟩ := choose_list (List.range n) each
        simp only [List.length_range] at h5
        have hfl := range_flat (k := P.cellsOf e) (cs := cs0) n 0 (by omega)
        rw [List.drop_zero, ← List.range_eq_range'] at hfl
        simp only [Nat.zero_add] at hfl
        have hpj : ∀ (j : Nat) (p : List AV), ps[j]? = some p → j < n ∧ Rs σ p ((cs0.drop (j * P.cellsOf e)).take (P.cellsOf e)) ∧ Ty P fuel e p ∧ shortAll B p = true := fun j p hp => by
          have hj : j < n := by have := (List.getElem?_eq_some_iff.1 hp).1; omega
          obtain ⟨h7, h8⟩ := h6 j j p (List.getElem?_range hj) hp
          exact ⟨hj, h7, h8⟩
        have hR : Rs σ ps.flatten cs0 := by
          rw [← hfl]
          refine Rs_flatten (by simp [h5]) fun j p y hp hy => ?_
          obtain ⟨hj, h7, _⟩ := hpj j p hp
          simp only [List.getElem?_map, List.getElem?_range hj, Option.map_some, Option.some.injEq] at hy
          subst hy; exact h7
        refine ⟨ps.flatten, hR, ?_, shortAll_flatten fun p hp => by
          obtain ⟨j, hj⟩ := List.mem_iff_getElem?.1 hp
          exact (hpj j p hj).2.2.2⟩
        simp only [Ty, hu]
        refine ⟨ps, h5, fun p hp => ?_, rfl⟩
        obtain ⟨j, hj⟩ := List.mem_iff_getElem?.1 hp
        obtain ⟨hjn, h7, h8, _⟩ := hpj j p hj
        refine ⟨h8, ?_⟩
        have hl := Rs_length _ _ h7
        rw [← hl]
        have : (j + 1) * P.cellsOf e ≤ n * P.cellsOf e := Nat.mul_le_mul_right _ hjn
        rw [Nat.succ_mul] at this
        simp; omega
      · cases h
    all_goals first | (cases h; done) | (rename P.underlying t = _ => hu; rw [hu] at hst; simp at hst)
theorem arg_R2 {B : Nat} {Q : DataW H → Prop} (hQ : Bulk B Q) {S : List TypeId} (hS : simpleSet P S = true) {t : TypeId} (ht : t ∈ S) {v : Value} {base : Nat} (hok : Value.okWide P W .any base t v) {d : DataW H} {ps : List MemPlace} (h : DataW.Trod enc P W 0 (fun _ => true) true t v d ps) (hx : Q d) :
    ∃ a, R (firstGh W) a v ∧ TyArg P t a ∧ shortA B a = true := by
  obtain ⟨fuel, h⟩ := h
  obtain ⟨as0, h1, h2, hsh⟩ := trod_Rs2 hQ (σ := firstGh W) hS (fun _ _ _ h => h) fuel t _ _ ht h hx
  have hst := List.all_eq_true.1 hS t ht
  have agg : (∃ fs, P.underlying t = some (.struct fs)) ∨ (∃ n e, P.underlying t = some (.array n e)) → ∃ a, R (firstGh W) a v ∧ TyArg P t a ∧ shortA B a = true := fun hag => by
    have hv : ∃ cs, v = .agg cs := by
      rcases hag with ⟨fs, hu⟩ | ⟨n, e, hu⟩ <;> · simp only [Value.okWide, hu] at hok; obtain ⟨cs, h3, _⟩ := hok; exact ⟨cs, h3⟩
    obtain ⟨cs, rfl⟩ := hv
    refine ⟨.agg as0, by simp only [R]; exact ⟨cs, rfl, h1⟩, ?_, by simpa only [shortA] using hsh⟩
    rcases hag with ⟨fs, hu⟩ | ⟨n, e, hu⟩ <;> · simp only [TyArg, hu]; exact ⟨fuel, as0, rfl, h2⟩
  have one : (∀ cs, v ≠ .agg cs) → (TyArg P t = fun a => ∃ fuel, Ty P fuel t [a]) → ∃ a, R (firstGh W) a v ∧ TyArg P t a ∧ shortA B a = true := fun hv hu => by
    have hc : v.cells.toList = [v] := by cases v <;> first | rfl | exact absurd rfl (hv _)
    rw [hc] at h1
    have hl := Rs_length _ _ h1
    match as0, hl with
    | [a], _ =>
      simp only [Rs] at h1
      obtain ⟨_, _, h3, h4, _⟩ := h1
      cases h3
      refine ⟨a, h4, ?_, by simpa only [shortAll, Bool.and_true] using hsh⟩
      rw [hu]; exact ⟨fuel, h2⟩
  have notagg : ∀ d, P.underlying t = some d → (∀ fs, d ≠ .struct fs) → (∀ n e, d ≠ .array n e) → ∀ cs, v ≠ .agg cs := fun d hu hn1 hn2 cs e => by
    subst e
    unfold Value.okWide at hok
    rw [hu] at hok
    cases d <;> first | exact absurd rfl (hn1 _) | exact absurd rfl (hn2 _ _) | (simp [Cell.okWide, hu, Cell.ok] at hok)
  split at hst
  case h_1 hu => exact one (notagg _ hu (by simp) (by simp)) (by funext a; simp [TyArg, hu])
  case h_2 k hu => exact one (notagg _ hu (by simp) (by simp)) (by funext a; simp [TyArg, hu])
  case h_3 hu => exact one (notagg _ hu (by simp) (by simp)) (by funext a; simp [TyArg, hu])
  case h_4 e hu => exact one (notagg _ hu (by simp) (by simp)) (by funext a; simp [TyArg, hu])
  case h_5 fs hu => exact agg (.inl ⟨fs, hu⟩)
  case h_6 n e hu => exact agg (.inr ⟨n, e, hu⟩)
  case h_7 => cases hst


theorem args_R2 {B : Nat} {Q : DataW H → Prop} (hQ : Bulk B Q) {S : List TypeId} (hS : simpleSet P S = true) {base : Nat} : ∀ {ts : List TypeId} {vs : List Value} {ds : List (DataW H)} {ps : List MemPlace}, (∀ t ∈ ts, t ∈ S) → (∀ (j : Nat) (t : TypeId) (v : Value), ts[j]? = some t → vs[j]? = some v → Value.okWide P W .any base t v) →
    DataW.TrodAll enc P W 0 (fun _ => true) true ts vs ds ps → (∀ d ∈ ds, Q d) → ∃ as0, Rs (firstGh W) as0 vs ∧ TyArgs P ts as0 ∧ shortAll B as0 = true
  | [], [], [], _, _, _, _, _ => ⟨[], by simp [Rs], rfl, rfl⟩
  | t :: ts, v :: vs, d :: ds, ps, ht, hok, h, hx => by
    obtain ⟨p, q, h1, h2, _⟩ := h
    obtain ⟨a, h3, h4, hs1⟩ := arg_R2 hQ hS (ht t (by simp)) (hok 0 t v rfl rfl) h1 (hx d (by simp))
    obtain ⟨as0, h5, h6, hs2⟩ := args_R2 hQ hS (fun t' ht' => ht t' (by simp [ht'])) (fun j t' v' hj hv => hok (j + 1) t' v' (by simpa using hj) (by simpa using hv)) h2 (fun d' hd' => hx d' (by simp [hd']))
    exact ⟨a :: as0, by simp only [Rs]; exact ⟨v, vs, rfl, h3, h5⟩, ⟨a, as0, rfl, h4, h6⟩, by simp only [shortAll, hs1, hs2]; rfl⟩
  | [], _ :: _, _, _, _, _, h, _ => h.elim
  | [], [], _ :: _, _, _, _, h, _ => h.elim
  | _ :: _, [], _, _, _, _, h, _ => h.elim
  | _ :: _, _ :: _, [], _, _, _, h, _ => h.elim


theorem law_calls2 {B : Nat} {Q : DataW H → Prop} (hQ : Bulk B Q) {cx : Cx} (hcx : ∀ X : Bs, X.gl = cx.gl → CxP P X cx) (hgl : ∀ n cs, cx.gl n = some cs → alAll (fun _ => false) cs = true ∧ RC (firstGh W) cs n 0) {f : Nat} (hext : cx.ext f = none) {S : List TypeId} (hS : simpleSet P S = true) {ts : List TypeId} (hts : ∀ t ∈ ts, t ∈ S)
    (hlaw : ∀ as0, TyArgs P ts as0 → shortAll B as0 = true → ∃ k s', callF cx k f as0 st0 = some (.bool true, s')) {base : Nat} {args : Array Value} {ds : List (DataW H)} {ps : List MemPlace}
    (hok : ∀ (j : Nat) (t : TypeId) (v : Value), ts[j]? = some t → args[j]? = some v → Value.okWide P W .any base t v) (hA : DataW.TrodAll enc P W 0 (fun _ => true) true ts args.toList ds ps) (hx : ∀ d ∈ ds, Q d) :
    Calls P f args W fun e W' => e = .returned (.bool true) ∧ Below W.heap.size W W' := by
  obtain ⟨as0, h1, h2, hsh⟩ := args_R2 hQ hS hts (fun j t v hj hv => hok j t v hj (by simpa using hv)) hA hx
  obtain ⟨k, s', h3⟩ := hlaw as0 h2 hsh
  have := callF_calls (hcx (bs0 W cx.gl) rfl) k whole0 (TyArgs_al h2) hext h3 (inv1 hgl) h1
  rw [Array.toArray_toList] at this
  refine this.mono ?_
  rintro e w' ⟨u, rfl, σ', hst, hR⟩
  simp only [R] at hR
  subst hR
  exact ⟨rfl, hst.inv.below⟩


def uptoOf (s : ChangeSpec) (k : (H : Type) → List (DataW H) → Bool) : OpenSpec := { OpenSpec.ofChange s with cond := some k }
/-- Whether arguments meet the conditions and the bulk's. -/
def preK {H : Type} (enc : TypeId × Value → H) (P : Program) (f : Func) (s : ChangeSpec) (k : (H : Type) → List (DataW H) → Bool) (conds : List PathCond) (apart : Bool) (w : World) (args : Array Value) (fuel : Nat) : Bool :=
  match DataW.whole enc P w f.params.toList s.vars apart args.toList fuel with
  | some x => conds.all (PathCond.test P ⟨f.params.toList, x.1, s.plain.varTypes P, x.2.1⟩) && k H (x.1 ++ x.2.1)
  | none => false
theorem pre_of_preK {f : Func} {s : ChangeSpec} {k : (H : Type) → List (DataW H) → Bool} {conds : List PathCond} {apart : Bool} {w : World} {args : Array Value} {fuel : Nat} (h : preK enc P f s k conds apart w args fuel = true) : (uptoOf s k).pre enc P f conds apart w args := by
  unfold preK at h
  split at h
  · rename_i x hx
    simp only [Bool.and_eq_true] at h
    exact (OpenSpec.pre_some (k := k) rfl conds apart _ _).2 ⟨x.1, x.2.1, x.2.2, DataW.Whole_of_whole hx, h.1, h.2⟩
  · cases h
theorem witness_upto {C : Checked} {os : Os} {f : FuncId} {fn : Func} {s : ChangeSpec} {k : (H : Type) → List (DataW H) → Bool} {conds : List PathCond} {apart : Bool} {X : World → Array Value → Prop} (modest : Bool) (w0 : World) (args : Array Value) (fuel : Nat) (hos : w0.os = os)
    (hsh : (w0.forCall (fun _ _ => 0) ⟨#[], args, []⟩).Shaped C.prog)
    (hok : Input.okWideB C.prog (w0.forCall (fun _ _ => 0) ⟨#[], args, []⟩) f ⟨#[], args, []⟩ = true)
    (hpre : preK enc C.prog fn s k conds apart (w0.forCall (fun _ _ => 0) ⟨#[], args, []⟩).memory args fuel = true)
    (hsz : s.sizedB enc C.prog fn apart (w0.forCall (fun _ _ => 0) ⟨#[], args, []⟩).memory args fuel = true)
    (hx : X (w0.forCall (fun _ _ => 0) ⟨#[], args, []⟩).memory args) :
    ∃ (w : World) (tape : Tape) (i : Input), w.os = os ∧ (w.forCall tape i).Shaped C.prog ∧ i.vars = [] ∧ Input.okWide C.prog (w.forCall tape i) .any w.heap.size f i ∧
      (((uptoOf s k).pre enc C.prog fn conds apart (w.forCall tape i).memory i.args ∧ X (w.forCall tape i).memory i.args) ∧ sizedMet enc C.prog fn (uptoOf s k) apart (w.forCall tape i).memory i.args) ∧ ({ modest := modest } : Assume).holds C.prog (lone (Frame.enter C.prog f i.args .normal) [] (w.forCall tape i)) :=
  ⟨w0, fun _ _ => 0, ⟨#[], args, []⟩, hos, hsh, (Input.okWide_of_okWideB (base := 0) hok).1, (Input.okWide_of_okWideB hok).2, ⟨⟨pre_of_preK hpre, hx⟩, sizedMet_of_sizedB hsz⟩, by
    simp only [Assume.holds]
    exact ⟨by simp, by simp, fun _ => Modest.zero, by simp, by simp⟩⟩
/-- A law that the machine answers with true, where the row lists what variables hold, for arguments of a bulk at most. -/
theorem law_lifted_upto {a : Assume} {C : Checked} {os : Os} {f : FuncId} {fn : Func} {s : ChangeSpec} {k : (H : Type) → List (DataW H) → Bool} {conds : List PathCond} {apart fresh handsOn again : Bool} {cx : Cx} {S : List TypeId} {tb : TypeId} {L : List (String × DataW Unit)} {B : Nat} {Q : DataW H → Prop}
    (own : ownKnob C.prog.godebug = none) (started : os.Started) (noInit : C.prog.inits.idxOf? f = none) (hfn : C.prog.funcs[f]? = some fn)
    (witness : ∃ (w : World) (tape : Tape) (i : Input), w.os = os ∧ (w.forCall tape i).Shaped C.prog ∧ i.vars = [] ∧ Input.okWide C.prog (w.forCall tape i) .any w.heap.size f i ∧
      (((uptoOf s k).pre enc C.prog fn conds apart (w.forCall tape i).memory i.args ∧ laidMetH C.prog L (w.forCall tape i).memory) ∧ sizedMet enc C.prog fn (uptoOf s k) apart (w.forCall tape i).memory i.args) ∧ a.holds C.prog (lone (Frame.enter C.prog f i.args .normal) [] (w.forCall tape i)))
    (hQ : Bulk B Q) (hk : ∀ ds, k H ds = true → ∀ d ∈ ds, Q d)
    (hl : laidOutB C.prog = true) (hcx : ∀ X : Bs, X.gl = cx.gl → CxP C.prog X cx) (hgl : ∀ W, laidMetH C.prog L W → ∀ n cs, cx.gl n = some cs → alAll (fun _ => false) cs = true ∧ RC (firstGh W) cs n 0) (hext : cx.ext f = none) (hS : simpleSet C.prog S = true)
    (hpar : ∀ t ∈ fn.params.toList, t ∈ S ∧ C.prog.readableRec t = true ∧ t < C.prog.types.size) (hvars : s.vars = []) (hres : fn.resultTypes = #[tb]) (htb : C.prog.underlying tb = some .bool)
    (hspec : ∀ ds : List (DataW H), ds.length = fn.params.size → s.fn H ds = { results := [.lit (.bool true)], args := ds })
    (hlaw : ∀ as0, TyArgs C.prog fn.params.toList as0 → shortAll B as0 = true → ∃ k s', callF cx k f as0 st0 = some (.bool true, s')) :
    ReturnsInHanded a C os f .any (fun w args => ((uptoOf s k).pre enc C.prog fn conds apart w args ∧ laidMetH C.prog L w) ∧ sizedMet enc C.prog fn (uptoOf s k) apart w args) (s.post enc C.prog fn apart fresh handsOn again) := by
  refine returnsInHanded_of_calls own started noInit witness ?_
  intro w tape i _ _ _ hok hpre hholds
  obtain ⟨_, _, _, fn', hfn', _, _, _, _, hval⟩ := hok
  have e : fn' = fn := Option.some.inj (hfn'.symm.trans hfn)
  subst e
  obtain ⟨⟨hp1, hL⟩, hz⟩ := hpre
  obtain ⟨ds, gs, before, hw, hc, hkk⟩ := (OpenSpec.pre_some (k := k) rfl conds apart _ _).1 hp1
  have hW := DataW.Whole.of_heap (w' := w.forCall tape i) (by rfl) hw
  have hL2 : laidMetH C.prog L (w.forCall tape i) := hL.of_heap (by rfl)
  have hW0 := hW
  obtain ⟨p, q, hA, hV, _, _, _⟩ := hW0
  have hvars' : (uptoOf s k).vars = [] := hvars
  rw [hvars'] at hV
  cases gs with
  | cons g gs => exact hV.elim
  | nil =>
    rw [List.append_nil] at hkk
    refine (law_calls2 hQ hcx (hgl _ hL2) hext hS (fun t ht => (hpar t ht).1) hlaw (fun j t v hj hv => hval j t v (by simpa using hj) hv) hA (hk ds hkk)).mono ?_
    rintro e W' ⟨rfl, hb⟩
    refine ChangeSpec.post_blind (post_true hl hW hb (fun t ht => (hpar t ht).2) hvars hres htb ?_)
    rw [List.append_nil]
    exact hspec ds (by rw [trodAll_len hA]; simp)
end
end Fw
