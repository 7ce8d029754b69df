/- Parts of the proof, one behind the other. -/
import Derived.Test.YtfhommjochpkbaaDoorFwG
import Derived.Test.YtfhommjochpkbaaDoorFwX
import Derived.ProofKit
import Derived.LaidMore
import Derived.Stop.Joined
import Derived.Lib.LaidTab
import Derived.Shelf.Spec.BitsCarry
set_option linter.unusedSimpArgs false
set_option linter.unusedVariables false
set_option linter.unusedSectionVars false

/- Rows that list what package-level variables hold: the tables that a law's run reads; the two carries of math/bits. -/
namespace Fw
open Go Go.RowKit Go.ChangeShapes Go.WideShapes Go.ChangeAt

section
variable {P : Program} {H : Type} {enc : TypeId × Value → H} {W W' : World}

theorem inv1 {gl : Nat → Option (List AV)} (hgl : ∀ n cs, gl n = some cs → alAll (fun _ => false) cs = true ∧ RC (firstGh W) cs n 0) : Inv (bs0 W gl) (firstGh W) st0.get W :=
  ⟨Below.refl _ _, fun n cs h => hgl n cs h, fun _ _ _ h => h, fun id o h => by simp [st0, St.get, look] at h, fun i j oi oj h => by simp [st0, St.get, look] at h⟩

theorem law_calls1 {cx : Cx} (hcx : ∀ X : Bs, X.gl = cx.gl → CxP P X cx) (hgl : ∀ n cs, cx.gl n = some cs → alAll (fun _ => false) cs = true ∧ RC (firstGh W) cs n 0) {f : Nat} (hext : cx.ext f = none) {S : List TypeId} (hS : simpleSet P S = true) {ts : List TypeId} (hts : ∀ t ∈ ts, t ∈ S)
    (hlaw : ∀ as0, TyArgs P ts as0 → ∃ k s', callF cx k f as0 st0 = some (.bool true, s')) {base : Nat} {args : Array Value} {ds : List (DataW H)} {ps : List MemPlace}
    (hok : ∀ (j : Nat) (t : TypeId) (v : Value), ts[j]? = some t → args[j]? = some v → Value.okWide P W .any base t v) (hA : DataW.TrodAll enc P W 0 (fun _ => true) true ts args.toList ds ps) :
    Calls P f args W fun e W' => e = .returned (.bool true) ∧ Below W.heap.size W W' := by
  obtain ⟨as0, h1, h2⟩ := args_R hS hts (fun j t v hj hv => hok j t v hj (by simpa using hv)) hA
  obtain ⟨k, s', h3⟩ := hlaw as0 h2
  have := callF_calls (X := bs0 W cx.gl) hcx rfl k whole0 (TyArgs_al h2) hext h3 (inv1 hgl) h1
  rw [Array.toArray_toList] at this
  refine this.mono ?_
  rintro e w' ⟨u, rfl, σ', hst, hR⟩
  simp only [R] at hR
  subst hR
  exact ⟨rfl, hst.inv.below⟩

theorem laid_mem {L : List (String × DataW Unit)} {ps : List MemPlace} (h : DataW.LaidVars P W L ps) {n : String} {d : DataW Unit} (hm : (n, d) ∈ L) :
    ∃ g t cs fuel p, P.globalNamed n = some g ∧ (P.globals[g]?).map (·.type) = some t ∧ W.var? P n = some cs ∧ DataW.trod (fun _ => ()) P W 0 (fun _ => true) false fuel t cs.toList = some (d, p) := by
  induction L generalizing ps with
  | nil => simp at hm
  | cons x L ih =>
    obtain ⟨n', d'⟩ := x
    obtain ⟨g, t, cs, fuel, p, q, h1, h2, h3, h4, h5, _⟩ := h
    rcases List.mem_cons.1 hm with e | hm
    · cases e; exact ⟨g, t, cs, fuel, p, h1, h2, h3, h4⟩
    · exact ih h5 hm

theorem laidH_mem {L : List (String × DataW Unit)} (h : laidMetH P L W) {n : String} {d : DataW Unit} (hm : (n, d) ∈ L) (hd : d.handleName? = none) :
    ∃ g t cs fuel p, P.globalNamed n = some g ∧ (P.globals[g]?).map (·.type) = some t ∧ W.var? P n = some cs ∧ DataW.trod (fun _ => ()) P W 0 (fun _ => true) false fuel t cs.toList = some (d, p) := by
  unfold laidMetH at h
  split at h
  · obtain ⟨ps, h1, _⟩ := h
    exact laid_mem h1 hm
  · obtain ⟨⟨ps, h1, _⟩, _⟩ := h
    exact laid_mem h1 (List.mem_filter.2 ⟨hm, by simp [hd]⟩)

theorem tab_RC {name : String} {k : IntKind} {zs : List Int} {g : Nat} (h : Lib.TabIs P W name k zs) (hg : P.globalNamed name = some g) : RC (firstGh W) (zs.map (AV.int k)) g 0 := by
  have key : ∀ (n i : Nat), i + n = zs.length → RC (firstGh W) ((zs.drop i).map (AV.int k)) g i := by
    intro n
    induction n with
    | zero => intro i hi; rw [List.drop_eq_nil_of_le (by omega)]; simp [RC]
    | succ n ih =>
      intro i hi
      have hlt : i < zs.length := by omega
      rw [List.drop_eq_getElem_cons hlt, List.map_cons]
      simp only [RC]
      refine ⟨⟨.int k zs[i], ?_, by simp [R]⟩, ih (i + 1) (by omega)⟩
      have := h.cell hg i hlt
      have h2 : W.cell? ⟨g, i, none⟩ = some (.int k zs[i]) := by simpa [List.getD, hlt] using this
      exact h2
  simpa using key zs.length 0 (by omega)

theorem laid_tab {L : List (String × DataW Unit)} (h : laidMetH P L W) {name : String} {k : IntKind} {zs : List Int} (hm : (name, Lib.tabData k zs) ∈ L) {g : Nat} {t e : TypeId} {n : Nat}
    (hg : P.globalNamed name = some g) (hty : (P.globals[g]?).map (·.type) = some t) (ht : P.underlying t = some (.array n e)) (he : P.underlying e = some (.int k)) (hce : P.cellsOf e = 1) (hct : P.cellsOf t = n) :
    alAll (fun _ => false) (zs.map (AV.int k)) = true ∧ RC (firstGh W) (zs.map (AV.int k)) g 0 := by
  obtain ⟨g', t', cs, fuel, p, hg', ht', hvar, hd⟩ := laidH_mem h hm rfl
  obtain rfl := Option.some.inj (hg.symm.trans hg')
  obtain rfl := Option.some.inj (hty.symm.trans ht')
  refine ⟨(alAll_iff _).2 fun a ha => ?_, tab_RC (name := name) ?_ hg⟩
  · obtain ⟨z, _, rfl⟩ := List.mem_map.1 ha; rfl
  · unfold Lib.TabIs
    rw [hvar, ← Lib.cells_of_tab ht he hce hct hd]

/-- A law that the machine answers with true, where the row lists what variables hold. -/
theorem law_lifted_laid {a : Assume} {C : Checked} {os : Os} {f : FuncId} {fn : Func} {s : ChangeSpec} {conds : List PathCond} {apart fresh handsOn again : Bool} {cx : Cx} {S : List TypeId} {tb : TypeId} {L : List (String × DataW Unit)}
    (own : ownKnob C.prog.godebug = none) (started : os.Started) (noInit : C.prog.inits.idxOf? f = none) (hfn : C.prog.funcs[f]? = some fn)
    (witness : ∃ (w : World) (tape : Tape) (i : Input), w.os = os ∧ (w.forCall tape i).Shaped C.prog ∧ i.vars = [] ∧ Input.okWide C.prog (w.forCall tape i) .any w.heap.size f i ∧
      ((s.pre enc C.prog fn conds apart (w.forCall tape i).memory i.args ∧ laidMetH C.prog L (w.forCall tape i).memory) ∧ sizedMet enc C.prog fn (OpenSpec.ofChange s) apart (w.forCall tape i).memory i.args) ∧ a.holds C.prog (lone (Frame.enter C.prog f i.args .normal) [] (w.forCall tape i)))
    (hl : laidOutB C.prog = true) (hcx : ∀ X : Bs, X.gl = cx.gl → CxP C.prog X cx) (hgl : ∀ W, laidMetH C.prog L W → ∀ n cs, cx.gl n = some cs → alAll (fun _ => false) cs = true ∧ RC (firstGh W) cs n 0) (hext : cx.ext f = none) (hS : simpleSet C.prog S = true)
    (hpar : ∀ t ∈ fn.params.toList, t ∈ S ∧ C.prog.readableRec t = true ∧ t < C.prog.types.size) (hvars : s.vars = []) (hres : fn.resultTypes = #[tb]) (htb : C.prog.underlying tb = some .bool)
    (hspec : ∀ ds : List (DataW H), ds.length = fn.params.size → s.fn H ds = { results := [.lit (.bool true)], args := ds })
    (hlaw : ∀ as0, TyArgs C.prog fn.params.toList as0 → ∃ k s', callF cx k f as0 st0 = some (.bool true, s')) :
    ReturnsInHanded a C os f .any (fun w args => (s.pre enc C.prog fn conds apart w args ∧ laidMetH C.prog L w) ∧ sizedMet enc C.prog fn (OpenSpec.ofChange s) apart w args) (s.post enc C.prog fn apart fresh handsOn again) := by
  refine returnsInHanded_of_change_and (X := fun w _ => laidMetH C.prog L w) (fun _ _ _ hh h => h.of_heap hh) own started noInit hfn witness ?_
  intro W base args ds gs before hval hW _ _ hL _
  have hW0 := hW
  obtain ⟨p, q, hA, hV, _, _, _⟩ := hW0
  rw [hvars] at hV
  cases gs with
  | cons g gs => exact hV.elim
  | nil =>
    refine (law_calls1 hcx (hgl W hL) hext hS (fun t ht => (hpar t ht).1) hlaw (fun j t v hj hv => hval j t v (by simpa using hj) hv) hA).mono ?_
    rintro e W' ⟨rfl, hb⟩
    refine ⟨_, rfl, post_true hl hW hb (fun t ht => (hpar t ht).2) hvars hres htb ?_⟩
    rw [List.append_nil]
    exact hspec ds (by rw [trodAll_len hA]; simp)
end

/- math/bits -/
section
variable {P : Program}
end
end Fw
