/- Parts of the proof, one behind the other. -/
import Derived.Test.YteaoeaapmjeciaaDoorFwG
import Derived.Test.YteaoeaapmjeciaaDoorFwX
import Derived.ProofKit
import Derived.LaidMore
import Derived.Stop.Joined
import Derived.Lib.LaidTab
import Derived.Shelf.Spec.BitsCarry
set_option linter.unusedSimpArgs false
set_option linter.unusedVariables false
/- Rows that list what package-level variables hold: the tables that a law's run reads; the two carries of math/bits. -/
namespace Fw
open Go Go.RowKit Go.ChangeShapes Go.WideShapes Go.ChangeAt

section
variable {P : Program} {H : Type} {enc : TypeId × Value → H} {W W' : World}

theorem inv1 {gl : Nat → Option (List AV)} (hgl : ∀ n cs, gl n = some cs → alAll (fun _ => false) cs = true ∧ RC (firstGh W) cs n 0) : Inv (bs0 W gl) (firstGh W) st0.get W :=
  ⟨Below.refl _ _, fun n cs h => hgl n cs h, fun _ _ _ h => h, fun id o h => by simp [st0, St.get, look] at h, fun i j oi oj h => by simp [st0, St.get, look] at h⟩

theorem law_calls1 {cx : Cx} (hcx : ∀ X : Bs, X.gl = cx.gl → CxP P X cx) (hgl : ∀ n cs, cx.gl n = some cs → alAll (fun _ => false) cs = true ∧ RC (firstGh W) cs n 0) {f : Nat} (hext : cx.ext f = none) {S : List TypeId} (hS : simpleSet P S = true) {ts : List TypeId} (hts : ∀ t ∈ ts, t ∈ S)
    (hlaw : ∀ as0, TyArgs P ts as0 → ∃ k s', callF cx k f as0 st0 = some (.bool true, s')) {base : Nat} {args : Array Value} {ds : List (DataW H)} {ps : List MemPlace}
    (hok : ∀ (j : Nat) (t : TypeId) (v : Value), ts[j]? = some t → args[j]? = some v → Value.okWide P W .any base t v) (hA : DataW.TrodAll enc P W 0 (fun _ => true) true ts args.toList ds ps) :
    Calls P f args W fun e W' => e = .returned (.bool true) ∧ Below W.heap.size W W' := by
  obtain ⟨as0, h1, h2⟩ := args_R hS hts (fun j t v hj hv => hok j t v hj (by simpa using hv)) hA
  obtain ⟨k, s', h3⟩ := hlaw as0 h2
  have := callF_calls (hcx (bs0 W cx.gl) rfl) k whole0 (TyArgs_al h2) hext h3 (inv1 hgl) h1
  rw [Array.toArray_toList] at this
  refine this.mono ?_
  rintro e w' ⟨u, rfl, σ', hst, hR⟩
  simp only [R] at hR
  subst hR
  exact ⟨rfl, hst.inv.below⟩

theorem laid_mem {L : List (String × DataW Unit)} {ps : List MemPlace} (h : DataW.LaidVars P W L ps) {n : String} {d : DataW Unit} (hm : (n, d) ∈ L) :
    ∃ g t cs fuel p, P.globalNamed n = some g ∧ (P.globals[g]?).map (·.type) = some t ∧ W.var? P n = some cs ∧ DataW.trod (fun _ => ()) P W 0 (fun _ => true) false fuel t cs.toList = some (d, p) := by
  induction L generalizing ps with
  | nil => simp at hm
  | cons x L ih =>
    obtain ⟨n', d'⟩ := x
    obtain ⟨g, t, cs, fuel, p, q, h1, h2, h3, h4, h5, _⟩ := h
    rcases List.mem_cons.1 hm with e | hm
    · cases e; exact ⟨g, t, cs, fuel, p, h1, h2, h3, h4⟩
    · exact ih h5 hm

theorem laidH_mem {L : List (String × DataW Unit)} (h : laidMetH P L W) {n : String} {d : DataW Unit} (hm : (n, d) ∈ L) (hd : d.handleName? = none) :
    ∃ g t cs fuel p, P.globalNamed n = some g ∧ (P.globals[g]?).map (·.type) = some t ∧ W.var? P n = some cs ∧ DataW.trod (fun _ => ()) P W 0 (fun _ => true) false fuel t cs.toList = some (d, p) := by
  unfold laidMetH at h
  split at h
  · obtain ⟨ps, h1, _⟩ := h
    exact laid_mem h1 hm
  · obtain ⟨⟨ps, h1, _⟩, _⟩ := h
    exact laid_mem h1 (List.mem_filter.2 ⟨hm, by simp [hd]⟩)

theorem tab_RC {name : String} {k : IntKind} {zs : List Int} {g : Nat} (h : Lib.TabIs P W name k zs) (hg : P.globalNamed name = some g) : RC (firstGh W) (zs.map (AV.int k)) g 0 := by
  have key : ∀ (n i : Nat), i + n = zs.length → RC (firstGh W) ((zs.drop i).map (AV.int k)) g i := by
    intro n
    induction n with
    | zero => intro i hi; rw [List.drop_eq_nil_of_le (by omega)]; simp [RC]
    | succ n ih =>
      intro i hi
      have hlt : i < zs.length := by omega
      rw [List.drop_eq_getElem_cons hlt, List.map_cons]
      simp only [RC]
      refine ⟨⟨.int k zs[i], ?_, by simp [R]⟩, ih (i + 1) (by omega)⟩
      have := h.cell hg i hlt
      have h2 : W.cell? ⟨g, i, none⟩ = some (.int k zs[i]) := by simpa [List.getD, hlt] using this
      exact h2
  simpa using key zs.length 0 (by omega)

theorem laid_tab {L : List (String × DataW Unit)} (h : laidMetH P L W) {name : String} {k : IntKind} {zs : List Int} (hm : (name, Lib.tabData k zs) ∈ L) {g : Nat} {t e : TypeId} {n : Nat}
    (hg : P.globalNamed name = some g) (hty : (P.globals[g]?).map (·.type) = some t) (ht : P.underlying t = some (.array n e)) (he : P.underlying e = some (.int k)) (hce : P.cellsOf e = 1) (hct : P.cellsOf t = n) :
    alAll (fun _ => false) (zs.map (AV.int k)) = true ∧ RC (firstGh W) (zs.map (AV.int k)) g 0 := by
  obtain ⟨g', t', cs, fuel, p, hg', ht', hvar, hd⟩ := laidH_mem h hm rfl
  obtain rfl := Option.some.inj (hg.symm.trans hg')
  obtain rfl := Option.some.inj (hty.symm.trans ht')
  refine ⟨(alAll_iff _).2 fun a ha => ?_, tab_RC (name := name) ?_ hg⟩
  · obtain ⟨z, _, rfl⟩ := List.mem_map.1 ha; rfl
  · unfold Lib.TabIs
    rw [hvar, ← Lib.cells_of_tab ht he hce hct hd]

/-- A law that the machine answers with true, where the row lists what variables hold. -/
theorem law_lifted_laid {a : Assume} {C : Checked} {os : Os} {f : FuncId} {fn : Func} {s : ChangeSpec} {conds : List PathCond} {apart fresh handsOn again : Bool} {cx : Cx} {S : List TypeId} {tb : TypeId} {L : List (String × DataW Unit)}
    (own : ownKnob C.prog.godebug = none) (started : os.Started) (noInit : C.prog.inits.idxOf? f = none) (hfn : C.prog.funcs[f]? = some fn)
    (witness : ∃ (w : World) (tape : Tape) (i : Input), w.os = os ∧ (w.forCall tape i).Shaped C.prog ∧ i.vars = [] ∧ Input.okWide C.prog (w.forCall tape i) .any w.heap.size f i ∧
      ((s.pre enc C.prog fn conds apart (w.forCall tape i).memory i.args ∧ laidMetH C.prog L (w.forCall tape i).memory) ∧ sizedMet enc C.prog fn (OpenSpec.ofChange s) apart (w.forCall tape i).memory i.args) ∧ a.holds C.prog (lone (Frame.enter C.prog f i.args .normal) [] (w.forCall tape i)))
    (hl : laidOutB C.prog = true) (hcx : ∀ X : Bs, X.gl = cx.gl → CxP C.prog X cx) (hgl : ∀ W, laidMetH C.prog L W → ∀ n cs, cx.gl n = some cs → alAll (fun _ => false) cs = true ∧ RC (firstGh W) cs n 0) (hext : cx.ext f = none) (hS : simpleSet C.prog S = true)
    (hpar : ∀ t ∈ fn.params.toList, t ∈ S ∧ C.prog.readableRec t = true ∧ t < C.prog.types.size) (hvars : s.vars = []) (hres : fn.resultTypes = #[tb]) (htb : C.prog.underlying tb = some .bool)
    (hspec : ∀ ds : List (DataW H), ds.length = fn.params.size → s.fn H ds = { results := [.lit (.bool true)], args := ds })
    (hlaw : ∀ as0, TyArgs C.prog fn.params.toList as0 → ∃ k s', callF cx k f as0 st0 = some (.bool true, s')) :
    ReturnsInHanded a C os f .any (fun w args => (s.pre enc C.prog fn conds apart w args ∧ laidMetH C.prog L w) ∧ sizedMet enc C.prog fn (OpenSpec.ofChange s) apart w args) (s.post enc C.prog fn apart fresh handsOn again) := by
  refine returnsInHanded_of_change_and (X := fun w _ => laidMetH C.prog L w) (fun _ _ _ hh h => h.of_heap hh) own started noInit hfn witness ?_
  intro W base args ds gs before hval hW _ _ hL _
  have hW0 := hW
  obtain ⟨p, q, hA, hV, _, _, _⟩ := hW0
  rw [hvars] at hV
  cases gs with
  | cons g gs => exact hV.elim
  | nil =>
    refine (law_calls1 hcx (hgl W hL) hext hS (fun t ht => (hpar t ht).1) hlaw (fun j t v hj hv => hval j t v (by simpa using hj) hv) hA).mono ?_
    rintro e W' ⟨rfl, hb⟩
    refine ⟨_, rfl, post_true hl hW hb (fun t ht => (hpar t ht).2) hvars hres htb ?_⟩
    rw [List.append_nil]
    exact hspec ds (by rw [trodAll_len hA]; simp)
end

/- math/bits -/
def xAdd64 (args : List AV) (s : St) : Option (AV × St) :=
  match args with
  | [.int .u64 x, .int .u64 y, .int .u64 c] => if 0 ≤ x ∧ 0 ≤ y ∧ 0 ≤ c ∧ c ≤ 1 then some (.tuple [.int .u64 ((x + y + c) % 18446744073709551616), .int .u64 ((x + y + c) / 18446744073709551616)], s) else none
  | _ => none
def xSub64 (args : List AV) (s : St) : Option (AV × St) :=
  match args with
  | [.int .u64 x, .int .u64 y, .int .u64 c] => if 0 ≤ x ∧ 0 ≤ y ∧ y ≤ 18446744073709551615 ∧ 0 ≤ c ∧ c ≤ 1 then some (.tuple [.int .u64 ((x + 18446744073709551616 - y - c) % 18446744073709551616), .int .u64 (if x < y + c then 1 else 0)], s) else none
  | _ => none
section
variable {P : Program}
theorem xAdd64_ok {f : FuncId} {fn : Func} (hf : P.funcs[f]? = some fn) (hname : (fn.name == "runtime.NumGoroutine") = false) (hb : fn.body.isNone = true) (hn : Extern.findNext fn = none)
    (he : Extern.find fn = some add64Entry) : ExtOk P f xAdd64 := by
  refine ExtOk.entry hf hname hb hn he fun args s v s' h => ?_
  unfold xAdd64 at h
  split at h
  · rename_i x y c
    split at h
    · rename_i hh
      cases h
      refine ⟨rfl, rfl, fun σ vs hR w => ?_⟩
      simp only [Rs, R] at hR
      obtain ⟨v1, r1, rfl, rfl, v2, r2, rfl, rfl, v3, r3, rfl, rfl, rfl⟩ := hR
      exact ⟨_, run_add64 x y c hh.1 hh.2.1 hh.2.2.1 hh.2.2.2 w, by simp [R, Rs]⟩
    · cases h
  · cases h
theorem xSub64_ok {f : FuncId} {fn : Func} (hf : P.funcs[f]? = some fn) (hname : (fn.name == "runtime.NumGoroutine") = false) (hb : fn.body.isNone = true) (hn : Extern.findNext fn = none)
    (he : Extern.find fn = some Go.Proofs.sub64Entry) : ExtOk P f xSub64 := by
  refine ExtOk.entry hf hname hb hn he fun args s v s' h => ?_
  unfold xSub64 at h
  split at h
  · rename_i x y c
    split at h
    · rename_i hh
      cases h
      refine ⟨rfl, rfl, fun σ vs hR w => ?_⟩
      simp only [Rs, R] at hR
      obtain ⟨v1, r1, rfl, rfl, v2, r2, rfl, rfl, v3, r3, rfl, rfl, rfl⟩ := hR
      obtain ⟨x, rfl⟩ := Int.eq_ofNat_of_zero_le hh.1
      obtain ⟨y, rfl⟩ := Int.eq_ofNat_of_zero_le hh.2.1
      obtain ⟨c, rfl⟩ := Int.eq_ofNat_of_zero_le hh.2.2.2.1
      refine ⟨_, Go.Proofs.run_sub64 x y c (by omega) w, ?_⟩
      simp only [R, Rs]
      have e1 : (((x + 18446744073709551616 - y - c) % 18446744073709551616 : Nat) : Int) = ((x : Int) + 18446744073709551616 - y - c) % 18446744073709551616 := by omega
      have e2 : ((if x < y + c then 1 else 0 : Nat) : Int) = if (x : Int) < (y : Int) + c then 1 else 0 := by split <;> split <;> omega
      rw [e1, e2]
      exact ⟨_, rfl, _, _, rfl, rfl, _, _, rfl, rfl, rfl⟩
    · cases h
  · cases h
end
end Fw
