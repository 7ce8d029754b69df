/- Parts of the proof, one behind the other. -/
import Derived.Test.YtfhommjochpkbaaDoorFwA
import Derived.Test.YtfhommjochpkbaaDoorFwD
import Derived.Laws.Externs
import Derived.Lib.UnsafeStr
import Derived.Lib.Index
import Derived.Lib.Repeat
import Derived.Lib.SlTrimSet
import Derived.Lib.Atoi
import Derived.Lib.Join
import Derived.Lib.TrimByte
import Derived.Lib.Bytealg
import Derived.Attr
set_option linter.unusedSimpArgs false
set_option linter.unusedVariables false
set_option linter.unusedSectionVars false

/- More fuel changes no answer. -/
namespace Fw
open Go

def CLe (c c' : Callee) : Prop := ∀ f args s r, c f args s = some r → c' f args s = some r
def XLe (e e' : Ex) : Prop := ∀ c ρ s r, e c ρ s = some r → e' c ρ s = some r

section
variable {cx : Cx} {c c' : Callee}

theorem evOp_le (h : CLe c c') {ρ : Env} {s : St} {o : IOp} {r : AV × St} (he : evOp cx c ρ s o = some r) : evOp cx c' ρ s o = some r := by
  cases o
  case call f xs =>
    simp only [evOp] at he ⊢
    split at he
    · rename_i g a b hf
      simp only [Option.bind_eq_some_iff] at he ⊢
      obtain ⟨vs, h1, h2⟩ := he
      exact ⟨vs, h1, h _ _ _ _ h2⟩
    · cases he
  all_goals exact he

theorem evOper_le (h : CLe c c') {ρ : Env} {s : St} {o : IOper} {r : Env × St} (he : evOper cx c o ρ s = some r) : evOper cx c' o ρ s = some r := by
  unfold evOper at he ⊢
  split
  · rename_i hq
    rw [if_pos hq] at he
    simp only [Option.map_eq_some_iff] at he ⊢
    obtain ⟨x, h1, h2⟩ := he
    exact ⟨x, evOp_le h h1, h2⟩
  · rename_i hq
    rw [if_neg hq] at he; exact he

theorem evOps_le (h : CLe c c') : ∀ {os : List IOper} {ρ : Env} {s : St} {r : Env × St}, evOps cx c os ρ s = some r → evOps cx c' os ρ s = some r
  | [], _, _, _, he => he
  | o :: os, ρ, s, r, he => by
    simp only [evOps, Option.bind_eq_some_iff] at he ⊢
    obtain ⟨x, h1, h2⟩ := he
    exact ⟨x, evOper_le h h1, evOps_le h h2⟩

theorem map_le {α β : Type} {x y : Option α} {f : α → β} (h : ∀ r, x = some r → y = some r) {r : β} (he : x.map f = some r) : y.map f = some r := by
  simp only [Option.map_eq_some_iff] at he ⊢
  obtain ⟨z, h1, h2⟩ := he
  exact ⟨z, h _ h1, h2⟩

theorem evDeed_le (h : CLe c c') {ρ : Env} {s : St} {o : IOp} {r : AV × St × Option Deed} (he : evDeed cx c ρ s o = some r) : evDeed cx c' ρ s o = some r := by
  unfold evDeed at he ⊢
  split
  · rename_i hq; rw [if_pos hq] at he; exact map_le (fun _ => evOp_le h) he
  · rename_i hq
    rw [if_neg hq] at he
    split
    · rename_i hl; rw [if_pos hl] at he; exact map_le (fun _ => evOp_le h) he
    · rename_i hl
      rw [if_neg hl] at he
      cases o <;> exact map_le (fun _ => evOp_le h) he

theorem evDraw_le (h : CLe c c') : ∀ {os : List (IOper × Nat)} {i : Nat} {ds : List (Nat × Deed)} {ρ : Env} {s : St} {r : Env × St}, evDraw cx c os i ds ρ s = some r → evDraw cx c' os i ds ρ s = some r
  | [], _, _, _, _, _, he => he
  | (o, m) :: os, i, ds, ρ, s, r, he => by
    simp only [evDraw] at he ⊢
    split
    · rename_i hq
      rw [if_pos hq] at he
      simp only [Option.bind_eq_some_iff] at he ⊢
      obtain ⟨⟨v, s1, d⟩, h1, h2⟩ := he
      refine ⟨⟨v, s1, d⟩, evDeed_le h h1, ?_⟩
      dsimp only at h2 ⊢
      split
      · exact evDraw_le h h2
      · rename_i d0
        dsimp only at h2
        split
        · rename_i hf; rw [if_pos hf] at h2; exact evDraw_le h h2
        · rename_i hf; rw [if_neg hf] at h2; cases h2
    · rename_i hq
      rw [if_neg hq] at he; exact evDraw_le h he

theorem runFn_le {e e' : Ex} (h : XLe e e') {fn : IFunc} {args : List AV} {s : St} {r : AV × St} (he : runFn e fn args s = some r) : runFn e' fn args s = some r := by
  unfold runFn at he ⊢
  simp only [Option.bind_eq_some_iff] at he ⊢
  obtain ⟨x, h2, h3⟩ := he
  exact ⟨x, h _ _ _ _ h2, h3⟩

theorem callWith_le {e e' : Ex} (h : XLe e e') : CLe (callWith cx e) (callWith cx e') := by
  intro f args s r he
  unfold callWith at he ⊢
  split
  · rename_i g hg; rw [hg] at he; exact he
  · rename_i hg
    rw [hg] at he
    simp only [Option.bind_eq_some_iff] at he ⊢
    obtain ⟨fn, h1, h2⟩ := he
    refine ⟨fn, h1, ?_⟩
    split at h2
    · exact map_le (fun _ => runFn_le h) h2
    · simp only [Option.bind_eq_some_iff] at h2 ⊢
      obtain ⟨x, h3, h4⟩ := h2
      exact ⟨x, runFn_le h h3, h4⟩
    · simp only [Option.bind_eq_some_iff] at h2 ⊢
      obtain ⟨y, h5, x, h3, h4⟩ := h2
      exact ⟨y, h5, x, runFn_le h h3, h4⟩
    · simp only [Option.bind_eq_some_iff] at h2 ⊢
      obtain ⟨y, h5, x, h3, h4⟩ := h2
      exact ⟨y, h5, x, runFn_le h h3, h4⟩
    · exact map_le (fun _ => runFn_le h) h2

theorem exec_le : ∀ k, XLe (exec cx k) (exec cx (k + 1))
  | 0 => fun _ _ _ _ h => by simp [exec] at h
  | k + 1 => by
    intro c ρ s r h
    have ih := exec_le k
    have hc := callWith_le (cx := cx) ih
    unfold exec at h
    unfold exec
    cases c <;> dsimp only at h ⊢
    case skip => exact h
    case region ops => exact map_le (fun _ => evOps_le hc) h
    case dregion ops => exact map_le (fun _ => evDraw_le hc) h
    case seq a b =>
      simp only [Option.bind_eq_some_iff] at h ⊢
      obtain ⟨⟨g, ρ1, s1⟩, h1, h2⟩ := h
      refine ⟨_, ih _ _ _ _ h1, ?_⟩
      cases g <;> dsimp only at h2 ⊢ <;> first | exact ih _ _ _ _ h2 | exact h2
    case cond x a b =>
      split at h
      · exact ih _ _ _ _ h
      · cases h
    case block id b => exact map_le (fun _ => ih _ _ _ _) h
    case loop b =>
      simp only [Option.bind_eq_some_iff] at h ⊢
      obtain ⟨⟨g, ρ1, s1⟩, h1, h2⟩ := h
      refine ⟨_, ih _ _ _ _ h1, ?_⟩
      cases g <;> dsimp only at h2 ⊢ <;> first | exact ih _ _ _ _ h2 | exact h2
    case exit id => exact h
    case scope b => exact ih _ _ _ _ h
    case ret => exact h
end
end Fw


/- The contracts of library functions in the machine's terms: what such a contract is; internal/bytealg's search for a byte; strings.Builder's inner check and its String. -/
namespace Fw
open Go Go.RowKit

/-- A function's contract in the machine's terms. -/
structure ExtOk (P : Program) (f : FuncId) (g : List AV → St → Option (AV × St)) : Prop where
  kept : ∀ args s v s', Whole s → alAll (below s.next) args = true → g args s = some (v, s') → Kept s s' ∧ v.al (below s'.next) = true
  does : ∀ X args s v s', Whole s → alAll (below s.next) args = true → g args s = some (v, s') → ∀ σ w vs, Inv X σ s.get w → Rs σ args vs → Does P f vs.toArray w (Answer X σ s w v s')

section
variable {P : Program} {X : Bs} {σ : Gh} {g : Hp} {w : World} {s : St}

/- strings.Builder -/
end
end Fw


/- The context of a program: its compiled functions and the contracts of those that the library answers. -/
namespace Fw
open Go Go.RowKit

end Fw


/- Contracts that lean on what a variable holds; functions of the library that hand back plain values, out of the shelf's contracts. -/
namespace Fw
open Go Go.RowKit

/-- A function's contract in the machine's terms, where the program's variables hold what gl says. -/
structure ExtOkG (P : Program) (gl : Nat → Option (List AV)) (f : FuncId) (g : List AV → St → Option (AV × St)) : Prop where
  kept : ∀ args s v s', Whole s → alAll (below s.next) args = true → g args s = some (v, s') → Kept s s' ∧ v.al (below s'.next) = true
  does : ∀ X : Bs, X.gl = gl → ∀ args s v s', Whole s → alAll (below s.next) args = true → g args s = some (v, s') → ∀ σ w vs, Inv X σ s.get w → Rs σ args vs → Does P f vs.toArray w (Answer X σ s w v s')

section
variable {P : Program} {gl : Nat → Option (List AV)} {f : FuncId} {g : List AV → St → Option (AV × St)}
theorem ExtOkG.of (h : ExtOk P f g) : ExtOkG P gl f g := ⟨h.kept, fun X _ => h.does X⟩

/-- A function that hands back plain values, and leaves all that lies there as it is. -/
theorem ExtOkG.below {fn : Func} (hf : P.funcs[f]? = some fn) (hn : fn.name ≠ "runtime.NumGoroutine") (hb : fn.body.isSome = true)
    (hg : ∀ args s v s', g args s = some (v, s') → s' = s ∧ v.al (fun _ => false) = true ∧ ∀ X : Bs, X.gl = gl → ∀ σ w vs, Inv X σ s.get w → Rs σ args vs → Calls P f vs.toArray w fun e w' => ∃ u, e = .returned u ∧ Below w.heap.size w w' ∧ R σ v u) : ExtOkG P gl f g where
  kept := fun args s v s' hw hal h => by
    obtain ⟨rfl, h2, _⟩ := hg _ _ _ _ h
    exact ⟨Kept.refl hw, AV.al_mono (fun _ h => by cases h) _ h2⟩
  does := fun X hX args s v s' hw hal h σ w vs hI hR => by
    obtain ⟨rfl, h2, h3⟩ := hg _ _ _ _ h
    refine Does.of_calls hf hn hb (Calls.mono (h3 X hX σ w vs hI hR) ?_)
    rintro e w' ⟨u, rfl, h4, h5⟩
    exact ⟨u, rfl, σ, hI.grown h4, h5⟩

theorem cxp_ofG {tbl : List (Option IFunc)} {cx : Cx} (hshut : (tbl.all fun o => match o with | some ir => ir.body.shut | none => true) = true)
    (htbl : tbl = (List.range tbl.length).map fun i => (P.funcs[i]?).bind (cFunc P)) (hfns : cx.fns = fun i => (tbl[i]?).join) (hext : ∀ f g, cx.ext f = some g → ExtOkG P cx.gl f g)
    (hgl : cx.GlOk) (hmix : P.follows .mixedOrders = true) (X : Bs) (hX : X.gl = cx.gl) : CxP P X cx where
  ok := by
    refine ⟨hgl, fun f fn h => ?_, fun f g h => (hext f g h).kept⟩
    rw [hfns] at h
    simp only [Option.join_eq_some_iff] at h
    have := List.all_eq_true.1 hshut _ (List.mem_of_getElem? h)
    simpa using this
  gl := hX.symm
  fns := fun f ifn h => by
    rw [hfns] at h
    simp only [Option.join_eq_some_iff] at h
    rw [htbl, List.getElem?_map] at h
    simp only [Option.map_eq_some_iff, Option.bind_eq_some_iff] at h
    obtain ⟨i, h1, fn, h2, h3⟩ := h
    have := List.getElem?_eq_some_iff.1 h1
    obtain ⟨_, h4⟩ := this
    simp only [List.getElem_range] at h4
    subst h4
    exact ⟨fn, h2, h3⟩
  ext := fun f g h args s v s' hw hal he σ w vs hI hR => (hext f g h).does X hX args s v s' hw hal he σ w vs hI hR
  draw := drawOk hX.symm hgl hmix

theorem two_R {σ : Gh} {a b : AV} {vs : List Value} (h : Rs σ [a, b] vs) : ∃ u v, vs = [u, v] ∧ R σ a u ∧ R σ b v := by
  simp only [Rs] at h
  obtain ⟨u, _, rfl, h1, v, _, rfl, h2, rfl⟩ := h
  exact ⟨u, v, rfl, h1, h2⟩
/- strings.Repeat -/
def xRepeat (args : List AV) (s : St) : Option (AV × St) :=
  match args with
  | [.str b, .int .i64 c] => if 0 ≤ c ∧ c ≤ 9223372036854775807 ∧ b.length * c.toNat ≤ 140737488355328 then some (.str (Lib.repeatL b c.toNat), s) else none
  | _ => none
theorem xRepeat_ok {fn : Func} (hf : P.funcs[f]? = some fn) (hn : fn.name ≠ "runtime.NumGoroutine") (hb : fn.body.isSome = true)
    (h : ∀ (s : ByteArray) (c : Nat) (w : World), c ≤ 9223372036854775807 → s.size * c ≤ 140737488355328 → Calls P f #[.string s, .int .i64 c] w fun e w' => e = .returned (.string ⟨(Lib.repeatL s.data.toList c).toArray⟩) ∧ Below w.heap.size w w') : ExtOkG P gl f xRepeat := by
  refine ExtOkG.below hf hn hb fun args s v s' he => ?_
  unfold xRepeat at he
  split at he
  · rename_i b c
    split at he <;> cases he
    rename_i hq
    refine ⟨rfl, rfl, fun X _ σ w vs hI hR => ?_⟩
    obtain ⟨u1, u2, rfl, h1, h2⟩ := two_R hR
    simp only [R] at h1 h2
    subst h1; subst h2
    obtain ⟨c, rfl⟩ := Int.eq_ofNat_of_zero_le hq.1
    refine (h ⟨b.toArray⟩ c w (by omega) (by simpa [ByteArray.size] using hq.2.2)).mono ?_
    rintro e w' ⟨rfl, h3⟩
    exact ⟨_, rfl, h3, by simp only [R, Int.toNat_natCast]⟩
  · cases he

/- strings.Index, which reads a variable -/
/- strings.Trim at a set of ASCII -/
/- strconv.Atoi at a short numeral -/
end
end Fw


/- strings.Join, strings.Trim of one byte, strconv's errors: out of the shelf's contracts. -/
namespace Fw
open Go Go.RowKit
section
variable {P : Program} {gl : Nat → Option (List AV)} {f : FuncId}
/-- What a variable's first cell holds, where it is an interface's value. -/
theorem gl_iface {X : Bs} {σ : Gh} {h : Hp} {w : World} (hI : Inv X σ h w) {n : Nat} (hg : X.gl n = some [.anyiface]) : ∃ ev, w.cell? ⟨n, 0, none⟩ = some ev ∧ ∃ te pe, ev = .iface te pe := by
  obtain ⟨_, h2⟩ := hI.gls n _ hg
  simp only [RC] at h2
  obtain ⟨⟨v, h3, h4⟩, _⟩ := h2
  simp only [R] at h4
  exact ⟨v, hI.gh _ _ _ h3, h4⟩
/- strings.Trim at one byte -/
def xTrim1 (args : List AV) (s : St) : Option (AV × St) :=
  match args with
  | [.str b, .str [c]] => if b.length ≤ 9223372036854775807 ∧ c.toNat < 128 then some (.str (Lib.trimB b c), s) else none
  | _ => none
theorem xTrim1_ok {fn : Func} (hf : P.funcs[f]? = some fn) (hn : fn.name ≠ "runtime.NumGoroutine") (hb : fn.body.isSome = true)
    (h : ∀ (s : ByteArray) (c : UInt8) (w : World), c.toNat < 128 → s.size ≤ 9223372036854775807 → Calls P f #[.string s, .string ⟨#[c]⟩] w fun e w' => e = .returned (.string ⟨(Lib.trimB s.data.toList c).toArray⟩) ∧ (w' = w ∨ w' = w.drew)) : ExtOkG P gl f xTrim1 := by
  refine ExtOkG.below hf hn hb fun args s v s' he => ?_
  unfold xTrim1 at he
  split at he
  · rename_i b c
    split at he <;> cases he
    rename_i hq
    refine ⟨rfl, rfl, fun X _ σ w vs hI hR => ?_⟩
    obtain ⟨u1, u2, rfl, h1, h2⟩ := two_R hR
    simp only [R] at h1 h2
    subst h1; subst h2
    refine (h ⟨b.toArray⟩ c w hq.2 (by simpa [ByteArray.size] using hq.1)).mono ?_
    rintro e w' ⟨rfl, h3⟩
    refine ⟨_, rfl, ?_, by simp only [R]⟩
    rcases h3 with rfl | rfl
    · exact Below.refl _ _
    · exact ⟨rfl, rfl, rfl, Nat.le_refl _, fun _ _ => rfl⟩
  · cases he
/- strings.Join -/
def strsOf : List AV → Option (List (List UInt8))
  | [] => some []
  | .str s :: l => (strsOf l).map (s :: ·)
  | _ :: _ => none
theorem strsOf_R {σ : Gh} : ∀ {cs : List AV} {xs : List (List UInt8)}, strsOf cs = some xs → ∀ {us : List Value}, Rs σ cs us → us = xs.map fun s => Value.string ⟨s.toArray⟩
  | [], xs, h, us, hR => by simp only [strsOf, Option.some.injEq] at h; subst h; simpa [Rs] using hR
  | .str s :: l, xs, h, us, hR => by
    simp only [strsOf, Option.map_eq_some_iff] at h
    obtain ⟨ys, h1, rfl⟩ := h
    simp only [Rs, R] at hR
    obtain ⟨v, rest, rfl, rfl, h2⟩ := hR
    rw [strsOf_R h1 h2]; rfl
def xJoin (args : List AV) (s : St) : Option (AV × St) :=
  match args with
  | [.nilslice, .str _] => some (.str [], s)
  | [.slice cs n _, .str sep] => (strsOf cs).bind fun xs => if n = xs.length ∧ n ≤ 140737488355328 ∧ (Lib.join xs sep).length ≤ 140737488355328 then some (.str (Lib.join xs sep), s) else none
  | [.mslice id off n _, .str sep] => match s.get id with
    | some (.cells _ cs) => (sub cs off n).bind fun ds => (strsOf ds).bind fun xs => if n = xs.length ∧ n ≤ 140737488355328 ∧ (Lib.join xs sep).length ≤ 140737488355328 then some (.str (Lib.join xs sep), s) else none
    | _ => none
  | _ => none
theorem xJoin_ok {fn : Func} (hf : P.funcs[f]? = some fn) (hn : fn.name ≠ "runtime.NumGoroutine") (hb : fn.body.isSome = true)
    (h0 : ∀ (a : Option Addr) (c : Nat) (sep : ByteArray) (w : World), Calls P f #[.slice a 0 c, .string sep] w fun e w' => e = .returned (.string ⟨#[]⟩) ∧ w' = w)
    (h : ∀ (bk o c : Nat) (xs : List ByteArray) (sep : ByteArray) (w : World), (∀ (j : Nat) x, xs[j]? = some x → w.cell? ⟨bk, o + j, none⟩ = some (.string x)) → bk < w.heap.size → xs.length ≤ 140737488355328 → xs.length ≤ c → (Lib.join (xs.map (·.data.toList)) sep.data.toList).length ≤ 140737488355328 →
      Calls P f #[.slice (some ⟨bk, o, none⟩) xs.length c, .string sep] w fun e w' => e = .returned (.string ⟨(Lib.join (xs.map (·.data.toList)) sep.data.toList).toArray⟩) ∧ Below w.heap.size w w') : ExtOkG P gl f xJoin := by
  refine ExtOkG.below hf hn hb fun args s v s' he => ?_
  unfold xJoin at he
  split at he
  · rename_i sep
    cases he
    refine ⟨rfl, rfl, fun X _ σ w vs hI hR => ?_⟩
    obtain ⟨u1, u2, rfl, h1, h2⟩ := two_R hR
    simp only [R] at h1 h2
    subst h1; subst h2
    refine (h0 none 0 ⟨sep.toArray⟩ w).mono ?_
    rintro e w' ⟨rfl, rfl⟩
    exact ⟨_, rfl, Below.refl _ _, by simp [R]⟩
  · rename_i cs n own sep
    simp only [Option.bind_eq_some_iff] at he
    obtain ⟨xs, hxs, he⟩ := he
    split at he <;> cases he
    rename_i hq
    obtain ⟨rfl, hq1, hq2⟩ := hq
    refine ⟨rfl, rfl, fun X _ σ w vs hI hR => ?_⟩
    obtain ⟨u1, u2, rfl, h1, h2⟩ := two_R hR
    simp only [R] at h1 h2
    subst h2
    have nil : xs = [] → ∀ (a : Option Addr) c, Calls P f #[.slice a xs.length c, .string ⟨sep.toArray⟩] w fun e w' => ∃ u, e = .returned u ∧ Below w.heap.size w w' ∧ R σ (.str (Lib.join xs sep)) u := by
      rintro rfl a c
      refine (h0 a c ⟨sep.toArray⟩ w).mono ?_
      rintro e w' ⟨rfl, rfl⟩
      exact ⟨_, rfl, Below.refl _ _, by simp [R, Lib.join, List.intercalate]⟩
    rcases h1 with ⟨b, o, cap, rfl, k1, _, k2⟩ | ⟨k1, k2, _, a, rfl⟩
    · by_cases hx : xs = []
      · exact nil hx _ _
      · obtain ⟨us, k3, k4⟩ := cells_RC hI.gh _ _ _ k2
        have k5 := strsOf_R hxs k3
        subst k5
        have hcell : ∀ (j : Nat) (x : ByteArray), (xs.map fun s => (⟨s.toArray⟩ : ByteArray))[j]? = some x → w.cell? ⟨b, o + j, none⟩ = some (.string x) := by
          intro j x hj
          refine k4 j _ ?_
          simp only [List.getElem?_map, Option.map_eq_some_iff] at hj ⊢
          obtain ⟨y, h5, rfl⟩ := hj
          exact ⟨y, h5, rfl⟩
        have hbk : b < w.heap.size := by
          obtain ⟨x, l, rfl⟩ := List.exists_cons_of_ne_nil hx
          have := hcell 0 ⟨x.toArray⟩ (by simp)
          by_cases hlt : b < w.heap.size
          · exact hlt
          · unfold World.cell? at this
            have h9 : w.heap[b]? = none := Array.getElem?_eq_none (Nat.le_of_not_lt hlt)
            simp only [h9] at this
            cases this
        have e1 : (xs.map fun s => (⟨s.toArray⟩ : ByteArray)).map (·.data.toList) = xs := by
          rw [List.map_map]; exact (List.map_congr_left fun s _ => by simp).trans (List.map_id _)
        have := h b o cap (xs.map fun s => (⟨s.toArray⟩ : ByteArray)) ⟨sep.toArray⟩ w hcell hbk (by simpa using hq1) (by simpa using k1) (by rw [e1]; simpa using hq2)
        rw [e1, List.length_map] at this
        refine this.mono ?_
        rintro e w' ⟨rfl, h3⟩
        exact ⟨_, rfl, h3, by simp [R]⟩
    · have hx : xs = [] := List.eq_nil_of_length_eq_zero (by omega)
      have := nil hx (some a) 0
      rw [hx] at this ⊢
      exact this
  · rename_i id off n cp sep
    split at he
    · rename_i ty cs hg
      simp only [Option.bind_eq_some_iff] at he
      obtain ⟨ds, hds, xs, hxs, he⟩ := he
      split at he <;> cases he
      rename_i hq
      obtain ⟨rfl, hq1, hq2⟩ := hq
      refine ⟨rfl, rfl, fun X _ σ w vs hI hR => ?_⟩
      obtain ⟨u1, u2, rfl, h1, h2⟩ := two_R hR
      simp only [R] at h1 h2
      subst h2
      obtain ⟨c', rfl, k1, _⟩ := h1
      obtain ⟨us, k3, _, k4⟩ := cells_obj hI hg hds
      have k5 := strsOf_R hxs k3
      subst k5
      by_cases hx : xs = []
      · subst hx
        refine (h0 _ _ ⟨sep.toArray⟩ w).mono ?_
        rintro e w' ⟨rfl, rfl⟩
        exact ⟨_, rfl, Below.refl _ _, by simp [R, Lib.join, List.intercalate]⟩
      · have hcell : ∀ (j : Nat) (x : ByteArray), (xs.map fun s => (⟨s.toArray⟩ : ByteArray))[j]? = some x → w.cell? ⟨σ.φ id, off + j, none⟩ = some (.string x) := by
          intro j x hj
          have hj2 : (xs.map fun s => Value.string ⟨s.toArray⟩)[j]? = some (.string x) := by
            simp only [List.getElem?_map, Option.map_eq_some_iff] at hj ⊢
            obtain ⟨y, h5, rfl⟩ := hj
            exact ⟨y, h5, rfl⟩
          exact k4 j _ hj2
        have hbk : σ.φ id < w.heap.size := by
          obtain ⟨x, l, rfl⟩ := List.exists_cons_of_ne_nil hx
          have := hcell 0 ⟨x.toArray⟩ (by simp)
          by_cases hlt : σ.φ id < w.heap.size
          · exact hlt
          · unfold World.cell? at this
            have h9 : w.heap[σ.φ id]? = none := Array.getElem?_eq_none (Nat.le_of_not_lt hlt)
            simp only [h9] at this
            cases this
        have e1 : (xs.map fun s => (⟨s.toArray⟩ : ByteArray)).map (·.data.toList) = xs := by
          rw [List.map_map]; exact (List.map_congr_left fun s _ => by simp).trans (List.map_id _)
        have := h (σ.φ id) off c' (xs.map fun s => (⟨s.toArray⟩ : ByteArray)) ⟨sep.toArray⟩ w hcell hbk (by simpa using hq1) (by simpa using k1) (by rw [e1]; simpa using hq2)
        rw [e1, List.length_map] at this
        refine this.mono ?_
        rintro e w' ⟨rfl, h3⟩
        exact ⟨_, rfl, h3, by simp [R]⟩
    · cases he
  · cases he
/- strconv.toError at the library's own errors: an error -/
def xToErr (args : List AV) (s : St) : Option (AV × St) :=
  match args with
  | [.str _, .str b, .int .i64 _, .int .i64 _, .iface t (.int .i64 e)] => if t = 116 ∧ b.length ≤ 281474976710656 ∧ (e = 1 ∨ e = 2) then some (.anyiface, s) else none
  | _ => none
theorem five_R {σ : Gh} {a b c d e : AV} {vs : List Value} (h : Rs σ [a, b, c, d, e] vs) : ∃ u1 u2 u3 u4 u5, vs = [u1, u2, u3, u4, u5] ∧ R σ a u1 ∧ R σ b u2 ∧ R σ c u3 ∧ R σ d u4 ∧ R σ e u5 := by
  simp only [Rs] at h
  obtain ⟨u1, _, rfl, h1, u2, _, rfl, h2, u3, _, rfl, h3, u4, _, rfl, h4, u5, _, rfl, h5, rfl⟩ := h
  exact ⟨u1, u2, u3, u4, u5, rfl, h1, h2, h3, h4, h5⟩
theorem xToErr_ok {fn : Func} (hf : P.funcs[f]? = some fn) (hn : fn.name ≠ "runtime.NumGoroutine") (hb : fn.body.isSome = true) {ns nr : Nat} (hgs : gl ns = some [.anyiface]) (hgr : gl nr = some [.anyiface])
    (h2 : ∀ (fn s : ByteArray) (base bits : Int) (ev : Value) (w : World), s.size ≤ 281474976710656 → w.cell? ⟨ns, 0, none⟩ = some ev → (ev = .nilIface ∨ ∃ te pe, ev = .iface te pe) →
      Calls P f #[.string fn, .string s, .int .i64 base, .int .i64 bits, .iface 116 (.int .i64 2)] w fun e w' => (∃ t p, e = .returned (.iface t p)) ∧ Below w.heap.size w w')
    (h1 : ∀ (fn s : ByteArray) (base bits : Int) (ev : Value) (w : World), s.size ≤ 281474976710656 → w.cell? ⟨nr, 0, none⟩ = some ev → (ev = .nilIface ∨ ∃ te pe, ev = .iface te pe) →
      Calls P f #[.string fn, .string s, .int .i64 base, .int .i64 bits, .iface 116 (.int .i64 1)] w fun e w' => (∃ t p, e = .returned (.iface t p)) ∧ Below w.heap.size w w') : ExtOkG P gl f xToErr := by
  refine ExtOkG.below hf hn hb fun args s v s' he => ?_
  unfold xToErr at he
  split at he
  · rename_i fs b base bits t e
    split at he <;> cases he
    rename_i hq
    obtain ⟨rfl, hq1, hq2⟩ := hq
    refine ⟨rfl, rfl, fun X hX σ w vs hI hR => ?_⟩
    obtain ⟨u1, u2, u3, u4, u5, rfl, r1, r2, r3, r4, r5⟩ := five_R hR
    simp only [R] at r1 r2 r3 r4 r5
    obtain ⟨u6, rfl, r6⟩ := r5
    subst r1; subst r2; subst r3; subst r4; subst r6
    rcases hq2 with rfl | rfl
    · obtain ⟨ev, c1, c2⟩ := gl_iface hI (by rw [hX]; exact hgr)
      refine (h1 ⟨fs.toArray⟩ ⟨b.toArray⟩ base bits ev w (by simpa [ByteArray.size] using hq1) c1 (.inr c2)).mono ?_
      rintro e w' ⟨⟨t, p, rfl⟩, h3⟩
      exact ⟨_, rfl, h3, by simp only [R]; exact ⟨t, p, rfl⟩⟩
    · obtain ⟨ev, c1, c2⟩ := gl_iface hI (by rw [hX]; exact hgs)
      refine (h2 ⟨fs.toArray⟩ ⟨b.toArray⟩ base bits ev w (by simpa [ByteArray.size] using hq1) c1 (.inr c2)).mono ?_
      rintro e w' ⟨⟨t, p, rfl⟩, h3⟩
      exact ⟨_, rfl, h3, by simp only [R]; exact ⟨t, p, rfl⟩⟩
  · cases he
end
end Fw


/- How often a byte stands in a string. -/
namespace Fw
open Go
section
variable {P : Program}
end
end Fw


/- The evaluator without fuel and without lists of temporaries: what a piece of code comes to, as a proposition that a rewriter computes. -/
namespace Fw
open Go

abbrev FE := Nat → AV
def upd (d : Option Nat) (v : AV) (e : FE) : FE := match d with
  | some d => fun t => if t = d then v else e t
  | none => e

theorem upd_get (d t : Nat) (v : AV) (e : FE) : upd (some d) v e t = if t = d then v else e t := rfl
theorem upd_none (v : AV) (e : FE) : upd none v e = e := rfl

def Fits (n : Nat) (ρ : Env) (e : FE) : Prop := n ≤ ρ.length ∧ ∀ t, ρ.get t = e t

def dOk (n : Nat) : Option Nat → Bool
  | some d => decide (d < n)
  | none => true

theorem Fits.put {n : Nat} {ρ : Env} {e : FE} (h : Fits n ρ e) {d : Option Nat} (hd : dOk n d = true) (v : AV) : Fits n (ρ.put d v) (upd d v e) := by
  cases d with
  | none => exact h
  | some d =>
    simp only [dOk, decide_eq_true_eq] at hd
    refine ⟨by simp [Env.put]; exact h.1, fun t => ?_⟩
    have h1 := h.1
    have h2 := h.2 t
    simp only [Env.get, List.getD, Env.put, upd, List.getElem?_set] at h2 ⊢
    by_cases ht : t = d
    · subst ht; simp [show t < ρ.length by omega]
    · rw [if_neg (fun e => ht e.symm), if_neg ht]; exact h2

def IX.evF (cx : Cx) (e : FE) : IX → Option AV
  | .tmp t => some (e t)
  | .const a => some a
  | .glob g => (cx.gl g).map (AV.vptr · 0)

def evsF (cx : Cx) (e : FE) : List IX → Option (List AV)
  | [] => some []
  | x :: xs => (x.evF cx e).bind fun a => (evsF cx e xs).map (a :: ·)

def evoF (cx : Cx) (e : FE) : Option IX → Option (Option AV)
  | none => some none
  | some x => (x.evF cx e).map some

theorem ev_fits {cx : Cx} {n : Nat} {ρ : Env} {e : FE} (h : Fits n ρ e) (x : IX) : x.ev cx ρ = x.evF cx e := by
  cases x <;> simp [IX.ev, IX.evF, h.2]
theorem evs_fits {cx : Cx} {n : Nat} {ρ : Env} {e : FE} (h : Fits n ρ e) : ∀ xs, evs cx ρ xs = evsF cx e xs
  | [] => rfl
  | x :: xs => by simp only [evs, evsF, ev_fits h, evs_fits h xs]
theorem evo_fits {cx : Cx} {n : Nat} {ρ : Env} {e : FE} (h : Fits n ρ e) (x : Option IX) : evo cx ρ x = evoF cx e x := by
  cases x <;> simp [evo, evoF, ev_fits h]

def fillF (cx : Cx) (e : FE) (cells : List AV) : List (Nat × Nat × IX) → Option (List AV)
  | [] => some cells
  | (off, n, x) :: ps => (x.evF cx e).bind fun v =>
    if v.cells.length = n then (patch cells off v.cells).bind fun cs => fillF cx e cs ps else none
theorem fill_fits {cx : Cx} {n : Nat} {ρ : Env} {e : FE} (h : Fits n ρ e) : ∀ ps cells, fillA cx ρ cells ps = fillF cx e cells ps
  | [], _ => rfl
  | (off, m, x) :: ps, cells => by
    simp only [fillA, fillF, ev_fits h]
    congr; funext v; split
    · congr; funext cs; exact fill_fits h ps cs
    · rfl

/-- What is handed on if there is something. -/
def oget {α : Type} (o : Option α) (K : α → Prop) : Prop := match o with
  | some a => K a
  | none => False
theorem oget_some {α : Type} (a : α) (K : α → Prop) : oget (some a) K = K a := rfl
theorem oget_none {α : Type} (K : α → Prop) : oget none K = False := rfl
theorem oget_congr {α : Type} {o o' : Option α} {K : α → Prop} (h : Unit → o = o') : oget o K = oget o' K := by rw [h ()]
theorem oget_iff {α : Type} {o : Option α} {K : α → Prop} : oget o K ↔ ∃ a, o = some a ∧ K a := by
  cases o <;> simp [oget]

/-- The call of a function: it comes to an end, and so. -/
def CallW (cx : Cx) (f : Nat) (args : List AV) (s : St) (K : AV → St → Prop) : Prop := ∃ k v s', callF cx k f args s = some (v, s') ∧ K v s'

def pif (b : Bool) (p q : Prop) : Prop := if b = true then p else q
def bcase (v : AV) (a b : Prop) : Prop := match v with
  | .bool t => pif t a b
  | _ => False
theorem bcase_bool (t : Bool) (a b : Prop) : bcase (.bool t) a b = pif t a b := rfl
theorem bcase_congr {v v' : AV} {a b : Prop} (h : Unit → v = v') : bcase v a b = bcase v' a b := by rw [h ()]

def selB (v : AV) (a b : AV) : Option AV := match v with
  | .bool t => some (if t then a else b)
  | _ => none

def isPtr (x : AV) : Option AV := match x with
  | .ptr id off => some (.ptr id off)
  | .vptr cs off => some (.vptr cs off)
  | .func f a b => some (.func f a b)
  | _ => none
def wrapA (k : IntKind) : AV → Option AV
  | .int _ n => some (.int k (k.wrap n))
  | _ => none
def strA : AV → Option (List UInt8)
  | .str t => some t
  | _ => none
def b2sA (s : St) : AV → Option AV
  | .nilslice => some (.str [])
  | .str _ => none
  | v => ((cellsOf s 1 v).bind bytesOf).map .str
def i2sA : AV → Option AV
  | .int _ n => some (.str (Utf8.encode n).data.toList)
  | _ => none
def faddrA (off : Nat) : AV → Option AV
  | .ptr id o => some (.ptr id (o + off))
  | .vptr cs o => some (.vptr cs (o + off))
  | _ => none
def fldA (off n : Nat) (agg : Bool) : AV → Option AV
  | .agg cs => (sub cs off n).bind (ofCells agg)
  | _ => none
def extrA (i : Nat) : AV → Option AV
  | .tuple vs => vs[i]?
  | _ => none
def lensA : AV → Option AV
  | .str b => some (.int .i64 b.length)
  | _ => none
def lenvA : AV → Option AV
  | .nilslice => some (.int .i64 0)
  | .slice _ n _ => some (.int .i64 n)
  | .mslice _ _ n _ => some (.int .i64 n)
  | _ => none
def mupdA (kk : CK) (s : St) (k v : AV) : AV → Option St
  | .map id => match s.get id with
    | some (.map es) => (mapPut kk k v.strip es).map fun es => s.set id (.map es)
    | _ => none
  | _ => none
def slcsA (x : AV) (lo hi : Option AV) : Option AV := match x with
  | .str b => (bounds b.length lo hi).map fun p => .str ((b.drop p.1).take (p.2 - p.1))
  | _ => none
def mkslA (s : St) (bytes : Nat) (z : List AV) : AV → AV → Option (AV × St)
  | .int .i64 l, .int .i64 c => if 0 ≤ l ∧ l ≤ c ∧ c.toNat * bytes ≤ room then
        some (.mslice s.next 0 l.toNat (some c.toNat), s.new (.cells none ((List.replicate c.toNat z).flatten)))
      else none
  | _, _ => none
def fold1 (f : AV → AV → Option AV) : List AV → Option AV
  | v :: vs => fold2 f v vs
  | [] => none

def FunK (cx : Cx) (f : AV) (vs : List AV) (s : St) (K : AV → St → Prop) : Prop := match f with
  | .func g a b => CallW cx g (a ++ vs ++ b) s K
  | _ => False

def WOp (cx : Cx) (e : FE) (s : St) (o : IOp) (K : AV → St → Prop) : Prop := match o with
  | .mov x => oget (x.evF cx e) fun a => K a s
  | .pick c a b => oget (c.evF cx e) fun c => oget (a.evF cx e) fun a => oget (b.evF cx e) fun b => oget (selB c a b) fun v => K v s
  | .alloc t z => K (.ptr s.next 0) (s.new (.cells (some t) z))
  | .box t x => oget (x.evF cx e) fun v => K (.ptr s.next 0) (s.new (.cells (some t) v.cells))
  | .build z ps => oget (fillF cx e z ps) fun cs => K (.agg cs) s
  | .bslice z len ps => oget (fillF cx e z ps) fun cs => K (.slice (cs.map AV.strip) len .full) s
  | .load agg n a => oget (a.evF cx e) fun a => oget (loadA s agg n a) fun v => K v s
  | .store n a x => oget (a.evF cx e) fun a => oget (x.evF cx e) fun x => oget (storeA s n a x) fun s => K AV.undef s
  | .nilChk x => oget (x.evF cx e) fun a => oget (isPtr a) fun v => K v s
  | .bin op x y => oget (x.evF cx e) fun a => oget (y.evF cx e) fun b => oget (evBin op a b) fun v => K v s
  | .eqv neg q x y => oget (x.evF cx e) fun a => oget (y.evF cx e) fun b => oget (evEq q a b) fun r => K (.bool (if neg then !r else r)) s
  | .un op x => oget (x.evF cx e) fun a => oget (evUn op a) fun v => K v s
  | .i2i k x => oget (x.evF cx e) fun a => oget (wrapA k a) fun v => K v s
  | .same x => oget (x.evF cx e) fun a => oget (strA a) fun t => K (.str t) s
  | .b2s x => oget (x.evF cx e) fun a => oget (b2sA s a) fun v => K v s
  | .s2b x => oget (x.evF cx e) fun a => oget (strA a) fun t => K (.mslice s.next 0 t.length none) (s.new (.cells none (byteCells t)))
  | .i2s x => oget (x.evF cx e) fun a => oget (i2sA a) fun v => K v s
  | .slcs x lo hi => oget (x.evF cx e) fun x => oget (evoF cx e lo) fun lo => oget (evoF cx e hi) fun hi => oget (slcsA x lo hi) fun v => K v s
  | .slc esz x lo hi mx => oget (x.evF cx e) fun x => oget (evoF cx e lo) fun lo => oget (evoF cx e hi) fun hi => oget (evoF cx e mx) fun mx => oget (sliceA esz x lo hi mx) fun v => K v s
  | .slca esz n x lo hi mx => oget (x.evF cx e) fun x => oget (evoF cx e lo) fun lo => oget (evoF cx e hi) fun hi => oget (evoF cx e mx) fun mx => oget (sliceArr esz n x lo hi mx) fun v => K v s
  | .faddr off x => oget (x.evF cx e) fun a => oget (faddrA off a) fun v => K v s
  | .fld off n agg x => oget (x.evF cx e) fun a => oget (fldA off n agg a) fun v => K v s
  | .iaddr esz arr x i => oget (x.evF cx e) fun x => oget (i.evF cx e) fun i => oget (asI i) fun i => oget (iaddrA esz arr x i) fun v => K v s
  | .idx esz agg arr x i => oget (x.evF cx e) fun x => oget (i.evF cx e) fun i => oget (asI i) fun i => oget (idxA esz agg arr x i) fun v => K v s
  | .look kk z ok m k => oget (m.evF cx e) fun m => oget (k.evF cx e) fun k => oget (entriesOf s m) fun es => oget (mapFind kk k es) fun (r : Option AV) => K (if ok then .tuple [r.getD z, .bool r.isSome] else r.getD z) s
  | .mupd kk m k v => oget (m.evF cx e) fun m => oget (k.evF cx e) fun k => oget (v.evF cx e) fun v => oget (mupdA kk s k v m) fun s => K AV.undef s
  | .mkmap => K (.map s.next) (s.new (.map []))
  | .mkif t x => oget (x.evF cx e) fun v => K (.iface t v.strip) s
  | .mkfn f a b => oget (evsF cx e a) fun a => oget (evsF cx e b) fun b => K (.func f a b) s
  | .mkslice bytes z len cap => oget (len.evF cx e) fun l => oget (cap.evF cx e) fun c => oget (mkslA s bytes z l c) fun p => K p.1 p.2
  | .extr x i => oget (x.evF cx e) fun a => oget (extrA i a) fun v => K v s
  | .lens x => oget (x.evF cx e) fun a => oget (lensA a) fun v => K v s
  | .lenv x => oget (x.evF cx e) fun a => oget (lenvA a) fun v => K v s
  | .lenm x => oget (x.evF cx e) fun a => oget (entriesOf s a) fun es => K (.int .i64 es.length) s
  | .mn xs => oget (evsF cx e xs) fun vs => oget (fold1 min2 vs) fun v => K v s
  | .mx xs => oget (evsF cx e xs) fun vs => oget (fold1 max2 vs) fun v => K v s
  | .app ty esz bytes a b => oget (a.evF cx e) fun a => oget (b.evF cx e) fun b => oget (appendA s ty esz bytes a b) fun p => K p.1 p.2
  | .clr z a => oget (a.evF cx e) fun a => oget (clearA s z a) fun p => K p.1 p.2
  | .copy esz a b => oget (a.evF cx e) fun a => oget (b.evF cx e) fun b => oget (copyA s esz a b) fun p => K p.1 p.2
  | .call f xs => oget (f.evF cx e) fun f => oget (evsF cx e xs) fun vs => FunK cx f vs s K
  | .bad => False

theorem exec_mono {cx : Cx} {k k' : Nat} (h : k ≤ k') : XLe (exec cx k) (exec cx k') := by
  induction h with
  | refl => exact fun _ _ _ _ h => h
  | step _ ih => exact fun c ρ s r h => exec_le _ c ρ s r (ih c ρ s r h)
theorem callF_mono {cx : Cx} {k k' : Nat} (h : k ≤ k') : CLe (callF cx k) (callF cx k') := callWith_le (exec_mono h)

theorem WOp_sound {cx : Cx} {n : Nat} {ρ : Env} {e : FE} {s : St} {o : IOp} {K : AV → St → Prop} (hF : Fits n ρ e) (h : WOp cx e s o K) : ∃ k v s', evOp cx (callF cx k) ρ s o = some (v, s') ∧ K v s' := by
  cases o
  case call f xs =>
    simp only [WOp, oget_iff] at h
    obtain ⟨a, h1, vs, h2, h3⟩ := h
    unfold FunK at h3
    split at h3
    · obtain ⟨k, v, s', h4, h5⟩ := h3
      refine ⟨k, v, s', ?_, h5⟩
      simp only [evOp, ev_fits hF, h1, evs_fits hF, h2, Option.bind_some]; exact h4
    · exact h3.elim
  case bad => exact h.elim
  case pick c a b =>
    simp only [WOp, oget_iff] at h
    obtain ⟨c', h1, a', h2, b', h3, v, h4, h5⟩ := h
    refine ⟨0, v, s, ?_, h5⟩
    unfold selB at h4
    split at h4 <;> cases h4
    rename_i t
    simp only [evOp, ev_fits hF, h1]
    cases t <;> simp [h2, h3]
  all_goals
    refine ⟨0, ?_⟩
    simp only [WOp, oget_iff] at h
    simp only [evOp, ev_fits hF, evs_fits hF, evo_fits hF, fill_fits hF]
  case mov => obtain ⟨a, h1, h2⟩ := h; exact ⟨_, _, by simp [h1], h2⟩
  case alloc => exact ⟨_, _, rfl, h⟩
  case box => obtain ⟨a, h1, h2⟩ := h; exact ⟨_, _, by simp [h1], h2⟩
  case build => obtain ⟨a, h1, h2⟩ := h; exact ⟨_, _, by simp [h1], h2⟩
  case bslice => obtain ⟨a, h1, h2⟩ := h; exact ⟨_, _, by simp [h1], h2⟩
  case load => obtain ⟨a, h1, v, h2, h3⟩ := h; exact ⟨_, _, by simp [h1, h2], h3⟩
  case store => obtain ⟨a, h1, b, h2, t, h3, h4⟩ := h; exact ⟨_, _, by simp [h1, h2, h3], h4⟩
  case nilChk =>
    obtain ⟨a, h1, v, h2, h3⟩ := h
    unfold isPtr at h2
    split at h2 <;> cases h2 <;> exact ⟨_, _, by simp [h1], h3⟩
  case bin => obtain ⟨a, h1, b, h2, t, h3, h4⟩ := h; exact ⟨_, _, by simp [h1, h2, h3], h4⟩
  case eqv neg q x y => obtain ⟨a, h1, b, h2, t, h3, h4⟩ := h; exact ⟨_, _, by simp only [h1, h2, h3, Option.bind_some, Option.map_some], h4⟩
  case un => obtain ⟨a, h1, v, h2, h3⟩ := h; exact ⟨_, _, by simp [h1, h2], h3⟩
  case i2i =>
    obtain ⟨a, h1, v, h2, h3⟩ := h
    unfold wrapA at h2
    split at h2 <;> cases h2; exact ⟨_, _, by simp [h1], h3⟩
  case same =>
    obtain ⟨a, h1, v, h2, h3⟩ := h
    unfold strA at h2
    split at h2 <;> cases h2; exact ⟨_, _, by simp [h1], h3⟩
  case b2s =>
    obtain ⟨a, h1, v, h2, h3⟩ := h
    unfold b2sA at h2
    split at h2
    · cases h2; exact ⟨_, _, by simp [h1], h3⟩
    · cases h2
    · rename_i x1 x2
      simp only [Option.map_eq_some_iff] at h2; obtain ⟨b, h4, rfl⟩ := h2
      refine ⟨_, _, ?_, h3⟩
      rw [h1]
      split
      · rename_i heq; cases heq; exact absurd rfl x1
      · rename_i heq; cases heq; exact absurd rfl (x2 _)
      · rename_i heq; cases heq; rw [h4]; rfl
      · rename_i heq; cases heq
  case s2b =>
    obtain ⟨a, h1, v, h2, h3⟩ := h
    unfold strA at h2
    split at h2 <;> cases h2; exact ⟨_, _, by simp [h1], h3⟩
  case i2s =>
    obtain ⟨a, h1, v, h2, h3⟩ := h
    unfold i2sA at h2
    split at h2 <;> cases h2; exact ⟨_, _, by simp [h1], h3⟩
  case slcs =>
    obtain ⟨a, h1, lo, h2, hi, h3, v, h4, h5⟩ := h
    unfold slcsA at h4
    split at h4 <;> try cases h4
    simp only [Option.map_eq_some_iff] at h4; obtain ⟨p, h6, rfl⟩ := h4
    exact ⟨_, _, by simp [h1, h2, h3, h6], h5⟩
  case slc => obtain ⟨a, h1, lo, h2, hi, h3, m, h4, v, h5, h6⟩ := h; exact ⟨_, _, by simp [h1, h2, h3, h4, h5], h6⟩
  case slca => obtain ⟨a, h1, lo, h2, hi, h3, m, h4, v, h5, h6⟩ := h; exact ⟨_, _, by simp [h1, h2, h3, h4, h5], h6⟩
  case faddr =>
    obtain ⟨a, h1, v, h2, h3⟩ := h
    unfold faddrA at h2
    split at h2 <;> cases h2 <;> exact ⟨_, _, by simp [h1], h3⟩
  case fld =>
    obtain ⟨a, h1, v, h2, h3⟩ := h
    unfold fldA at h2
    split at h2
    · exact ⟨_, _, by simp only [h1, h2, Option.map_some], h3⟩
    · cases h2
  case iaddr =>
    obtain ⟨a, h1, i, h2, j, h3, v, h4, h5⟩ := h
    unfold asI at h3
    split at h3 <;> cases h3; exact ⟨_, _, by simp [h1, h2, h4], h5⟩
  case idx =>
    obtain ⟨a, h1, i, h2, j, h3, v, h4, h5⟩ := h
    unfold asI at h3
    split at h3 <;> cases h3; exact ⟨_, _, by simp [h1, h2, h4], h5⟩
  case look => obtain ⟨a, h1, b, h2, es, h3, r, h4, h5⟩ := h; exact ⟨_, _, by simp only [h1, h2, h3, h4, Option.bind_some, Option.map_some], h5⟩
  case mupd =>
    obtain ⟨a, h1, b, h2, c, h3, t, h4, h5⟩ := h
    unfold mupdA at h4
    split at h4 <;> try cases h4
    split at h4 <;> try cases h4
    rename_i id es hes
    simp only [Option.map_eq_some_iff] at h4; obtain ⟨es', h6, rfl⟩ := h4
    exact ⟨_, _, by simp [h1, h2, h3, hes, h6], h5⟩
  case mkmap => exact ⟨_, _, rfl, h⟩
  case mkif => obtain ⟨a, h1, h2⟩ := h; exact ⟨_, _, by simp [h1], h2⟩
  case mkfn => obtain ⟨a, h1, b, h2, h3⟩ := h; exact ⟨_, _, by simp [h1, h2], h3⟩
  case mkslice =>
    obtain ⟨a, h1, b, h2, p, h3, h4⟩ := h
    unfold mkslA at h3
    split at h3 <;> try cases h3
    split at h3 <;> cases h3
    rename_i hq
    exact ⟨_, _, by simp only [h1, h2, Option.bind_some]; rw [if_pos hq], h4⟩
  case extr =>
    obtain ⟨a, h1, v, h2, h3⟩ := h
    unfold extrA at h2
    split at h2
    · exact ⟨_, _, by simp [h1, h2], h3⟩
    · cases h2
  case lens =>
    obtain ⟨a, h1, v, h2, h3⟩ := h
    unfold lensA at h2
    split at h2 <;> cases h2; exact ⟨_, _, by simp [h1], h3⟩
  case lenv =>
    obtain ⟨a, h1, v, h2, h3⟩ := h
    unfold lenvA at h2
    split at h2 <;> cases h2 <;> exact ⟨_, _, by simp [h1], h3⟩
  case lenm => obtain ⟨a, h1, es, h2, h3⟩ := h; exact ⟨_, _, by simp [h1, h2], h3⟩
  case mn =>
    obtain ⟨a, h1, v, h2, h3⟩ := h
    unfold fold1 at h2
    split at h2
    · exact ⟨_, _, by simp [h1, h2], h3⟩
    · cases h2
  case mx =>
    obtain ⟨a, h1, v, h2, h3⟩ := h
    unfold fold1 at h2
    split at h2
    · exact ⟨_, _, by simp [h1, h2], h3⟩
    · cases h2
  case app => obtain ⟨a, h1, b, h2, p, h3, h4⟩ := h; exact ⟨p.1, p.2, by simp [h1, h2, h3], h4⟩
  case clr => obtain ⟨a, h1, p, h3, h4⟩ := h; exact ⟨p.1, p.2, by simp [h1, h3], h4⟩
  case copy => obtain ⟨a, h1, b, h2, p, h3, h4⟩ := h; exact ⟨p.1, p.2, by simp [h1, h2, h3], h4⟩
end Fw


/- The evaluator without fuel, continued: regions, code, loops, calls. -/
namespace Fw
open Go

theorem pif_true (p q : Prop) : pif true p q = p := by simp [pif]
theorem pif_false (p q : Prop) : pif false p q = q := by simp [pif]
theorem pif_congr {b b' : Bool} {p q p' q' : Prop} (h : Unit → b = b') (h1 : b' = true → p = p') (h2 : b' = false → q = q') : pif b p q = pif b' p' q' := by
  have h := h (); subst h; cases b
  · exact h2 rfl
  · exact h1 rfl

/-- What a guard lets by. -/
def gcase (v : AV) (want : Bool) (p q : Prop) : Prop := match v with
  | .bool b => if want then pif b p q else pif b q p
  | _ => q
theorem gcase_true (b : Bool) (p q : Prop) : gcase (.bool b) true p q = pif b p q := rfl
theorem gcase_false (b : Bool) (p q : Prop) : gcase (.bool b) false p q = pif b q p := rfl
theorem gcase_undef (w : Bool) (p q : Prop) : gcase AV.undef w p q = q := rfl
theorem gcase_congr {v v' : AV} {w : Bool} {p q : Prop} (h : Unit → v = v') : gcase v w p q = gcase v' w p q := by rw [h ()]

def WG (e : FE) (g : Option (Nat × Bool)) (p q : Prop) : Prop := match g with
  | none => p
  | some (t, want) => gcase (e t) want p q

def WO (cx : Cx) : List IOper → FE → St → (FE → St → Prop) → Prop
  | [], e, s, Q => Q e s
  | o :: os, e, s, Q => WG e o.guard (WOp cx e s o.op fun v s => WO cx os (upd o.dst v e) s Q) (WO cx os (upd o.dst AV.undef e) s Q)

theorem WG_iff {n : Nat} {ρ : Env} {e : FE} (h : Fits n ρ e) (g : Option (Nat × Bool)) {p q : Prop} (hg : WG e g p q) : (wants ρ g = true ∧ p) ∨ (wants ρ g = false ∧ q) := by
  cases g with
  | none => exact .inl ⟨rfl, hg⟩
  | some x =>
    obtain ⟨t, want⟩ := x
    simp only [WG, gcase] at hg
    simp only [wants, h.2 t]
    split at hg
    · rename_i b hb
      rw [hb]
      cases b <;> cases want <;> simp_all [pif]
    · rename_i hb
      refine .inr ⟨?_, hg⟩
      split
      · rename_i b hb'; exact absurd hb' (hb b)
      · rfl

def dstsOk (n : Nat) (os : List IOper) : Bool := os.all fun o => dOk n o.dst

theorem pif_iff {b : Bool} {p q : Prop} : pif b p q ↔ (b = true ∧ p) ∨ (b = false ∧ q) := by cases b <;> simp [pif]

theorem WO_sound {cx : Cx} {n : Nat} {Q : FE → St → Prop} : ∀ (os : List IOper) {ρ : Env} {e : FE} {s : St}, dstsOk n os = true → Fits n ρ e → WO cx os e s Q →
    ∃ k ρ' s', evOps cx (callF cx k) os ρ s = some (ρ', s') ∧ ∃ e', Fits n ρ' e' ∧ Q e' s'
  | [], ρ, e, s, _, hF, h => ⟨0, ρ, s, rfl, e, hF, h⟩
  | o :: os, ρ, e, s, hd, hF, h => by
    simp only [dstsOk, List.all_cons, Bool.and_eq_true] at hd
    simp only [WO] at h
    rcases WG_iff hF _ h with ⟨hq, h⟩ | ⟨hq, h⟩
    · obtain ⟨k1, v, s1, h1, h2⟩ := WOp_sound hF h
      obtain ⟨k2, ρ', s', h3, e', h4, h5⟩ := WO_sound os hd.2 (hF.put hd.1 v) h2
      refine ⟨max k1 k2, ρ', s', ?_, e', h4, h5⟩
      simp only [evOps, evOper, hq, if_true]
      rw [evOp_le (callF_mono (Nat.le_max_left k1 k2)) h1]
      exact evOps_le (callF_mono (Nat.le_max_right k1 k2)) h3
    · obtain ⟨k2, ρ', s', h3, e', h4, h5⟩ := WO_sound os hd.2 (hF.put hd.1 AV.undef) h
      refine ⟨k2, ρ', s', ?_, e', h4, h5⟩
      simp only [evOps, evOper, hq]
      exact h3

def deedOf : AV → Option Deed
  | .ptr id _ => some (.rd id)
  | _ => none
def deedW : AV → Deed
  | .ptr id _ => .wr id
  | _ => .wrAll fun _ => True

def WDeed (cx : Cx) (e : FE) (s : St) (o : IOp) (K : AV → St → Option Deed → Prop) : Prop := match o with
  | .load agg n a => oget (a.evF cx e) fun a => oget (loadA s agg n a) fun v => K v s (deedOf a)
  | .store n a x => oget (a.evF cx e) fun a => oget (x.evF cx e) fun x => oget (storeA s n a x) fun s => K AV.undef s (some (deedW a))
  | o => if o.plain then WOp cx e s o fun v _ => K v s none
    else if o.lays then WOp cx e s o fun v s' => K v s' (some (.lay s.next))
    else WOp cx e { s with low := s.next } o fun v s' => pif (decide (s'.next = s.next ∧ s'.low = s.next)) (K v s (some .rdAll)) (K v { s' with low := min s.low s'.low } (some (.wrAll fun j => s'.get j ≠ s.get j)))

theorem WDeed_sound {cx : Cx} {n : Nat} {ρ : Env} {e : FE} {s : St} {o : IOp} {K : AV → St → Option Deed → Prop} (hF : Fits n ρ e) (h : WDeed cx e s o K) : ∃ k v s' d, evDeed cx (callF cx k) ρ s o = some (v, s', d) ∧ K v s' d := by
  unfold WDeed at h
  split at h
  · rename_i agg m a
    simp only [oget_iff] at h
    obtain ⟨x, h1, v, h2, h3⟩ := h
    refine ⟨0, v, s, deedOf x, ?_, h3⟩
    simp only [evDeed, IOp.plain, IOp.lays, Bool.false_eq_true, if_false, evOp, ev_fits hF, h1, h2, Option.bind_some, Option.map_some]
    congr 3
    cases x <;> rfl
  · rename_i m a x
    simp only [oget_iff] at h
    obtain ⟨y, h1, z, h2, t, h3, h4⟩ := h
    refine ⟨0, AV.undef, t, some (deedW y), ?_, h4⟩
    simp only [evDeed, IOp.plain, IOp.lays, Bool.false_eq_true, if_false, evOp, ev_fits hF, h1, h2, h3, Option.bind_some, Option.map_some]
    congr 3
    cases y <;> rfl
  · rename_i o hl hs
    unfold evDeed
    split at h
    · rename_i hp
      obtain ⟨k, v, s', h1, h2⟩ := WOp_sound hF h
      exact ⟨k, v, s, none, by rw [if_pos hp, h1]; rfl, h2⟩
    · rename_i hp
      split at h
      · rename_i hy
        obtain ⟨k, v, s', h1, h2⟩ := WOp_sound hF h
        exact ⟨k, v, s', _, by rw [if_neg hp, if_pos hy, h1]; rfl, h2⟩
      · rename_i hy
        obtain ⟨k, v, s', h1, h2⟩ := WOp_sound hF h
        rw [pif_iff] at h2
        simp only [decide_eq_true_eq, decide_eq_false_iff_not] at h2
        rcases h2 with ⟨h3, h2⟩ | ⟨h3, h2⟩
        · refine ⟨k, v, s, some .rdAll, ?_, h2⟩
          rw [if_neg hp, if_neg hy]
          split
          · exact absurd rfl (hl _ _ _)
          · exact absurd rfl (hs _ _ _)
          · rw [h1]; simp [h3]
        · refine ⟨k, v, _, some (.wrAll _), ?_, h2⟩
          rw [if_neg hp, if_neg hy]
          split
          · exact absurd rfl (hl _ _ _)
          · exact absurd rfl (hs _ _ _)
          · rw [h1]; simp [h3]

def dcase (d : Option Deed) (p : Prop) (q : Deed → Prop) : Prop := match d with
  | none => p
  | some d => q d
theorem dcase_none (p : Prop) (q : Deed → Prop) : dcase none p q = p := rfl
theorem dcase_some (d : Deed) (p : Prop) (q : Deed → Prop) : dcase (some d) p q = q d := rfl
theorem dcase_congr {d d' : Option Deed} {p : Prop} {q : Deed → Prop} (h : Unit → d = d') : dcase d p q = dcase d' p q := by rw [h ()]

def WD (cx : Cx) : List (IOper × Nat) → Nat → List (Nat × Deed) → FE → St → (FE → St → Prop) → Prop
  | [], _, _, e, s, Q => Q e s
  | o :: os, i, ds, e, s, Q => WG e o.1.guard
      (WDeed cx e s o.1.op fun v s d => dcase d (WD cx os (i + 1) ds (upd o.1.dst v e) s Q) fun d => pif (freeAll o.2 d ds) (WD cx os (i + 1) ((i, d) :: ds) (upd o.1.dst v e) s Q) False)
      (WD cx os (i + 1) ds (upd o.1.dst AV.undef e) s Q)

def ddstsOk (n : Nat) (os : List (IOper × Nat)) : Bool := os.all fun o => dOk n o.1.dst

theorem WD_sound {cx : Cx} {n : Nat} {Q : FE → St → Prop} : ∀ (os : List (IOper × Nat)) {i : Nat} {ds : List (Nat × Deed)} {ρ : Env} {e : FE} {s : St}, ddstsOk n os = true → Fits n ρ e → WD cx os i ds e s Q →
    ∃ k ρ' s', evDraw cx (callF cx k) os i ds ρ s = some (ρ', s') ∧ ∃ e', Fits n ρ' e' ∧ Q e' s'
  | [], i, ds, ρ, e, s, _, hF, h => ⟨0, ρ, s, rfl, e, hF, h⟩
  | (o, m) :: os, i, ds, ρ, e, s, hd, hF, h => by
    simp only [ddstsOk, List.all_cons, Bool.and_eq_true] at hd
    simp only [WD] at h
    rcases WG_iff hF _ h with ⟨hq, h⟩ | ⟨hq, h⟩
    · obtain ⟨k1, v, s1, d, h1, h2⟩ := WDeed_sound hF h
      cases d with
      | none =>
        obtain ⟨k2, ρ', s', h3, e', h4, h5⟩ := WD_sound os hd.2 (hF.put hd.1 v) h2
        refine ⟨max k1 k2, ρ', s', ?_, e', h4, h5⟩
        simp only [evDraw, hq, if_true]
        rw [evDeed_le (callF_mono (Nat.le_max_left k1 k2)) h1]
        exact evDraw_le (callF_mono (Nat.le_max_right k1 k2)) h3
      | some d =>
        simp only [dcase, pif_iff] at h2
        rcases h2 with ⟨hf, h2⟩ | ⟨_, h2⟩
        case inr => exact h2.elim
        obtain ⟨k2, ρ', s', h3, e', h4, h5⟩ := WD_sound os hd.2 (hF.put hd.1 v) h2
        refine ⟨max k1 k2, ρ', s', ?_, e', h4, h5⟩
        simp only [evDraw, hq, if_true]
        rw [evDeed_le (callF_mono (Nat.le_max_left k1 k2)) h1]
        simp only [Option.bind_some, hf, if_true]
        exact evDraw_le (callF_mono (Nat.le_max_right k1 k2)) h3
    · obtain ⟨k2, ρ', s', h3, e', h4, h5⟩ := WD_sound os hd.2 (hF.put hd.1 AV.undef) h
      refine ⟨k2, ρ', s', ?_, e', h4, h5⟩
      simp only [evDraw, hq]
      exact h3

def dstOk (n : Nat) : ICode → Bool
  | .region os => dstsOk n os
  | .dregion os => ddstsOk n os
  | .seq a b => dstOk n a && dstOk n b
  | .cond _ a b => dstOk n a && dstOk n b
  | .block _ b => dstOk n b
  | .loop b => dstOk n b
  | .scope b => dstOk n b
  | _ => true

def Ends (cx : Cx) (c : ICode) (n : Nat) (e : FE) (s : St) (Q : Sig → FE → St → Prop) : Prop :=
  ∀ ρ, Fits n ρ e → ∃ k g ρ' s', exec cx k c ρ s = some (g, ρ', s') ∧ ∃ e', Fits n ρ' e' ∧ Q g e' s'

def WLoop (cx : Cx) (b : ICode) (e : FE) (s : St) (Q : Sig → FE → St → Prop) : Prop := ∀ n, dstOk n b = true → Ends cx (.loop b) n e s Q

def sqn (g : Sig) (p q : Prop) : Prop := match g with
  | .normal => p
  | _ => q
theorem sqn_normal (p q : Prop) : sqn .normal p q = p := rfl
theorem sqn_exit (i : Nat) (p q : Prop) : sqn (.exit i) p q = q := rfl
theorem sqn_ret (p q : Prop) : sqn .ret p q = q := rfl
theorem sqn_congr {g g' : Sig} {p q : Prop} (h : Unit → g = g') : sqn g p q = sqn g' p q := by rw [h ()]

def blk1 (id : Nat) (g : Sig) : Sig := if g = .exit id then .normal else g

def W (cx : Cx) : ICode → FE → St → (Sig → FE → St → Prop) → Prop
  | .skip, e, s, Q => Q .normal e s
  | .region os, e, s, Q => WO cx os e s fun e s => Q .normal e s
  | .dregion os, e, s, Q => WD cx os 0 [] e s fun e s => Q .normal e s
  | .seq a b, e, s, Q => W cx a e s fun g e s => sqn g (W cx b e s Q) (Q g e s)
  | .cond x a b, e, s, Q => oget (x.evF cx e) fun v => bcase v (W cx a e s Q) (W cx b e s Q)
  | .block id b, e, s, Q => W cx b e s fun g e s => Q (blk1 id g) e s
  | .loop b, e, s, Q => WLoop cx b e s Q
  | .exit id, e, s, Q => Q (.exit id) e s
  | .scope b, e, s, Q => W cx b e s Q
  | .ret, e, s, Q => Q .ret e s

theorem W_sound {cx : Cx} : ∀ (c : ICode) {n : Nat} {e : FE} {s : St} {Q : Sig → FE → St → Prop}, dstOk n c = true → W cx c e s Q → Ends cx c n e s Q
  | .skip, n, e, s, Q, _, h, ρ, hF => ⟨1, .normal, ρ, s, rfl, e, hF, h⟩
  | .region os, n, e, s, Q, hd, h, ρ, hF => by
    obtain ⟨k, ρ', s', h1, e', h2, h3⟩ := WO_sound os hd hF h
    refine ⟨k + 1, .normal, ρ', s', ?_, e', h2, h3⟩
    unfold callF at h1
    simp [exec, h1]
  | .dregion os, n, e, s, Q, hd, h, ρ, hF => by
    obtain ⟨k, ρ', s', h1, e', h2, h3⟩ := WD_sound os hd hF h
    refine ⟨k + 1, .normal, ρ', s', ?_, e', h2, h3⟩
    unfold callF at h1
    simp [exec, h1]
  | .seq a b, n, e, s, Q, hd, h, ρ, hF => by
    simp only [dstOk, Bool.and_eq_true] at hd
    simp only [W] at h
    obtain ⟨k1, g1, ρ1, s1, h1, e1, h2, h3⟩ := W_sound a hd.1 h ρ hF
    cases g1 with
    | normal =>
      obtain ⟨k2, g2, ρ2, s2, h4, e2, h5, h6⟩ := W_sound b hd.2 h3 ρ1 h2
      refine ⟨max k1 k2 + 1, g2, ρ2, s2, ?_, e2, h5, h6⟩
      simp only [exec]
      rw [exec_mono (Nat.le_max_left k1 k2) _ _ _ _ h1]
      exact exec_mono (Nat.le_max_right k1 k2) _ _ _ _ h4
    | exit i => exact ⟨k1 + 1, _, ρ1, s1, by simp only [exec]; rw [h1]; rfl, e1, h2, h3⟩
    | ret => exact ⟨k1 + 1, _, ρ1, s1, by simp only [exec]; rw [h1]; rfl, e1, h2, h3⟩
  | .cond x a b, n, e, s, Q, hd, h, ρ, hF => by
    simp only [dstOk, Bool.and_eq_true] at hd
    simp only [W, oget_iff] at h
    obtain ⟨v, h1, h2⟩ := h
    unfold bcase at h2
    split at h2
    · rename_i t
      unfold pif at h2
      split at h2
      · rename_i ht; subst ht
        obtain ⟨k, g, ρ', s', h3, e', h4, h5⟩ := W_sound a hd.1 h2 ρ hF
        exact ⟨k + 1, g, ρ', s', by simp only [exec, ev_fits hF, h1, if_true]; exact h3, e', h4, h5⟩
      · rename_i ht
        have ht' : t = false := by simpa using ht
        subst ht'
        obtain ⟨k, g, ρ', s', h3, e', h4, h5⟩ := W_sound b hd.2 h2 ρ hF
        exact ⟨k + 1, g, ρ', s', by simp only [exec, ev_fits hF, h1, Bool.false_eq_true, if_false]; exact h3, e', h4, h5⟩
    · exact h2.elim
  | .block id b, n, e, s, Q, hd, h, ρ, hF => by
    simp only [W] at h
    obtain ⟨k, g, ρ', s', h3, e', h4, h5⟩ := W_sound b hd h ρ hF
    exact ⟨k + 1, blk1 id g, ρ', s', by simp [exec, h3, blk1], e', h4, h5⟩
  | .loop b, n, e, s, Q, hd, h, ρ, hF => h n hd ρ hF
  | .exit id, n, e, s, Q, _, h, ρ, hF => ⟨1, .exit id, ρ, s, rfl, e, hF, h⟩
  | .scope b, n, e, s, Q, hd, h, ρ, hF => by
    obtain ⟨k, g, ρ', s', h3, e', h4, h5⟩ := W_sound b hd h ρ hF
    exact ⟨k + 1, g, ρ', s', by simp only [exec]; exact h3, e', h4, h5⟩
  | .ret, n, e, s, Q, _, h, ρ, hF => ⟨1, .ret, ρ, s, rfl, e, hF, h⟩

/-- A loop's round. -/
theorem WLoop.round {cx : Cx} {b : ICode} {e : FE} {s : St} {Q : Sig → FE → St → Prop} (h : W cx b e s fun g e s => sqn g (WLoop cx b e s Q) (Q g e s)) : WLoop cx b e s Q := by
  intro n hd ρ hF
  obtain ⟨k1, g1, ρ1, s1, h1, e1, h2, h3⟩ := W_sound b hd h ρ hF
  cases g1 with
  | normal =>
    obtain ⟨k2, g2, ρ2, s2, h4, e2, h5, h6⟩ := h3 n hd ρ1 h2
    refine ⟨max k1 k2 + 1, g2, ρ2, s2, ?_, e2, h5, h6⟩
    simp only [exec]
    rw [exec_mono (Nat.le_max_left k1 k2) _ _ _ _ h1]
    exact exec_mono (Nat.le_max_right k1 k2) _ _ _ _ h4
  | exit i => exact ⟨k1 + 1, _, ρ1, s1, by simp only [exec]; rw [h1]; rfl, e1, h2, h3⟩
  | ret => exact ⟨k1 + 1, _, ρ1, s1, by simp only [exec]; rw [h1]; rfl, e1, h2, h3⟩

def argsE (args : List AV) : FE := fun t => args.getD t AV.undef

def resF (s : St) (e : FE) : List IRes → Option (List AV)
  | [] => some []
  | .tmp t :: rs => (resF s e rs).map (e t :: ·)
  | .cell t agg n :: rs => (loadA s agg n (e t)).bind fun v => (resF s e rs).map (v :: ·)
theorem res_fits {n : Nat} {ρ : Env} {e : FE} (h : Fits n ρ e) (s : St) : ∀ rs, results s ρ rs = resF s e rs
  | [] => rfl
  | .tmp t :: rs => by simp only [results, resF, res_fits h s rs, h.2]
  | .cell t g n :: rs => by simp only [results, resF, res_fits h s rs, h.2]

def notExit : Sig → Bool
  | .exit _ => false
  | _ => true

/-- What a function's caller sees. -/
def RetW (s : St) (rs : List IRes) (K : AV → St → Prop) (g : Sig) (e : FE) (s' : St) : Prop :=
  pif (notExit g) (oget (resF s' e rs) fun vs => K (leave s s' (tupled vs)).1 (leave s s' (tupled vs)).2) False

/-- What a function comes to, as it is. -/
def RawW (rs : List IRes) (K : AV → St → Prop) (g : Sig) (e : FE) (s' : St) : Prop :=
  pif (notExit g) (oget (resF s' e rs) fun vs => K (tupled vs) s') False

theorem runFn_W {cx : Cx} {fn : IFunc} {args : List AV} {s : St} {K : AV → St → Prop} (hd : dstOk fn.ntmps fn.body = true)
    (h : W cx fn.body (argsE args) { s with low := s.next } (RawW fn.results K)) : ∃ k v s', runFn (exec cx k) fn args s = some (v, s') ∧ K v s' := by
  have hF : Fits fn.ntmps (args ++ List.replicate (fn.ntmps - args.length) AV.undef) (argsE args) := by
    refine ⟨by simp; omega, fun t => ?_⟩
    simp only [Env.get, argsE, List.getD]
    by_cases ht : t < args.length
    · rw [List.getElem?_append_left ht]
    · rw [List.getElem?_append_right (by omega), List.getElem?_eq_none (l := args) (by omega), List.getElem?_replicate]
      split <;> rfl
  obtain ⟨k, g, ρ', s', h1, e', h2, h3⟩ := W_sound fn.body hd h _ hF
  unfold RawW at h3
  rw [pif_iff] at h3
  rcases h3 with ⟨hg, h3⟩ | ⟨_, h3⟩
  case inr => exact h3.elim
  rw [oget_iff] at h3
  obtain ⟨vs, h4, h5⟩ := h3
  refine ⟨k, _, _, ?_, h5⟩
  simp only [runFn, h1, Option.bind_some]
  cases g
  case exit => simp [notExit] at hg
  all_goals
    dsimp only
    rw [res_fits h2, h4]
    rfl

theorem CallW.fn {cx : Cx} {f : Nat} {fn : IFunc} {args : List AV} {s : St} {K : AV → St → Prop} (hx : cx.ext f = none) (hf : cx.fns f = some fn) (hd : dstOk fn.ntmps fn.body = true)
    (h : W cx fn.body (argsE args) { s with low := s.next } (RetW s fn.results K)) (hm : cx.mode f = .plain := by rfl) : CallW cx f args s K := by
  obtain ⟨k, v, s', h1, h2⟩ := runFn_W (K := fun v s' => K (leave s s' v).1 (leave s s' v).2) hd h
  refine ⟨k, _, _, ?_, h2⟩
  simp only [callF, callWith, hx, hf, hm, Option.bind_some, h1]
  rfl

theorem CallW.frz {cx : Cx} {f z : Nat} {fn : IFunc} {args : List AV} {s : St} {K : AV → St → Prop} (hx : cx.ext f = none) (hf : cx.fns f = some fn) (hm : cx.mode f = .frz z) (hd : dstOk fn.ntmps fn.body = true)
    (h : W cx fn.body (argsE args) { s with low := s.next } (RawW fn.results fun v s' => oget (leaveF z s s' v) fun p => K p.1 p.2)) : CallW cx f args s K := by
  obtain ⟨k, v, s', h1, h2⟩ := runFn_W hd h
  rw [oget_iff] at h2
  obtain ⟨p, h3, h4⟩ := h2
  refine ⟨k, p.1, p.2, ?_, h4⟩
  simp only [callF, callWith, hx, hf, hm, Option.bind_some, h1, h3]

/-- A call by itself, from the empty state, whose answer is plain. -/
def RunB (cx : Cx) (fn : IFunc) (as0 : List AV) (v0 : AV) : Prop := ∃ k v s', runFn (exec cx k) fn as0 st0 = some (v, s') ∧ borV s' v = some v0
theorem RunB.of {cx : Cx} {fn : IFunc} {as0 : List AV} {v0 : AV} (hd : dstOk fn.ntmps fn.body = true) (h : W cx fn.body (argsE as0) st0 (RawW fn.results fun v s' => borV s' v = some v0)) : RunB cx fn as0 v0 := runFn_W (s := st0) hd h
/-- A call by itself, from the empty state, that hands on what it lays. -/
def RunO (cx : Cx) (fn : IFunc) (as0 : List AV) (v : AV) (s' : St) : Prop := ∃ k, runFn (exec cx k) fn as0 st0 = some (v, s')
theorem RunO.of {cx : Cx} {fn : IFunc} {as0 : List AV} {v : AV} {s' : St} (hd : dstOk fn.ntmps fn.body = true) (h : W cx fn.body (argsE as0) st0 (RawW fn.results fun v0 s0 => v0 = v ∧ s0 = s')) : RunO cx fn as0 v s' := by
  obtain ⟨k, v0, s0, h1, rfl, rfl⟩ := runFn_W (s := st0) hd h
  exact ⟨k, h1⟩

theorem CallW.ext {cx : Cx} {f : Nat} {g : List AV → St → Option (AV × St)} {args : List AV} {s : St} {K : AV → St → Prop} (hx : cx.ext f = some g) (h : oget (g args s) fun p => K p.1 p.2) : CallW cx f args s K := by
  rw [oget_iff] at h
  obtain ⟨p, h1, h2⟩ := h
  exact ⟨0, p.1, p.2, by simp only [callF, callWith, hx, h1], h2⟩

theorem CallW.mono {cx : Cx} {f : Nat} {args : List AV} {s : St} {K K' : AV → St → Prop} (h : CallW cx f args s K) (hk : ∀ v s, K v s → K' v s) : CallW cx f args s K' := by
  obtain ⟨k, v, s', h1, h2⟩ := h; exact ⟨k, v, s', h1, hk v s' h2⟩

/-- The answer is one: what a call comes to, handed on. -/
theorem CallW.eq {cx : Cx} {f : Nat} {args : List AV} {s : St} {v0 : AV} {s0 : St} (h : CallW cx f args s fun v s' => v = v0 ∧ s' = s0) (K : AV → St → Prop) : CallW cx f args s K = K v0 s0 := by
  obtain ⟨k, v, s', h1, rfl, rfl⟩ := h
  refine propext ⟨fun ⟨k2, v2, s2, h2, h3⟩ => ?_, fun h => ⟨k, _, _, h1, h⟩⟩
  have a := callF_mono (Nat.le_max_left k k2) _ _ _ _ h1
  have b := callF_mono (Nat.le_max_right k k2) _ _ _ _ h2
  rw [a] at b; cases b; exact h3
theorem CallW.own_eq {cx : Cx} {f : Nat} {zs : List Nat} {fn : IFunc} {args as0 : List AV} {s s' t : St} {v v0 : AV} (hx : cx.ext f = none) (hf : cx.fns f = some fn) (hm : cx.mode f = .own zs) (ha : frzArgs s zs args = some as0) (h : RunO cx fn as0 v s')
    (ho : ownV s s' v = some (v0, t)) (K : AV → St → Prop) : CallW cx f args s K = K v0 t := by
  obtain ⟨k, h1⟩ := h
  refine CallW.eq ⟨k, v0, t, ?_, rfl, rfl⟩ K
  simp only [callF, callWith, hx, hf, hm, Option.bind_some, ha, h1, ho]
theorem CallW_congr {cx : Cx} {f : Nat} {args args' : List AV} {s s' : St} {K : AV → St → Prop} (h : Unit → args = args') (h2 : Unit → s = s') : CallW cx f args s K = CallW cx f args' s' K := by rw [h (), h2 ()]
theorem FunK_congr {cx : Cx} {f f' : AV} {args args' : List AV} {s s' : St} {K : AV → St → Prop} (h0 : Unit → f = f') (h : Unit → args = args') (h2 : Unit → s = s') : FunK cx f args s K = FunK cx f' args' s' K := by rw [h0 (), h (), h2 ()]
theorem WLoop_congr {cx : Cx} {b : ICode} {e : FE} {s s' : St} {Q : Sig → FE → St → Prop} (h2 : Unit → s = s') : WLoop cx b e s Q = WLoop cx b e s' Q := by rw [h2 ()]
theorem WLoop.mono {cx : Cx} {b : ICode} {e : FE} {s : St} {Q Q' : Sig → FE → St → Prop} (h : WLoop cx b e s Q) (hq : ∀ g e s, Q g e s → Q' g e s) : WLoop cx b e s Q' := by
  intro n hd ρ hF
  obtain ⟨k, g, ρ', s', h1, e', h2, h3⟩ := h n hd ρ hF
  exact ⟨k, g, ρ', s', h1, e', h2, hq _ _ _ h3⟩
end Fw


/- The rules by which a rewriter computes what a piece of code comes to. -/
namespace Fw
open Go

section
variable {cx : Cx} {e : FE} {s : St}

/-- What follows a loop, kept out of a rewriter's sight. -/
class QB where
  q : Sig → FE → St → Prop
def WLoopB (cx : Cx) (b : ICode) (e : FE) (s : St) [i : QB] : Prop := WLoop cx b e s i.q
theorem WLoopB.of {cx : Cx} {b : ICode} {e : FE} {s : St} {Q : Sig → FE → St → Prop} (h : WLoop cx b e s Q) : @WLoopB cx b e s ⟨Q⟩ := h

def pifN (b : Bool) (p q : Prop) : Prop := pif b p q
@[go_sem, go_sem ↓] theorem pifN_true (p q : Prop) : pifN true p q = p := pif_true p q
@[go_sem, go_sem ↓] theorem pifN_false (p q : Prop) : pifN false p q = q := pif_false p q
@[go_sem low] theorem pifN_any (b : Bool) (p q : Prop) : pifN b p q = pif b p q := rfl
@[congr] theorem pifN_congr {b b' : Bool} {p q : Prop} (h : Unit → b = b') : pifN b p q = pifN b' p q := by rw [h ()]

@[go_sem ↓] theorem W_skip (Q : Sig → FE → St → Prop) : W cx .skip e s Q = Q .normal e s := rfl
@[go_sem ↓] theorem W_region (os : List IOper) (Q : Sig → FE → St → Prop) : W cx (.region os) e s Q = WO cx os e s fun e s => Q .normal e s := rfl
@[go_sem ↓] theorem W_dregion (os : List (IOper × Nat)) (Q : Sig → FE → St → Prop) : W cx (.dregion os) e s Q = WD cx os 0 [] e s fun e s => Q .normal e s := rfl
@[go_sem ↓] theorem W_seq (a b : ICode) (Q : Sig → FE → St → Prop) : W cx (.seq a b) e s Q = W cx a e s fun g e s => sqn g (W cx b e s Q) (Q g e s) := rfl
@[go_sem ↓] theorem W_cond (x : IX) (a b : ICode) (Q : Sig → FE → St → Prop) : W cx (.cond x a b) e s Q = oget (x.evF cx e) fun v => bcase v (W cx a e s Q) (W cx b e s Q) := rfl
@[go_sem ↓] theorem W_block (id : Nat) (b : ICode) (Q : Sig → FE → St → Prop) : W cx (.block id b) e s Q = W cx b e s fun g e s => Q (blk1 id g) e s := rfl
@[go_sem ↓] theorem W_loop (b : ICode) (Q : Sig → FE → St → Prop) : W cx (.loop b) e s Q = @WLoopB cx b e s ⟨Q⟩ := rfl
@[go_sem ↓] theorem W_exit (id : Nat) (Q : Sig → FE → St → Prop) : W cx (.exit id) e s Q = Q (.exit id) e s := rfl
@[go_sem ↓] theorem W_scope (b : ICode) (Q : Sig → FE → St → Prop) : W cx (.scope b) e s Q = W cx b e s Q := rfl
@[go_sem ↓] theorem W_ret (Q : Sig → FE → St → Prop) : W cx .ret e s Q = Q .ret e s := rfl
@[go_sem ↓] theorem WO_nil (Q : FE → St → Prop) : WO cx [] e s Q = Q e s := rfl
@[go_sem ↓] theorem WO_none (d : Option Nat) (op : IOp) (os : List IOper) (Q : FE → St → Prop) : WO cx (⟨d, op, none⟩ :: os) e s Q = WOp cx e s op fun v s => WO cx os (upd d v e) s Q := rfl
@[go_sem ↓] theorem WO_some (d : Option Nat) (op : IOp) (t : Nat) (w : Bool) (os : List IOper) (Q : FE → St → Prop) : WO cx (⟨d, op, some (t, w)⟩ :: os) e s Q =
    gcase (e t) w (WOp cx e s op fun v s => WO cx os (upd d v e) s Q) (WO cx os (upd d AV.undef e) s Q) := rfl
@[go_sem ↓] theorem WD_nil (i : Nat) (ds : List (Nat × Deed)) (Q : FE → St → Prop) : WD cx [] i ds e s Q = Q e s := rfl
@[go_sem ↓] theorem WD_none (d : Option Nat) (op : IOp) (m : Nat) (os : List (IOper × Nat)) (i : Nat) (ds : List (Nat × Deed)) (Q : FE → St → Prop) : WD cx ((⟨d, op, none⟩, m) :: os) i ds e s Q =
    WDeed cx e s op fun v s de => dcase de (WD cx os (i + 1) ds (upd d v e) s Q) fun de => pifN (freeAll m de ds) (WD cx os (i + 1) ((i, de) :: ds) (upd d v e) s Q) False := rfl
@[go_sem ↓] theorem WD_some (d : Option Nat) (op : IOp) (t : Nat) (w : Bool) (m : Nat) (os : List (IOper × Nat)) (i : Nat) (ds : List (Nat × Deed)) (Q : FE → St → Prop) : WD cx ((⟨d, op, some (t, w)⟩, m) :: os) i ds e s Q =
    gcase (e t) w (WDeed cx e s op fun v s de => dcase de (WD cx os (i + 1) ds (upd d v e) s Q) fun de => pifN (freeAll m de ds) (WD cx os (i + 1) ((i, de) :: ds) (upd d v e) s Q) False) (WD cx os (i + 1) ds (upd d AV.undef e) s Q) := rfl

/- operations -/
section
variable (K : AV → St → Prop)
@[go_sem ↓] theorem WOp_mov (x : IX) : WOp cx e s (.mov x) K = oget (x.evF cx e) fun a => K a s := rfl
@[go_sem ↓] theorem WOp_pick (c a b : IX) : WOp cx e s (.pick c a b) K = oget (c.evF cx e) fun c => oget (a.evF cx e) fun a => oget (b.evF cx e) fun b => oget (selB c a b) fun v => K v s := rfl
@[go_sem ↓] theorem WOp_alloc (t : TypeId) (z : List AV) : WOp cx e s (.alloc t z) K = K (.ptr s.next 0) (s.new (.cells (some t) z)) := rfl
@[go_sem ↓] theorem WOp_box (t : TypeId) (x : IX) : WOp cx e s (.box t x) K = oget (x.evF cx e) fun v => K (.ptr s.next 0) (s.new (.cells (some t) v.cells)) := rfl
@[go_sem ↓] theorem WOp_build (z : List AV) (ps : List (Nat × Nat × IX)) : WOp cx e s (.build z ps) K = oget (fillF cx e z ps) fun cs => K (.agg cs) s := rfl
@[go_sem ↓] theorem WOp_bslice (z : List AV) (len : Nat) (ps : List (Nat × Nat × IX)) : WOp cx e s (.bslice z len ps) K = oget (fillF cx e z ps) fun cs => K (.slice (cs.map AV.strip) len .full) s := rfl
@[go_sem ↓] theorem WOp_load (g : Bool) (n : Nat) (a : IX) : WOp cx e s (.load g n a) K = oget (a.evF cx e) fun a => oget (loadA s g n a) fun v => K v s := rfl
@[go_sem ↓] theorem WOp_store (n : Nat) (a x : IX) : WOp cx e s (.store n a x) K = oget (a.evF cx e) fun a => oget (x.evF cx e) fun x => oget (storeA s n a x) fun s => K AV.undef s := rfl
@[go_sem ↓] theorem WOp_nilChk (x : IX) : WOp cx e s (.nilChk x) K = oget (x.evF cx e) fun a => oget (isPtr a) fun v => K v s := rfl
@[go_sem ↓] theorem WOp_bin (op : BinOp) (x y : IX) : WOp cx e s (.bin op x y) K = oget (x.evF cx e) fun a => oget (y.evF cx e) fun b => oget (evBin op a b) fun v => K v s := rfl
@[go_sem ↓] theorem WOp_eqv (neg : Bool) (q : EqK) (x y : IX) : WOp cx e s (.eqv neg q x y) K = oget (x.evF cx e) fun a => oget (y.evF cx e) fun b => oget (evEq q a b) fun r => K (.bool (if neg then !r else r)) s := rfl
@[go_sem ↓] theorem WOp_un (op : UnOp) (x : IX) : WOp cx e s (.un op x) K = oget (x.evF cx e) fun a => oget (evUn op a) fun v => K v s := rfl
@[go_sem ↓] theorem WOp_i2i (k : IntKind) (x : IX) : WOp cx e s (.i2i k x) K = oget (x.evF cx e) fun a => oget (wrapA k a) fun v => K v s := rfl
@[go_sem ↓] theorem WOp_same (x : IX) : WOp cx e s (.same x) K = oget (x.evF cx e) fun a => oget (strA a) fun t => K (.str t) s := rfl
@[go_sem ↓] theorem WOp_b2s (x : IX) : WOp cx e s (.b2s x) K = oget (x.evF cx e) fun a => oget (b2sA s a) fun v => K v s := rfl
@[go_sem ↓] theorem WOp_s2b (x : IX) : WOp cx e s (.s2b x) K = oget (x.evF cx e) fun a => oget (strA a) fun t => K (.mslice s.next 0 t.length none) (s.new (.cells none (byteCells t))) := rfl
@[go_sem ↓] theorem WOp_i2s (x : IX) : WOp cx e s (.i2s x) K = oget (x.evF cx e) fun a => oget (i2sA a) fun v => K v s := rfl
@[go_sem ↓] theorem WOp_slcs (x : IX) (lo hi : Option IX) : WOp cx e s (.slcs x lo hi) K = oget (x.evF cx e) fun x => oget (evoF cx e lo) fun lo => oget (evoF cx e hi) fun hi => oget (slcsA x lo hi) fun v => K v s := rfl
@[go_sem ↓] theorem WOp_slc (z : Nat) (x : IX) (lo hi mx : Option IX) : WOp cx e s (.slc z x lo hi mx) K = oget (x.evF cx e) fun x => oget (evoF cx e lo) fun lo => oget (evoF cx e hi) fun hi => oget (evoF cx e mx) fun mx => oget (sliceA z x lo hi mx) fun v => K v s := rfl
@[go_sem ↓] theorem WOp_slca (z n : Nat) (x : IX) (lo hi mx : Option IX) : WOp cx e s (.slca z n x lo hi mx) K = oget (x.evF cx e) fun x => oget (evoF cx e lo) fun lo => oget (evoF cx e hi) fun hi => oget (evoF cx e mx) fun mx => oget (sliceArr z n x lo hi mx) fun v => K v s := rfl
@[go_sem ↓] theorem WOp_faddr (off : Nat) (x : IX) : WOp cx e s (.faddr off x) K = oget (x.evF cx e) fun a => oget (faddrA off a) fun v => K v s := rfl
@[go_sem ↓] theorem WOp_fld (off n : Nat) (g : Bool) (x : IX) : WOp cx e s (.fld off n g x) K = oget (x.evF cx e) fun a => oget (fldA off n g a) fun v => K v s := rfl
@[go_sem ↓] theorem WOp_iaddr (z : Nat) (arr : Option Nat) (x i : IX) : WOp cx e s (.iaddr z arr x i) K = oget (x.evF cx e) fun x => oget (i.evF cx e) fun i => oget (asI i) fun i => oget (iaddrA z arr x i) fun v => K v s := rfl
@[go_sem ↓] theorem WOp_idx (z : Nat) (g : Bool) (arr : Option Nat) (x i : IX) : WOp cx e s (.idx z g arr x i) K = oget (x.evF cx e) fun x => oget (i.evF cx e) fun i => oget (asI i) fun i => oget (idxA z g arr x i) fun v => K v s := rfl
@[go_sem ↓] theorem WOp_look (kk : CK) (z : AV) (ok : Bool) (m k : IX) : WOp cx e s (.look kk z ok m k) K = oget (m.evF cx e) fun m => oget (k.evF cx e) fun k => oget (entriesOf s m) fun es => oget (mapFind kk k es) fun (r : Option AV) => K (if ok then .tuple [r.getD z, .bool r.isSome] else r.getD z) s := rfl
@[go_sem ↓] theorem WOp_mupd (kk : CK) (m k v : IX) : WOp cx e s (.mupd kk m k v) K = oget (m.evF cx e) fun m => oget (k.evF cx e) fun k => oget (v.evF cx e) fun v => oget (mupdA kk s k v m) fun s => K AV.undef s := rfl
@[go_sem ↓] theorem WOp_mkmap : WOp cx e s .mkmap K = K (.map s.next) (s.new (.map [])) := rfl
@[go_sem ↓] theorem WOp_mkif (t : Nat) (x : IX) : WOp cx e s (.mkif t x) K = oget (x.evF cx e) fun v => K (.iface t v.strip) s := rfl
@[go_sem ↓] theorem WOp_mkfn (f : Nat) (a b : List IX) : WOp cx e s (.mkfn f a b) K = oget (evsF cx e a) fun a => oget (evsF cx e b) fun b => K (.func f a b) s := rfl
@[go_sem ↓] theorem WOp_mkslice (y : Nat) (z : List AV) (len cap : IX) : WOp cx e s (.mkslice y z len cap) K = oget (len.evF cx e) fun l => oget (cap.evF cx e) fun c => oget (mkslA s y z l c) fun p => K p.1 p.2 := rfl
@[go_sem ↓] theorem WOp_extr (x : IX) (i : Nat) : WOp cx e s (.extr x i) K = oget (x.evF cx e) fun a => oget (extrA i a) fun v => K v s := rfl
@[go_sem ↓] theorem WOp_lens (x : IX) : WOp cx e s (.lens x) K = oget (x.evF cx e) fun a => oget (lensA a) fun v => K v s := rfl
@[go_sem ↓] theorem WOp_lenv (x : IX) : WOp cx e s (.lenv x) K = oget (x.evF cx e) fun a => oget (lenvA a) fun v => K v s := rfl
@[go_sem ↓] theorem WOp_lenm (x : IX) : WOp cx e s (.lenm x) K = oget (x.evF cx e) fun a => oget (entriesOf s a) fun es => K (.int .i64 es.length) s := rfl
@[go_sem ↓] theorem WOp_mn (xs : List IX) : WOp cx e s (.mn xs) K = oget (evsF cx e xs) fun vs => oget (fold1 min2 vs) fun v => K v s := rfl
@[go_sem ↓] theorem WOp_mx (xs : List IX) : WOp cx e s (.mx xs) K = oget (evsF cx e xs) fun vs => oget (fold1 max2 vs) fun v => K v s := rfl
@[go_sem ↓] theorem WOp_app (ty z y : Nat) (a b : IX) : WOp cx e s (.app ty z y a b) K = oget (a.evF cx e) fun a => oget (b.evF cx e) fun b => oget (appendA s ty z y a b) fun p => K p.1 p.2 := rfl
@[go_sem ↓] theorem WOp_copy (z : Nat) (a b : IX) : WOp cx e s (.copy z a b) K = oget (a.evF cx e) fun a => oget (b.evF cx e) fun b => oget (copyA s z a b) fun p => K p.1 p.2 := rfl
@[go_sem ↓] theorem WOp_clr (z : List AV) (a : IX) : WOp cx e s (.clr z a) K = oget (a.evF cx e) fun a => oget (clearA s z a) fun p => K p.1 p.2 := rfl
@[go_sem ↓] theorem WOp_call (f : IX) (xs : List IX) : WOp cx e s (.call f xs) K = oget (f.evF cx e) fun f => oget (evsF cx e xs) fun vs => FunK cx f vs s K := rfl
@[go_sem ↓] theorem FunK_func (g : Nat) (a b vs : List AV) : FunK cx (.func g a b) vs s K = CallW cx g (a ++ vs ++ b) s K := rfl
end

/- operands -/
@[go_sem] theorem evF_tmp (t : Nat) : IX.evF cx e (.tmp t) = some (e t) := rfl
@[go_sem] theorem evF_const (a : AV) : IX.evF cx e (.const a) = some a := rfl
@[go_sem] theorem evF_glob (g : Nat) : IX.evF cx e (.glob g) = (cx.gl g).map (AV.vptr · 0) := rfl
@[go_sem] theorem evsF_nil : evsF cx e [] = some [] := rfl
@[go_sem] theorem evsF_cons (x : IX) (xs : List IX) : evsF cx e (x :: xs) = (x.evF cx e).bind fun a => (evsF cx e xs).map (a :: ·) := rfl
@[go_sem] theorem evoF_none : evoF cx e none = some none := rfl
@[go_sem] theorem evoF_some (x : IX) : evoF cx e (some x) = (x.evF cx e).map some := rfl
end

@[go_sem] theorem selB_bool (t : Bool) (a b : AV) : selB (.bool t) a b = some (if t = true then a else b) := rfl
@[go_sem] theorem ite_bool (c : Bool) (a b : Bool) : (if c = true then AV.bool a else AV.bool b) = .bool (if c = true then a else b) := by cases c <;> rfl
@[go_sem] theorem ite_int (c : Bool) (k : IntKind) (a b : Int) : (if c = true then AV.int k a else AV.int k b) = .int k (if c = true then a else b) := by cases c <;> rfl

/- plain arithmetic -/
@[go_sem] theorem bin_add (k : IntKind) (a b : Int) : evBin .add (.int k a) (.int k b) = some (.int k (k.wrap (a + b))) := by simp [evBin]
@[go_sem] theorem bin_sub (k : IntKind) (a b : Int) : evBin .sub (.int k a) (.int k b) = some (.int k (k.wrap (a - b))) := by simp [evBin]
@[go_sem] theorem bin_mul (k : IntKind) (a b : Int) : evBin .mul (.int k a) (.int k b) = some (.int k (k.wrap (a * b))) := by simp [evBin]
@[go_sem] theorem bin_quo (k : IntKind) (a b : Int) : evBin .quo (.int k a) (.int k b) = if b = 0 then none else some (.int k (k.wrap (a.tdiv b))) := by simp [evBin]
@[go_sem] theorem bin_rem (k : IntKind) (a b : Int) : evBin .rem (.int k a) (.int k b) = if b = 0 then none else some (.int k (a.tmod b)) := by simp [evBin]
@[go_sem] theorem bin_eql (k : IntKind) (a b : Int) : evBin .eql (.int k a) (.int k b) = some (.bool (decide (a = b))) := by simp [evBin]; rfl
@[go_sem] theorem bin_neq (k : IntKind) (a b : Int) : evBin .neq (.int k a) (.int k b) = some (.bool (decide (a ≠ b))) := by simp [evBin, bne]; rfl
@[go_sem] theorem bin_lss (k : IntKind) (a b : Int) : evBin .lss (.int k a) (.int k b) = some (.bool (decide (a < b))) := by simp [evBin]
@[go_sem] theorem bin_leq (k : IntKind) (a b : Int) : evBin .leq (.int k a) (.int k b) = some (.bool (decide (a ≤ b))) := by simp [evBin]
@[go_sem] theorem bin_gtr (k : IntKind) (a b : Int) : evBin .gtr (.int k a) (.int k b) = some (.bool (decide (b < a))) := by simp [evBin]
@[go_sem] theorem bin_geq (k : IntKind) (a b : Int) : evBin .geq (.int k a) (.int k b) = some (.bool (decide (b ≤ a))) := by simp [evBin]
@[go_sem] theorem bin_shl (k k' : IntKind) (a b : Int) : evBin .shl (.int k a) (.int k' b) = if b < 0 then none else some (.int k (k.wrap (a * 2 ^ (min b.toNat k.bits)))) := by simp [evBin]
@[go_sem] theorem bin_shr (k k' : IntKind) (a b : Int) : evBin .shr (.int k a) (.int k' b) = if b < 0 then none else some (.int k (a.fdiv (2 ^ (min b.toNat k.bits)))) := by simp [evBin]
@[go_sem] theorem bin_and (k : IntKind) (a b : Int) : evBin .and (.int k a) (.int k b) = some (.int k (k.wrap (BitVec.ofInt k.bits a &&& BitVec.ofInt k.bits b).toNat)) := by simp [evBin]
@[go_sem] theorem bin_or (k : IntKind) (a b : Int) : evBin .or (.int k a) (.int k b) = some (.int k (k.wrap (BitVec.ofInt k.bits a ||| BitVec.ofInt k.bits b).toNat)) := by simp [evBin]
@[go_sem] theorem bin_xor (k : IntKind) (a b : Int) : evBin .xor (.int k a) (.int k b) = some (.int k (k.wrap (BitVec.ofInt k.bits a ^^^ BitVec.ofInt k.bits b).toNat)) := by simp [evBin]
@[go_sem] theorem bin_sadd (a b : List UInt8) : evBin .add (.str a) (.str b) = if a.length + b.length ≤ 9223372036854775807 then some (.str (a ++ b)) else none := by simp [evBin]
@[go_sem] theorem bin_seql (a b : List UInt8) : evBin .eql (.str a) (.str b) = some (.bool (decide (a = b))) := by simp only [evBin, Option.some.injEq, AV.bool.injEq]; rw [Bool.eq_iff_iff]; simp
@[go_sem] theorem bin_sneq (a b : List UInt8) : evBin .neq (.str a) (.str b) = some (.bool (decide (a ≠ b))) := by simp only [evBin, Option.some.injEq, AV.bool.injEq]; rw [Bool.eq_iff_iff]; simp
@[go_sem] theorem un_not (a : Bool) : evUn .not (.bool a) = some (.bool (!a)) := rfl
@[go_sem] theorem un_neg (k : IntKind) (a : Int) : evUn .neg (.int k a) = some (.int k (k.wrap (0 - a))) := rfl
@[go_sem] theorem eq_bool (a b : Bool) : evEq .scal (.bool a) (.bool b) = some (a == b) := rfl
@[go_sem] theorem wrapA_int (k k' : IntKind) (n : Int) : wrapA k (.int k' n) = some (.int k (k.wrap n)) := rfl
@[go_sem] theorem strA_str (t : List UInt8) : strA (.str t) = some t := rfl
@[go_sem] theorem asI_int (k : IntKind) (n : Int) : asI (.int k n) = some n := rfl
@[go_sem] theorem isPtr_ptr (i o : Nat) : isPtr (.ptr i o) = some (.ptr i o) := rfl
@[go_sem] theorem isPtr_vptr (cs : List AV) (o : Nat) : isPtr (.vptr cs o) = some (.vptr cs o) := rfl
@[go_sem] theorem lensA_str (b : List UInt8) : lensA (.str b) = some (.int .i64 b.length) := rfl
@[go_sem] theorem lenvA_nil : lenvA .nilslice = some (.int .i64 0) := rfl
@[go_sem] theorem lenvA_slice (cs : List AV) (n : Nat) (o : Own) : lenvA (.slice cs n o) = some (.int .i64 n) := rfl
@[go_sem] theorem lenvA_mslice (i o n : Nat) (c : Option Nat) : lenvA (.mslice i o n c) = some (.int .i64 n) := rfl
@[go_sem] theorem faddrA_ptr (off i o : Nat) : faddrA off (.ptr i o) = some (.ptr i (o + off)) := rfl
@[go_sem] theorem faddrA_vptr (off o : Nat) (cs : List AV) : faddrA off (.vptr cs o) = some (.vptr cs (o + off)) := rfl
@[go_sem] theorem fldA_agg (off n : Nat) (g : Bool) (cs : List AV) : fldA off n g (.agg cs) = (sub cs off n).bind (ofCells g) := rfl
@[go_sem] theorem extrA_tuple (i : Nat) (vs : List AV) : extrA i (.tuple vs) = vs[i]? := rfl
@[go_sem] theorem idxA_str (z : Nat) (g : Bool) (b : List UInt8) (i : Int) : idxA z g none (.str b) i = if 0 ≤ i then (b[i.toNat]?).map fun c => .int .u8 c.toNat else none := rfl

/- state -/
@[go_sem] theorem new_eq (s : St) (o : AObj) : s.new o = { heap := (s.next, o) :: s.heap, next := s.next + 1, low := s.low } := rfl
@[go_sem] theorem set_eq (s : St) (id : Nat) (o : AObj) : s.set id o = { heap := put id o s.heap, next := s.next, low := min s.low id } := rfl
@[go_sem] theorem get_eq (s : St) (id : Nat) : s.get id = look id s.heap := rfl
@[go_sem] theorem look_cons (i j : Nat) (o : AObj) (h : List (Nat × AObj)) : look i ((j, o) :: h) = if j = i then some o else look i h := rfl
@[go_sem] theorem put_cons (i j : Nat) (o p : AObj) (h : List (Nat × AObj)) : put i o ((j, p) :: h) = if j = i then (j, o) :: h else (j, p) :: put i o h := rfl
@[go_sem] theorem min_next (a k : Nat) : min a (a + k) = a := by omega
def ldA (o : Option AObj) (g : Bool) (n off : Nat) : Option AV := match o with
  | some (.cells _ cs) => (sub cs off n).bind (ofCells g)
  | _ => none
@[go_sem] theorem loadA_ptr (s : St) (g : Bool) (n i off : Nat) : loadA s g n (.ptr i off) = ldA (s.get i) g n off := rfl
@[go_sem] theorem ldA_cells (ty : Option TypeId) (cs : List AV) (g : Bool) (n off : Nat) : ldA (some (.cells ty cs)) g n off = (sub cs off n).bind (ofCells g) := rfl
@[go_sem] theorem loadA_vptr (s : St) (g : Bool) (n off : Nat) (cs : List AV) : loadA s g n (.vptr cs off) = (sub cs off n).bind (ofCells g) := rfl
def stA (s : St) (n id off : Nat) (x : AV) (o : Option AObj) : Option St := match o with
  | some (.cells ty cs) => if x.cells.length = n ∧ x.cells.all AV.one = true then (patch cs off x.cells).map fun cs => s.set id (.cells ty cs) else none
  | _ => none
@[go_sem] theorem storeA_ptr (s : St) (n id off : Nat) (x : AV) : storeA s n (.ptr id off) x = stA s n id off x (s.get id) := rfl
@[go_sem] theorem stA_cells (s : St) (n id off : Nat) (x : AV) (ty : Option TypeId) (cs : List AV) : stA s n id off x (some (.cells ty cs)) =
    if x.cells.length = n ∧ x.cells.all AV.one = true then (patch cs off x.cells).map fun cs => s.set id (.cells ty cs) else none := rfl
/- stretches of given lists -/
@[go_sem] theorem sub_succ (c : AV) (cs : List AV) (off n : Nat) : sub (c :: cs) (off + 1) n = sub cs off n := by
  simp only [sub, List.length_cons, List.drop_succ_cons]
  by_cases h : off + n ≤ cs.length
  · rw [if_pos h, if_pos (by omega)]
  · rw [if_neg h, if_neg (by omega)]
@[go_sem] theorem sub_zero_succ (c : AV) (cs : List AV) (n : Nat) : sub (c :: cs) 0 (n + 1) = (sub cs 0 n).map (c :: ·) := by
  simp only [sub, List.length_cons, List.drop_zero, List.take_succ_cons]
  by_cases h : 0 + n ≤ cs.length
  · rw [if_pos h, if_pos (by omega)]; rfl
  · rw [if_neg h, if_neg (by omega)]; rfl
@[go_sem] theorem sub_zero_zero (cs : List AV) : sub cs 0 0 = some [] := by simp [sub]
@[go_sem] theorem patch_succ (c : AV) (cs vs : List AV) (off : Nat) : patch (c :: cs) (off + 1) vs = (patch cs off vs).map (c :: ·) := by
  simp only [patch, List.length_cons, List.take_succ_cons, show off + 1 + vs.length = (off + vs.length) + 1 by omega, List.drop_succ_cons]
  by_cases h : off + vs.length ≤ cs.length
  · rw [if_pos h, if_pos (by omega)]; rfl
  · rw [if_neg h, if_neg (by omega)]; rfl
@[go_sem] theorem patch_zero_cons (c v : AV) (cs vs : List AV) : patch (c :: cs) 0 (v :: vs) = (patch cs 0 vs).map (v :: ·) := by
  simp only [patch, List.length_cons, List.take_zero, show 0 + (vs.length + 1) = (0 + vs.length) + 1 by omega, List.drop_succ_cons]
  by_cases h : 0 + vs.length ≤ cs.length
  · rw [if_pos h, if_pos (by omega)]; rfl
  · rw [if_neg h, if_neg (by omega)]; rfl
@[go_sem] theorem patch_zero_nil (cs : List AV) : patch cs 0 [] = some cs := by simp [patch]
@[go_sem] theorem ofCells_true (cs : List AV) : ofCells true cs = some (.agg cs) := rfl
@[go_sem] theorem ofCells_false (c : AV) : ofCells false [c] = some c := rfl
attribute [go_sem] List.all_cons List.all_nil List.length_cons List.length_nil Option.bind_some Option.map_some Option.bind_none Option.map_none List.map_cons List.map_nil
  oget_some oget_none sqn_normal sqn_exit sqn_ret bcase_bool gcase_true gcase_false gcase_undef dcase_none dcase_some upd_none
  List.nil_append List.cons_append List.append_nil and_self if_true if_false Bool.and_self Bool.and_true Bool.true_and Nat.add_zero Nat.zero_add Nat.min_self true_and and_true eq_self
attribute [go_sem ↓] pif_true pif_false oget_some oget_none sqn_normal sqn_exit sqn_ret bcase_bool gcase_true gcase_false gcase_undef dcase_none dcase_some
attribute [congr] oget_congr bcase_congr gcase_congr dcase_congr sqn_congr CallW_congr FunK_congr WLoop_congr pif_congr
attribute [go_sem] Bool.not_true Bool.not_false Bool.not_not Bool.false_and Bool.and_false Bool.or_false Bool.false_or Bool.or_true Bool.true_or Bool.false_eq_true decide_true decide_false
attribute [go_sem ↓] upd_get
@[go_sem ↓] theorem ogf (K : AV → Prop) : oget none K = False := rfl

/- maps with given keys -/
@[go_sem] theorem mapFind_nil (kk : CK) (k : AV) : mapFind kk k [] = some none := rfl
@[go_sem] theorem mapFind_str (a b : List UInt8) (v : AV) (es : List (AV × AV)) : mapFind .str (.str a) ((.str b, v) :: es) = if a = b then some (some v) else mapFind .str (.str a) es := by
  simp only [mapFind, cellEqK]
  by_cases h : a = b
  · subst h; simp
  · have h' : (a == b) = false := by simpa using h
    simp [h', h]
@[go_sem] theorem mapFind_int (kd kd' : IntKind) (a b : Int) (v : AV) (es : List (AV × AV)) (hk : kd = kd') : mapFind .int (.int kd a) ((.int kd' b, v) :: es) = if a = b then some (some v) else mapFind .int (.int kd a) es := by
  simp only [mapFind, cellEqK, hk, if_true]
  by_cases h : a = b
  · subst h; simp
  · have h' : (a == b) = false := by simpa using h
    simp [h', h]
@[go_sem] theorem mapPut_nil (kk : CK) (k v : AV) : mapPut kk k v [] = some [(k, v)] := rfl
@[go_sem] theorem mapPut_str (a b : List UInt8) (v u : AV) (es : List (AV × AV)) : mapPut .str (.str a) v ((.str b, u) :: es) = if a = b then some ((.str a, v) :: es) else (mapPut .str (.str a) v es).map ((.str b, u) :: ·) := by
  simp only [mapPut, cellEqK]
  by_cases h : a = b
  · subst h; simp
  · have h' : (a == b) = false := by simpa using h
    simp [h', h]
def entM (o : Option AObj) : Option (List (AV × AV)) := match o with
  | some (.map es) => some es
  | _ => none
@[go_sem] theorem entriesOf_map (s : St) (i : Nat) : entriesOf s (.map i) = entM (s.get i) := rfl
@[go_sem] theorem entriesOf_nil (s : St) : entriesOf s .nilmap = some [] := rfl
@[go_sem] theorem entM_map (es : List (AV × AV)) : entM (some (.map es)) = some es := rfl
def mupM (kk : CK) (s : St) (k v : AV) (id : Nat) (o : Option AObj) : Option St := match o with
  | some (.map es) => (mapPut kk k v.strip es).map fun es => s.set id (.map es)
  | _ => none
@[go_sem] theorem mupdA_map (kk : CK) (s : St) (k v : AV) (id : Nat) : mupdA kk s k v (.map id) = mupM kk s k v id (s.get id) := rfl
@[go_sem] theorem mupM_map (kk : CK) (s : St) (k v : AV) (id : Nat) (es : List (AV × AV)) : mupM kk s k v id (some (.map es)) = (mapPut kk k v.strip es).map fun es => s.set id (.map es) := rfl

/- choices stand ahead of what follows -/
@[go_sem ↓] theorem oget_ite {α : Type} (c : Prop) [Decidable c] (x y : Option α) (K : α → Prop) : oget (if c then x else y) K = if c then oget x K else oget y K := by split <;> rfl
@[go_sem] theorem oget_ite' {α : Type} (c : Prop) [Decidable c] (x y : Option α) (K : α → Prop) : oget (if c then x else y) K = if c then oget x K else oget y K := by split <;> rfl

/- strings -/
theorem oget_idx (z : Nat) (g : Bool) (b : List UInt8) (i : Int) (K : AV → Prop) : oget (idxA z g none (.str b) i) K = (0 ≤ i ∧ i < b.length ∧ K (.int .u8 (b.getD i.toNat 0).toNat)) := by
  simp only [idxA_str]
  by_cases h : 0 ≤ i
  · simp only [h, if_true, true_and]
    by_cases h2 : i < b.length
    · have h3 : i.toNat < b.length := by omega
      rw [List.getElem?_eq_getElem h3]
      simp [oget_some, h2, List.getD, h3]
    · rw [List.getElem?_eq_none (by omega)]
      simp only [Option.map_none, oget_none, h2, false_and]
  · simp only [h, if_false, oget_none, false_and]
def slOk (n : Nat) (lo hi : Int) : Prop := 0 ≤ lo ∧ lo ≤ hi ∧ hi ≤ n
def cut (b : List UInt8) (lo hi : Int) : List UInt8 := (b.drop lo.toNat).take (hi.toNat - lo.toNat)
theorem oget_slcs_full (b : List UInt8) (k k' : IntKind) (lo hi : Int) (K : AV → Prop) : oget (slcsA (.str b) (some (.int k lo)) (some (.int k' hi))) K = (slOk b.length lo hi ∧ K (.str (cut b lo hi))) := by
  simp only [slcsA, bounds, slOk, cut]
  by_cases h : 0 ≤ hi ∧ hi ≤ b.length
  · rw [if_pos h]
    by_cases h2 : 0 ≤ lo ∧ lo ≤ hi
    · rw [if_pos h2]; simp [oget, h.2, h2.1, h2.2]
    · rw [if_neg h2]; simp only [Option.map_none, oget_none, eq_iff_iff, false_iff]; omega
  · rw [if_neg h]; simp only [Option.map_none, oget_none, eq_iff_iff, false_iff]; omega
theorem oget_slcs_lo (b : List UInt8) (k : IntKind) (lo : Int) (K : AV → Prop) : oget (slcsA (.str b) (some (.int k lo)) none) K = ((0 ≤ lo ∧ lo ≤ b.length) ∧ K (.str (b.drop lo.toNat))) := by
  simp only [slcsA, bounds]
  by_cases h : 0 ≤ lo ∧ lo ≤ b.length
  · rw [if_pos h]
    have : b.length - lo.toNat = (b.drop lo.toNat).length := by simp
    simp only [Option.map_some, oget_some, h, and_self, true_and, this, List.take_length]
  · rw [if_neg h]; simp [oget, h]
theorem oget_slcs_hi (b : List UInt8) (k : IntKind) (hi : Int) (K : AV → Prop) : oget (slcsA (.str b) none (some (.int k hi))) K = ((0 ≤ hi ∧ hi ≤ b.length) ∧ K (.str (b.take hi.toNat))) := by
  simp only [slcsA, bounds]
  by_cases h : 0 ≤ hi ∧ hi ≤ b.length
  · rw [if_pos h]; simp [oget, h]
  · rw [if_neg h]; simp [oget, h]
theorem oget_slcs_none (b : List UInt8) (K : AV → Prop) : oget (slcsA (.str b) none none) K = K (.str b) := by
  simp [slcsA, bounds, oget]
attribute [go_sem ↓] oget_idx oget_slcs_full oget_slcs_lo oget_slcs_hi oget_slcs_none

/- what a caller sees -/
def LeaveW (s s' : St) (v : AV) (K : AV → St → Prop) : Prop := K (leave s s' v).1 (leave s s' v).2
@[go_sem ↓] theorem RetW_ret (s s' : St) (rs : List IRes) (K : AV → St → Prop) (e : FE) : RetW s rs K .ret e s' = oget (resF s' e rs) fun vs => LeaveW s s' (tupled vs) K := rfl
@[go_sem ↓] theorem RetW_normal (s s' : St) (rs : List IRes) (K : AV → St → Prop) (e : FE) : RetW s rs K .normal e s' = oget (resF s' e rs) fun vs => LeaveW s s' (tupled vs) K := rfl
@[go_sem ↓] theorem RawW_ret (rs : List IRes) (K : AV → St → Prop) (e : FE) (s' : St) : RawW rs K .ret e s' = oget (resF s' e rs) fun vs => K (tupled vs) s' := rfl
@[go_sem ↓] theorem RawW_normal (rs : List IRes) (K : AV → St → Prop) (e : FE) (s' : St) : RawW rs K .normal e s' = oget (resF s' e rs) fun vs => K (tupled vs) s' := rfl
theorem LeaveW_congr {s s' t' : St} {v v' : AV} {K : AV → St → Prop} (h : Unit → v = v') (h2 : Unit → s' = t') : LeaveW s s' v K = LeaveW s t' v' K := by rw [h (), h2 ()]
attribute [congr] LeaveW_congr
@[go_sem] theorem resF_nil (s : St) (e : FE) : resF s e [] = some [] := rfl
@[go_sem] theorem resF_tmp (s : St) (e : FE) (t : Nat) (rs : List IRes) : resF s e (.tmp t :: rs) = (resF s e rs).map (e t :: ·) := rfl
@[go_sem] theorem resF_cell (s : St) (e : FE) (t : Nat) (g : Bool) (n : Nat) (rs : List IRes) : resF s e (.cell t g n :: rs) = (loadA s g n (e t)).bind fun v => (resF s e rs).map (v :: ·) := rfl
@[go_sem] theorem tupled_one (v : AV) : tupled [v] = v := rfl
@[go_sem] theorem tupled_nil : tupled [] = .tuple [] := rfl
@[go_sem] theorem tupled_two (v u : AV) (vs : List AV) : tupled (v :: u :: vs) = .tuple (v :: u :: vs) := rfl
@[go_sem] theorem argsE_get (args : List AV) (t : Nat) : argsE args t = args.getD t AV.undef := rfl
@[go_sem] theorem blk1_exit (i j : Nat) : blk1 i (.exit j) = if i = j then .normal else .exit j := by
  simp only [blk1, Sig.exit.injEq]; split <;> split <;> simp_all
@[go_sem] theorem blk1_normal (i : Nat) : blk1 i .normal = .normal := rfl
@[go_sem] theorem blk1_ret (i : Nat) : blk1 i .ret = .ret := rfl
/-- Values without a number in them. -/
def AV.flat : AV → Bool
  | .bool _ | .int _ _ | .str _ | .nilptr | .nilslice | .nilmap | .nilfunc | .niliface => true
  | _ => false
/- the forms of values -/
@[go_sem] theorem cells_bool (b : Bool) : (AV.bool b).cells = [(AV.bool b)] := rfl
@[go_sem] theorem one_bool (b : Bool) : (AV.bool b).one = true := rfl
@[go_sem] theorem strip_bool (b : Bool) : (AV.bool b).strip = (AV.bool b) := rfl
@[go_sem] theorem flat_bool (b : Bool) : (AV.bool b).flat = true := rfl
@[go_sem] theorem cells_int (k : IntKind) (n : Int) : (AV.int k n).cells = [(AV.int k n)] := rfl
@[go_sem] theorem one_int (k : IntKind) (n : Int) : (AV.int k n).one = true := rfl
@[go_sem] theorem strip_int (k : IntKind) (n : Int) : (AV.int k n).strip = (AV.int k n) := rfl
@[go_sem] theorem flat_int (k : IntKind) (n : Int) : (AV.int k n).flat = true := rfl
@[go_sem] theorem cells_str (b : List UInt8) : (AV.str b).cells = [(AV.str b)] := rfl
@[go_sem] theorem one_str (b : List UInt8) : (AV.str b).one = true := rfl
@[go_sem] theorem strip_str (b : List UInt8) : (AV.str b).strip = (AV.str b) := rfl
@[go_sem] theorem flat_str (b : List UInt8) : (AV.str b).flat = true := rfl
@[go_sem] theorem cells_nilptr  : AV.nilptr.cells = [AV.nilptr] := rfl
@[go_sem] theorem one_nilptr  : AV.nilptr.one = true := rfl
@[go_sem] theorem strip_nilptr  : AV.nilptr.strip = AV.nilptr := rfl
@[go_sem] theorem flat_nilptr  : AV.nilptr.flat = true := rfl
@[go_sem] theorem cells_ptr (i o : Nat) : (AV.ptr i o).cells = [(AV.ptr i o)] := rfl
@[go_sem] theorem one_ptr (i o : Nat) : (AV.ptr i o).one = true := rfl
@[go_sem] theorem strip_ptr (i o : Nat) : (AV.ptr i o).strip = (AV.ptr i o) := rfl
@[go_sem] theorem cells_vptr (cs : List AV) (o : Nat) : (AV.vptr cs o).cells = [(AV.vptr cs o)] := rfl
@[go_sem] theorem one_vptr (cs : List AV) (o : Nat) : (AV.vptr cs o).one = true := rfl
@[go_sem] theorem strip_vptr (cs : List AV) (o : Nat) : (AV.vptr cs o).strip = (AV.vptr cs o) := rfl
@[go_sem] theorem cells_nilslice  : AV.nilslice.cells = [AV.nilslice] := rfl
@[go_sem] theorem one_nilslice  : AV.nilslice.one = true := rfl
@[go_sem] theorem strip_nilslice  : AV.nilslice.strip = AV.nilslice := rfl
@[go_sem] theorem flat_nilslice  : AV.nilslice.flat = true := rfl
@[go_sem] theorem cells_slice (cs : List AV) (n : Nat) (o : Own) : (AV.slice cs n o).cells = [(AV.slice cs n o)] := rfl
@[go_sem] theorem one_slice (cs : List AV) (n : Nat) (o : Own) : (AV.slice cs n o).one = true := rfl
@[go_sem] theorem cells_mslice (i o n : Nat) (c : Option Nat) : (AV.mslice i o n c).cells = [(AV.mslice i o n c)] := rfl
@[go_sem] theorem one_mslice (i o n : Nat) (c : Option Nat) : (AV.mslice i o n c).one = true := rfl
@[go_sem] theorem strip_mslice (i o n : Nat) (c : Option Nat) : (AV.mslice i o n c).strip = (AV.mslice i o n c) := rfl
@[go_sem] theorem cells_nilmap  : AV.nilmap.cells = [AV.nilmap] := rfl
@[go_sem] theorem one_nilmap  : AV.nilmap.one = true := rfl
@[go_sem] theorem strip_nilmap  : AV.nilmap.strip = AV.nilmap := rfl
@[go_sem] theorem flat_nilmap  : AV.nilmap.flat = true := rfl
@[go_sem] theorem cells_map (i : Nat) : (AV.map i).cells = [(AV.map i)] := rfl
@[go_sem] theorem one_map (i : Nat) : (AV.map i).one = true := rfl
@[go_sem] theorem strip_map (i : Nat) : (AV.map i).strip = (AV.map i) := rfl
@[go_sem] theorem cells_nilfunc  : AV.nilfunc.cells = [AV.nilfunc] := rfl
@[go_sem] theorem one_nilfunc  : AV.nilfunc.one = true := rfl
@[go_sem] theorem strip_nilfunc  : AV.nilfunc.strip = AV.nilfunc := rfl
@[go_sem] theorem flat_nilfunc  : AV.nilfunc.flat = true := rfl
@[go_sem] theorem cells_func (f : Nat) (a b : List AV) : (AV.func f a b).cells = [(AV.func f a b)] := rfl
@[go_sem] theorem one_func (f : Nat) (a b : List AV) : (AV.func f a b).one = true := rfl
@[go_sem] theorem strip_func (f : Nat) (a b : List AV) : (AV.func f a b).strip = (AV.func f a b) := rfl
@[go_sem] theorem cells_niliface  : AV.niliface.cells = [AV.niliface] := rfl
@[go_sem] theorem one_niliface  : AV.niliface.one = true := rfl
@[go_sem] theorem strip_niliface  : AV.niliface.strip = AV.niliface := rfl
@[go_sem] theorem flat_niliface  : AV.niliface.flat = true := rfl
@[go_sem] theorem cells_iface (t : Nat) (v : AV) : (AV.iface t v).cells = [(AV.iface t v)] := rfl
@[go_sem] theorem one_iface (t : Nat) (v : AV) : (AV.iface t v).one = true := rfl
@[go_sem] theorem strip_iface (t : Nat) (v : AV) : (AV.iface t v).strip = (AV.iface t v) := rfl
@[go_sem] theorem cells_anyiface  : AV.anyiface.cells = [AV.anyiface] := rfl
@[go_sem] theorem one_anyiface  : AV.anyiface.one = true := rfl
@[go_sem] theorem strip_anyiface  : AV.anyiface.strip = AV.anyiface := rfl
@[go_sem] theorem cells_agg (cs : List AV) : (AV.agg cs).cells = cs := rfl
@[go_sem] theorem strip_agg (cs : List AV) : (AV.agg cs).strip = .agg cs := rfl
@[go_sem] theorem strip_no (cs : List AV) (n : Nat) : (AV.slice cs n .no).strip = .slice cs n .no := rfl
@[go_sem] theorem strip_full (cs : List AV) (n : Nat) : (AV.slice cs n .full).strip = .slice cs n .full := rfl
@[go_sem] theorem strip_tok (cs : List AV) (n k e : Nat) : (AV.slice cs n (.tok k e)).strip = .slice cs n .no := rfl
theorem flat_leave {v : AV} (h : v.flat = true) (n : Nat) : v.drop0 n = v ∧ ∀ p, v.al p = true := by
  cases v <;> simp [AV.flat] at h <;> exact ⟨rfl, fun _ => rfl⟩
theorem LeaveW_flat {s s' : St} {v : AV} (h : v.flat = true) (hl : s.next ≤ s'.low) (K : AV → St → Prop) : LeaveW s s' v K = K v s := by
  obtain ⟨h1, h2⟩ := flat_leave h s.next
  have h3 : v.drop2 s.next = v := by
    cases v <;> simp [AV.flat] at h <;> rfl
  simp only [LeaveW, leave, h3, hl, h2, and_self, if_true]
theorem LeaveW_tuple {s s' : St} {vs : List AV} (h : vs.all AV.flat = true) (hl : s.next ≤ s'.low) (K : AV → St → Prop) : LeaveW s s' (.tuple vs) K = K (.tuple vs) s := by
  have h3 : (AV.tuple vs).drop2 s.next = .tuple vs := by
    simp only [AV.drop2, AV.tuple.injEq]
    conv => rhs; rw [← List.map_id vs]
    refine List.map_congr_left fun v hv => ?_
    have := List.all_eq_true.1 h v hv
    cases v <;> simp [AV.flat] at this <;> rfl
  have h4 : (AV.tuple vs).al (below s.next) = true := by
    simp only [AV.al]
    exact (alAll_iff vs).2 fun v hv => (flat_leave (List.all_eq_true.1 h v hv) 0).2 _
  simp only [LeaveW, leave, h3, hl, h4, and_self, if_true]
theorem LeaveW_agg {s s' : St} {vs : List AV} (h : vs.all AV.flat = true) (hl : s.next ≤ s'.low) (K : AV → St → Prop) : LeaveW s s' (.agg vs) K = K (.agg vs) s := by
  have h3 : (AV.agg vs).drop2 s.next = .agg vs := by
    simp only [AV.drop2, AV.drop1, AV.agg.injEq]
    conv => rhs; rw [← List.map_id vs]
    refine List.map_congr_left fun v hv => ?_
    exact (flat_leave (List.all_eq_true.1 h v hv) _).1
  have h4 : (AV.agg vs).al (below s.next) = true := by
    simp only [AV.al]
    exact (alAll_iff vs).2 fun v hv => (flat_leave (List.all_eq_true.1 h v hv) 0).2 _
  simp only [LeaveW, leave, h3, hl, h4, and_self, if_true]
@[go_sem] theorem LeaveW_bool {s s' : St} (b : Bool) (hl : s.next ≤ s'.low) (K : AV → St → Prop) : LeaveW s s' (.bool b) K = K (.bool b) s := LeaveW_flat rfl hl K
@[go_sem] theorem LeaveW_int {s s' : St} (k : IntKind) (b : Int) (hl : s.next ≤ s'.low) (K : AV → St → Prop) : LeaveW s s' (.int k b) K = K (.int k b) s := LeaveW_flat rfl hl K
@[go_sem] theorem LeaveW_str {s s' : St} (b : List UInt8) (hl : s.next ≤ s'.low) (K : AV → St → Prop) : LeaveW s s' (.str b) K = K (.str b) s := LeaveW_flat rfl hl K
attribute [go_sem] List.getD_cons_succ List.getD_cons_zero List.getD_nil LeaveW_tuple LeaveW_agg Nat.le_refl
end Fw
namespace Fw
open Go
theorem WLoop.rnd {cx : Cx} {b c : ICode} {e : FE} {s : St} {Q : Sig → FE → St → Prop} (hc : b = c) (h : W cx c e s fun g e s => sqn g (WLoop cx b e s Q) (Q g e s)) : WLoop cx b e s Q := by
  subst hc; exact WLoop.round h
theorem wrap_i64 {x : Int} (h : -9223372036854775808 ≤ x) (h2 : x ≤ 9223372036854775807) : IntKind.i64.wrap x = x := by
  show (if true && decide (x % (2 ^ 64 : Int) ≥ (2 ^ 63 : Int)) then x % (2 ^ 64 : Int) - (2 ^ 64 : Int) else x % (2 ^ 64 : Int)) = x

  simp only [Bool.true_and, decide_eq_true_eq]
  split <;> omega
theorem CallW.fn' {cx : Cx} {f nt : Nat} {rs : List IRes} {fn : IFunc} {c : ICode} {args : List AV} {s : St} {K : AV → St → Prop} (hx : cx.ext f = none) (hf : cx.fns f = some fn) (hd : dstOk fn.ntmps fn.body = true) (hc : fn = ⟨nt, rs, c⟩)
    (h : W cx c (argsE args) { s with low := s.next } (RetW s rs K)) (hm : cx.mode f = .plain := by rfl) : CallW cx f args s K := by
  subst hc; exact CallW.fn hx hf hd h hm
end Fw

/- operations in a region that draws its order -/
namespace Fw
open Go
section
variable {cx : Cx} {e : FE} {s : St} (K : AV → St → Option Deed → Prop)
@[go_sem ↓] theorem WDeed_mov (x : IX) : WDeed cx e s (.mov x) K = WOp cx e s (.mov x) fun v _ => K v s none := rfl
@[go_sem ↓] theorem WDeed_pick (c a b : IX) : WDeed cx e s (.pick c a b) K = WOp cx e s (.pick c a b) fun v _ => K v s none := rfl
@[go_sem ↓] theorem WDeed_build (z : List AV) (ps : List (Nat × Nat × IX)) : WDeed cx e s (.build z ps) K = WOp cx e s (.build z ps) fun v _ => K v s none := rfl
@[go_sem ↓] theorem WDeed_bslice (z : List AV) (l : Nat) (ps : List (Nat × Nat × IX)) : WDeed cx e s (.bslice z l ps) K = WOp cx e s (.bslice z l ps) fun v _ => K v s none := rfl
@[go_sem ↓] theorem WDeed_nilChk (x : IX) : WDeed cx e s (.nilChk x) K = WOp cx e s (.nilChk x) fun v _ => K v s none := rfl
@[go_sem ↓] theorem WDeed_bin (op : BinOp) (x y : IX) : WDeed cx e s (.bin op x y) K = WOp cx e s (.bin op x y) fun v _ => K v s none := rfl
@[go_sem ↓] theorem WDeed_eqv (n : Bool) (q : EqK) (x y : IX) : WDeed cx e s (.eqv n q x y) K = WOp cx e s (.eqv n q x y) fun v _ => K v s none := rfl
@[go_sem ↓] theorem WDeed_un (op : UnOp) (x : IX) : WDeed cx e s (.un op x) K = WOp cx e s (.un op x) fun v _ => K v s none := rfl
@[go_sem ↓] theorem WDeed_i2i (k : IntKind) (x : IX) : WDeed cx e s (.i2i k x) K = WOp cx e s (.i2i k x) fun v _ => K v s none := rfl
@[go_sem ↓] theorem WDeed_same (x : IX) : WDeed cx e s (.same x) K = WOp cx e s (.same x) fun v _ => K v s none := rfl
@[go_sem ↓] theorem WDeed_i2s (x : IX) : WDeed cx e s (.i2s x) K = WOp cx e s (.i2s x) fun v _ => K v s none := rfl
@[go_sem ↓] theorem WDeed_slcs (x : IX) (lo hi : Option IX) : WDeed cx e s (.slcs x lo hi) K = WOp cx e s (.slcs x lo hi) fun v _ => K v s none := rfl
@[go_sem ↓] theorem WDeed_slc (z : Nat) (x : IX) (lo hi m : Option IX) : WDeed cx e s (.slc z x lo hi m) K = WOp cx e s (.slc z x lo hi m) fun v _ => K v s none := rfl
@[go_sem ↓] theorem WDeed_slca (z n : Nat) (x : IX) (lo hi m : Option IX) : WDeed cx e s (.slca z n x lo hi m) K = WOp cx e s (.slca z n x lo hi m) fun v _ => K v s none := rfl
@[go_sem ↓] theorem WDeed_faddr (o : Nat) (x : IX) : WDeed cx e s (.faddr o x) K = WOp cx e s (.faddr o x) fun v _ => K v s none := rfl
@[go_sem ↓] theorem WDeed_fld (o n : Nat) (g : Bool) (x : IX) : WDeed cx e s (.fld o n g x) K = WOp cx e s (.fld o n g x) fun v _ => K v s none := rfl
@[go_sem ↓] theorem WDeed_iaddr (z : Nat) (arr : Option Nat) (x i : IX) : WDeed cx e s (.iaddr z arr x i) K = WOp cx e s (.iaddr z arr x i) fun v _ => K v s none := rfl
@[go_sem ↓] theorem WDeed_idx (z : Nat) (g : Bool) (arr : Option Nat) (x i : IX) : WDeed cx e s (.idx z g arr x i) K = WOp cx e s (.idx z g arr x i) fun v _ => K v s none := rfl
@[go_sem ↓] theorem WDeed_mkif (t : Nat) (x : IX) : WDeed cx e s (.mkif t x) K = WOp cx e s (.mkif t x) fun v _ => K v s none := rfl
@[go_sem ↓] theorem WDeed_mkfn (f : Nat) (a b : List IX) : WDeed cx e s (.mkfn f a b) K = WOp cx e s (.mkfn f a b) fun v _ => K v s none := rfl
@[go_sem ↓] theorem WDeed_extr (x : IX) (i : Nat) : WDeed cx e s (.extr x i) K = WOp cx e s (.extr x i) fun v _ => K v s none := rfl
@[go_sem ↓] theorem WDeed_mn (xs : List IX) : WDeed cx e s (.mn xs) K = WOp cx e s (.mn xs) fun v _ => K v s none := rfl
@[go_sem ↓] theorem WDeed_mx (xs : List IX) : WDeed cx e s (.mx xs) K = WOp cx e s (.mx xs) fun v _ => K v s none := rfl
@[go_sem ↓] theorem WDeed_lens (x : IX) : WDeed cx e s (.lens x) K = WOp cx e s (.lens x) fun v _ => K v s none := rfl
@[go_sem ↓] theorem WDeed_lenv (x : IX) : WDeed cx e s (.lenv x) K = WOp cx e s (.lenv x) fun v _ => K v s none := rfl
@[go_sem ↓] theorem WDeed_alloc (t : TypeId) (z : List AV) : WDeed cx e s (.alloc t z) K = WOp cx e s (.alloc t z) fun v s' => K v s' (some (.lay s.next)) := rfl
@[go_sem ↓] theorem WDeed_box (t : TypeId) (x : IX) : WDeed cx e s (.box t x) K = WOp cx e s (.box t x) fun v s' => K v s' (some (.lay s.next)) := rfl
@[go_sem ↓] theorem WDeed_b2s (x : IX) : WDeed cx e s (.b2s x) K = WOp cx e { heap := s.heap, next := s.next, low := s.next } (.b2s x) fun v s' => pifN (decide (s'.next = s.next ∧ s'.low = s.next)) (K v s (some .rdAll)) (K v { heap := s'.heap, next := s'.next, low := min s.low s'.low } (some (.wrAll fun j => Fw.look j s'.heap ≠ Fw.look j s.heap))) := rfl
@[go_sem ↓] theorem WDeed_s2b (x : IX) : WDeed cx e s (.s2b x) K = WOp cx e { heap := s.heap, next := s.next, low := s.next } (.s2b x) fun v s' => pifN (decide (s'.next = s.next ∧ s'.low = s.next)) (K v s (some .rdAll)) (K v { heap := s'.heap, next := s'.next, low := min s.low s'.low } (some (.wrAll fun j => Fw.look j s'.heap ≠ Fw.look j s.heap))) := rfl
@[go_sem ↓] theorem WDeed_look (kk : CK) (z : AV) (ok : Bool) (m k : IX) : WDeed cx e s (.look kk z ok m k) K = WOp cx e { heap := s.heap, next := s.next, low := s.next } (.look kk z ok m k) fun v s' => pifN (decide (s'.next = s.next ∧ s'.low = s.next)) (K v s (some .rdAll)) (K v { heap := s'.heap, next := s'.next, low := min s.low s'.low } (some (.wrAll fun j => Fw.look j s'.heap ≠ Fw.look j s.heap))) := rfl
@[go_sem ↓] theorem WDeed_mupd (kk : CK) (m k v : IX) : WDeed cx e s (.mupd kk m k v) K = WOp cx e { heap := s.heap, next := s.next, low := s.next } (.mupd kk m k v) fun v s' => pifN (decide (s'.next = s.next ∧ s'.low = s.next)) (K v s (some .rdAll)) (K v { heap := s'.heap, next := s'.next, low := min s.low s'.low } (some (.wrAll fun j => Fw.look j s'.heap ≠ Fw.look j s.heap))) := rfl
@[go_sem ↓] theorem WDeed_mkmap  : WDeed cx e s .mkmap K = WOp cx e { heap := s.heap, next := s.next, low := s.next } .mkmap fun v s' => pifN (decide (s'.next = s.next ∧ s'.low = s.next)) (K v s (some .rdAll)) (K v { heap := s'.heap, next := s'.next, low := min s.low s'.low } (some (.wrAll fun j => Fw.look j s'.heap ≠ Fw.look j s.heap))) := rfl
@[go_sem ↓] theorem WDeed_mkslice (y : Nat) (z : List AV) (l c : IX) : WDeed cx e s (.mkslice y z l c) K = WOp cx e s (.mkslice y z l c) fun v s' => K v s' (some (.lay s.next)) := rfl
@[go_sem ↓] theorem WDeed_lenm (x : IX) : WDeed cx e s (.lenm x) K = WOp cx e { heap := s.heap, next := s.next, low := s.next } (.lenm x) fun v s' => pifN (decide (s'.next = s.next ∧ s'.low = s.next)) (K v s (some .rdAll)) (K v { heap := s'.heap, next := s'.next, low := min s.low s'.low } (some (.wrAll fun j => Fw.look j s'.heap ≠ Fw.look j s.heap))) := rfl
@[go_sem ↓] theorem WDeed_app (ty z y : Nat) (a b : IX) : WDeed cx e s (.app ty z y a b) K = WOp cx e { heap := s.heap, next := s.next, low := s.next } (.app ty z y a b) fun v s' => pifN (decide (s'.next = s.next ∧ s'.low = s.next)) (K v s (some .rdAll)) (K v { heap := s'.heap, next := s'.next, low := min s.low s'.low } (some (.wrAll fun j => Fw.look j s'.heap ≠ Fw.look j s.heap))) := rfl
@[go_sem ↓] theorem WDeed_copy (z : Nat) (a b : IX) : WDeed cx e s (.copy z a b) K = WOp cx e { heap := s.heap, next := s.next, low := s.next } (.copy z a b) fun v s' => pifN (decide (s'.next = s.next ∧ s'.low = s.next)) (K v s (some .rdAll)) (K v { heap := s'.heap, next := s'.next, low := min s.low s'.low } (some (.wrAll fun j => Fw.look j s'.heap ≠ Fw.look j s.heap))) := rfl
@[go_sem ↓] theorem WDeed_clr (z : List AV) (a : IX) : WDeed cx e s (.clr z a) K = WOp cx e { heap := s.heap, next := s.next, low := s.next } (.clr z a) fun v s' => pifN (decide (s'.next = s.next ∧ s'.low = s.next)) (K v s (some .rdAll)) (K v { heap := s'.heap, next := s'.next, low := min s.low s'.low } (some (.wrAll fun j => Fw.look j s'.heap ≠ Fw.look j s.heap))) := rfl
@[go_sem ↓] theorem WDeed_call (f : IX) (xs : List IX) : WDeed cx e s (.call f xs) K = WOp cx e { heap := s.heap, next := s.next, low := s.next } (.call f xs) fun v s' => pifN (decide (s'.next = s.next ∧ s'.low = s.next)) (K v s (some .rdAll)) (K v { heap := s'.heap, next := s'.next, low := min s.low s'.low } (some (.wrAll fun j => Fw.look j s'.heap ≠ Fw.look j s.heap))) := rfl
@[go_sem ↓] theorem WDeed_load (g : Bool) (n : Nat) (a : IX) : WDeed cx e s (.load g n a) K = oget (a.evF cx e) fun a => oget (loadA s g n a) fun v => K v s (deedOf a) := rfl
@[go_sem ↓] theorem WDeed_store (n : Nat) (a x : IX) : WDeed cx e s (.store n a x) K = oget (a.evF cx e) fun a => oget (x.evF cx e) fun x => oget (storeA s n a x) fun s => K AV.undef s (some (deedW a)) := rfl
end
@[go_sem] theorem deedOf_ptr (i o : Nat) : deedOf (.ptr i o) = some (.rd i) := rfl
@[go_sem] theorem deedOf_vptr (cs : List AV) (o : Nat) : deedOf (.vptr cs o) = none := rfl
@[go_sem] theorem deedW_ptr (i o : Nat) : deedW (.ptr i o) = .wr i := rfl
@[go_sem] theorem freeAll_nil (m : Nat) (d : Deed) : freeAll m d [] = true := rfl
@[go_sem] theorem freeAll_cons (m : Nat) (d : Deed) (j : Nat) (e : Deed) (ds : List (Nat × Deed)) : freeAll m d ((j, e) :: ds) = ((m.testBit j || e.free d) && freeAll m d ds) := rfl
@[go_sem] theorem free_rd_rd (i j : Nat) : (Deed.rd i).free (.rd j) = true := rfl
@[go_sem] theorem free_rd_all (i : Nat) : (Deed.rd i).free .rdAll = true := rfl
@[go_sem] theorem free_all_rd (i : Nat) : Deed.rdAll.free (.rd i) = true := rfl
@[go_sem] theorem free_all_all : Deed.rdAll.free .rdAll = true := rfl
@[go_sem] theorem free_rd_lay (i j : Nat) : (Deed.rd i).free (.lay j) = true := rfl
@[go_sem] theorem free_wr_lay (i j : Nat) : (Deed.wr i).free (.lay j) = true := rfl
@[go_sem] theorem free_lay_lay (i j : Nat) : (Deed.lay i).free (.lay j) = true := rfl
@[go_sem] theorem free_rda_lay (j : Nat) : Deed.rdAll.free (.lay j) = true := rfl
@[go_sem] theorem free_wra_lay (p : Nat → Prop) (j : Nat) : (Deed.wrAll p).free (.lay j) = true := rfl
@[go_sem] theorem free_lay_rd (i j : Nat) : (Deed.lay i).free (.rd j) = decide (i ≠ j) := rfl
@[go_sem] theorem free_lay_wr (i j : Nat) : (Deed.lay i).free (.wr j) = decide (i ≠ j) := rfl
@[go_sem] theorem free_rd_wr (i j : Nat) : (Deed.rd i).free (.wr j) = decide (i ≠ j) := rfl
@[go_sem] theorem free_wr_rd (i j : Nat) : (Deed.wr i).free (.rd j) = decide (i ≠ j) := rfl
@[go_sem] theorem free_wr_wr (i j : Nat) : (Deed.wr i).free (.wr j) = decide (i ≠ j) := rfl
@[go_sem] theorem free_wra_rd (a b : Nat → Option AObj) (j : Nat) : (Deed.wrAll fun j => a j ≠ b j).free (.rd j) = @decide (a j = b j) (Classical.propDecidable _) := by simp [Deed.free]
@[go_sem] theorem free_rd_wra (a b : Nat → Option AObj) (j : Nat) : (Deed.rd j).free (.wrAll fun j => a j ≠ b j) = @decide (a j = b j) (Classical.propDecidable _) := by simp [Deed.free]
@[go_sem] theorem free_wra_wra (p q : Nat → Prop) : (Deed.wrAll p).free (.wrAll q) = false := rfl
@[go_sem] theorem free_lay_wra (i : Nat) (q : Nat → Prop) : (Deed.lay i).free (.wrAll q) = false := rfl
@[go_sem] theorem free_wra_rda (p : Nat → Prop) : (Deed.wrAll p).free .rdAll = false := rfl
@[go_sem] theorem free_lay_rda (i : Nat) : (Deed.lay i).free .rdAll = false := rfl
@[go_sem] theorem free_wr_rda (i : Nat) : (Deed.wr i).free .rdAll = false := rfl
@[go_sem] theorem tb_zero (m : Nat) : m.testBit 0 = decide (m % 2 = 1) := Nat.testBit_zero m
@[go_sem] theorem tb_succ (m j : Nat) : m.testBit (j + 1) = (m / 2).testBit j := Nat.testBit_succ m j
end Fw

namespace Fw
open Go
theorem oget_iaddr_slice (z : Nat) (cs : List AV) (n : Nat) (o : Own) (i : Int) (K : AV → Prop) : oget (iaddrA z none (.slice cs n o) i) K = ((0 ≤ i ∧ i < n) ∧ K (.vptr cs (i.toNat * z))) := by
  simp only [iaddrA]
  by_cases h : 0 ≤ i ∧ i < n
  · rw [if_pos h]; simp [oget, h]
  · rw [if_neg h]; simp [oget, h]
theorem oget_iaddr_mslice (z id o n : Nat) (c : Option Nat) (i : Int) (K : AV → Prop) : oget (iaddrA z none (.mslice id o n c) i) K = ((0 ≤ i ∧ i < n) ∧ K (.ptr id (o + i.toNat * z))) := by
  simp only [iaddrA]
  by_cases h : 0 ≤ i ∧ i < n
  · rw [if_pos h]; simp [oget, h]
  · rw [if_neg h]; simp [oget, h]
attribute [go_sem ↓] oget_iaddr_slice oget_iaddr_mslice
theorem sub_one {cs : List AV} {i : Nat} (h : i < cs.length) : sub cs i 1 = some [cs.getD i AV.undef] := by
  unfold sub
  rw [if_pos (by omega), List.drop_eq_getElem_cons h, List.take_succ_cons, List.take_zero]
  simp [List.getD, h]
@[go_sem] theorem Nat_mul_one (n : Nat) : n * 1 = n := Nat.mul_one n
end Fw

namespace Fw
open Go
@[go_sem] theorem next_ne (n k : Nat) : (n + k = n) = (k = 0) := by simp
@[go_sem] theorem ne_next (n k : Nat) : (n = n + k) = (k = 0) := by simp
@[go_sem] theorem next_add (n a b : Nat) : n + a + b = n + (a + b) := Nat.add_assoc n a b
end Fw

attribute [go_sem] List.getElem?_cons_zero List.getElem?_cons_succ Option.getD_some Option.getD_none Option.isSome_some Option.isSome_none Nat.add_lt_add_iff_left Nat.lt_add_right_iff_pos

namespace Fw
open Go
theorem LeaveW_new {s s' : St} {v : AV} (hd : v.drop2 s.next = v) (ha : v.al (below s.next) = false) (K : AV → St → Prop) : LeaveW s s' v K = K v { heap := s'.heap, next := s'.next, low := min s.low s'.low } := by
  simp only [LeaveW, leave, hd, ha, Bool.false_eq_true, and_false, if_false]
end Fw

namespace Fw
open Go
@[go_sem] theorem fold1_cons (f : AV → AV → Option AV) (v : AV) (vs : List AV) : fold1 f (v :: vs) = fold2 f v vs := rfl
@[go_sem] theorem fold2_nil (f : AV → AV → Option AV) (v : AV) : fold2 f v [] = some v := rfl
@[go_sem] theorem fold2_cons (f : AV → AV → Option AV) (v b : AV) (bs : List AV) : fold2 f v (b :: bs) = (f v b).bind fun c => fold2 f c bs := rfl
@[go_sem] theorem max2_int (k k' : IntKind) (x y : Int) : max2 (.int k x) (.int k' y) = some (.int k (max x y)) := by
  simp only [max2]; congr 2; split <;> omega
@[go_sem] theorem min2_int (k k' : IntKind) (x y : Int) : min2 (.int k x) (.int k' y) = some (.int k (min x y)) := by
  simp only [min2]; congr 2; split <;> omega
end Fw

namespace Fw
open Go
def AV.flat1 : AV → Bool
  | .agg cs => cs.all AV.flat
  | v => v.flat
@[go_sem] theorem flat1_agg (cs : List AV) : (AV.agg cs).flat1 = cs.all AV.flat := rfl
@[go_sem] theorem flat1_bool (b : Bool) : (AV.bool b).flat1 = true := rfl
@[go_sem] theorem flat1_int (k : IntKind) (n : Int) : (AV.int k n).flat1 = true := rfl
@[go_sem] theorem flat1_str (b : List UInt8) : (AV.str b).flat1 = true := rfl
@[go_sem] theorem flat1_nilslice : AV.nilslice.flat1 = true := rfl
theorem flat1_leave {v : AV} (h : v.flat1 = true) (n : Nat) : v.drop1 n = v ∧ ∀ p, v.al p = true := by
  by_cases ha : ∃ cs, v = .agg cs
  · obtain ⟨cs, rfl⟩ := ha
    have h1 : ∀ x ∈ cs, x.flat = true := List.all_eq_true.1 h
    refine ⟨?_, fun p => (alAll_iff cs).2 fun x hx => (flat_leave (h1 x hx) 0).2 p⟩
    simp only [AV.drop1, AV.agg.injEq]
    conv => rhs; rw [← List.map_id cs]
    exact List.map_congr_left fun x hx => (flat_leave (h1 x hx) n).1
  · have h1 : v.flat = true := by
      cases v <;> first | exact absurd ⟨_, rfl⟩ ha | exact h
    obtain ⟨h2, h3⟩ := flat_leave h1 n
    refine ⟨?_, h3⟩
    cases v <;> first | exact absurd ⟨_, rfl⟩ ha | exact h2
@[go_sem] theorem LeaveW_tuple2 {s s' : St} {vs : List AV} (h : vs.all AV.flat1 = true) (hl : s.next ≤ s'.low) (K : AV → St → Prop) : LeaveW s s' (.tuple vs) K = K (.tuple vs) s := by
  have h3 : (AV.tuple vs).drop2 s.next = .tuple vs := by
    simp only [AV.drop2, AV.tuple.injEq]
    conv => rhs; rw [← List.map_id vs]
    exact List.map_congr_left fun v hv => (flat1_leave (List.all_eq_true.1 h v hv) _).1
  have h4 : (AV.tuple vs).al (below s.next) = true := by
    simp only [AV.al]
    exact (alAll_iff vs).2 fun v hv => (flat1_leave (List.all_eq_true.1 h v hv) 0).2 _
  simp only [LeaveW, leave, h3, hl, h4, and_self, if_true]
@[go_sem] theorem eq_agg (ks : List CK) (a b : List AV) : evEq (.agg ks) (.agg a) (.agg b) = cellsEq ks a b := rfl
@[go_sem] theorem cellsEq_nil : cellsEq [] [] [] = some true := rfl
@[go_sem] theorem cellsEq_int (ks : List CK) (k : IntKind) (a b : Int) (us vs : List AV) (h1 : us.length = ks.length) (h2 : vs.length = ks.length) : cellsEq (.int :: ks) (.int k a :: us) (.int k b :: vs) = if a = b then cellsEq ks us vs else some false := by
  simp only [cellsEq, cellEqK, if_true, h1, h2, and_self]
  by_cases h : a = b
  · subst h; simp
  · have h' : (a == b) = false := by simpa using h
    rw [h', if_neg h]
@[go_sem] theorem cellsEq_str (ks : List CK) (a b : List UInt8) (us vs : List AV) (h1 : us.length = ks.length) (h2 : vs.length = ks.length) : cellsEq (.str :: ks) (.str a :: us) (.str b :: vs) = if a = b then cellsEq ks us vs else some false := by
  simp only [cellsEq, cellEqK, if_true, h1, h2, and_self]
  by_cases h : a = b
  · subst h; simp
  · have h' : (a == b) = false := by simpa using h
    rw [h', if_neg h]
@[go_sem] theorem cellsEq_bool (ks : List CK) (a b : Bool) (us vs : List AV) (h1 : us.length = ks.length) (h2 : vs.length = ks.length) : cellsEq (.bool :: ks) (.bool a :: us) (.bool b :: vs) = if a = b then cellsEq ks us vs else some false := by
  simp only [cellsEq, cellEqK, if_true, h1, h2, and_self]
  by_cases h : a = b
  · subst h; simp
  · have h' : (a == b) = false := by simpa using h
    rw [h', if_neg h]
end Fw

namespace Fw
open Go
@[go_sem] theorem fillF_nil (cx : Cx) (e : FE) (cells : List AV) : fillF cx e cells [] = some cells := rfl
@[go_sem] theorem fillF_cons (cx : Cx) (e : FE) (cells : List AV) (off n : Nat) (x : IX) (ps : List (Nat × Nat × IX)) : fillF cx e cells ((off, n, x) :: ps) =
    (x.evF cx e).bind fun v => if v.cells.length = n then (patch cells off v.cells).bind fun cs => fillF cx e cs ps else none := rfl
end Fw


/- A piece of code keeps the temporaries that it does not write. -/
namespace Fw
open Go
def dstL (o : IOper) : List Nat := match o.dst with
  | some d => [d]
  | none => []
/-- The temporaries that a piece of code may write. -/
def wrs : ICode → List Nat
  | .region os => os.flatMap dstL
  | .dregion os => os.flatMap fun p => dstL p.1
  | .seq a b => wrs a ++ wrs b
  | .cond _ a b => wrs a ++ wrs b
  | .block _ b => wrs b
  | .loop b => wrs b
  | .scope b => wrs b
  | _ => []
theorem put_keep {ρ : Env} {d : Option Nat} {v : AV} {t : Nat} (h : d ≠ some t) : (ρ.put d v).get t = ρ.get t := by
  cases d with
  | none => rfl
  | some d =>
    have : d ≠ t := fun e => h (by rw [e])
    simp [Env.put, Env.get, List.getD, List.getElem?_set, this]
theorem dst_of {o : IOper} {t : Nat} (h : t ∉ dstL o) : o.dst ≠ some t := by
  intro e; apply h; unfold dstL; rw [e]; simp
theorem evOper_keep {cx : Cx} {cl : Callee} {o : IOper} {ρ ρ' : Env} {s s' : St} (h : evOper cx cl o ρ s = some (ρ', s')) {t : Nat} (ht : t ∉ dstL o) : ρ'.get t = ρ.get t := by
  unfold evOper at h
  split at h
  · simp only [Option.map_eq_some_iff] at h
    obtain ⟨⟨v, s1⟩, _, h⟩ := h
    cases h; exact put_keep (dst_of ht)
  · cases h; exact put_keep (dst_of ht)
theorem evOps_keep {cx : Cx} {cl : Callee} {t : Nat} : ∀ (os : List IOper) {ρ ρ' : Env} {s s' : St}, evOps cx cl os ρ s = some (ρ', s') → t ∉ os.flatMap dstL → ρ'.get t = ρ.get t
  | [], ρ, ρ', s, s', h, _ => by cases h; rfl
  | o :: os, ρ, ρ', s, s', h, ht => by
    simp only [evOps] at h
    rw [Option.bind_eq_some_iff] at h
    obtain ⟨⟨ρ1, s1⟩, h1, h2⟩ := h
    simp only [List.flatMap_cons, List.mem_append, not_or] at ht
    rw [evOps_keep os h2 ht.2, evOper_keep h1 ht.1]
theorem evDraw_keep {cx : Cx} {cl : Callee} {t : Nat} : ∀ (os : List (IOper × Nat)) {i : Nat} {ds : List (Nat × Deed)} {ρ ρ' : Env} {s s' : St}, evDraw cx cl os i ds ρ s = some (ρ', s') → t ∉ os.flatMap (fun p => dstL p.1) → ρ'.get t = ρ.get t
  | [], i, ds, ρ, ρ', s, s', h, _ => by cases h; rfl
  | (o, m) :: os, i, ds, ρ, ρ', s, s', h, ht => by
    simp only [List.flatMap_cons, List.mem_append, not_or] at ht
    simp only [evDraw] at h
    split at h
    · rw [Option.bind_eq_some_iff] at h
      obtain ⟨⟨v, s1, d⟩, h1, h2⟩ := h
      cases d with
      | none => rw [evDraw_keep os h2 ht.2, put_keep (dst_of ht.1)]
      | some d =>
        dsimp only at h2
        split at h2
        · rw [evDraw_keep os h2 ht.2, put_keep (dst_of ht.1)]
        · cases h2
    · rw [evDraw_keep os h ht.2, put_keep (dst_of ht.1)]
theorem exec_keep {cx : Cx} {t : Nat} : ∀ (k : Nat) (c : ICode) {ρ ρ' : Env} {s s' : St} {g : Sig}, exec cx k c ρ s = some (g, ρ', s') → t ∉ wrs c → ρ'.get t = ρ.get t
  | 0, c, ρ, ρ', s, s', g, h, _ => by simp [exec] at h
  | k + 1, c, ρ, ρ', s, s', g, h, ht => by
    cases c with
    | skip => simp only [exec] at h; cases h; rfl
    | region os =>
      simp only [exec, Option.map_eq_some_iff] at h
      obtain ⟨⟨ρ1, s1⟩, h1, h⟩ := h
      cases h; exact evOps_keep os h1 ht
    | dregion os =>
      simp only [exec, Option.map_eq_some_iff] at h
      obtain ⟨⟨ρ1, s1⟩, h1, h⟩ := h
      cases h; exact evDraw_keep os h1 ht
    | seq a b =>
      simp only [wrs, List.mem_append, not_or] at ht
      simp only [exec] at h
      rw [Option.bind_eq_some_iff] at h
      obtain ⟨⟨g1, ρ1, s1⟩, h1, h⟩ := h
      have a1 := exec_keep k a h1 ht.1
      cases g1 with
      | normal => rw [exec_keep k b h ht.2, a1]
      | exit i => cases h; exact a1
      | ret => cases h; exact a1
    | cond x a b =>
      simp only [wrs, List.mem_append, not_or] at ht
      simp only [exec] at h
      split at h
      · rename_i tt _
        cases tt
        · exact exec_keep k b h ht.2
        · exact exec_keep k a h ht.1
      · cases h
    | block id b =>
      simp only [exec, Option.map_eq_some_iff] at h
      obtain ⟨⟨g1, ρ1, s1⟩, h1, h⟩ := h
      cases h; exact exec_keep k b h1 ht
    | loop b =>
      simp only [exec] at h
      rw [Option.bind_eq_some_iff] at h
      obtain ⟨⟨g1, ρ1, s1⟩, h1, h⟩ := h
      have a1 := exec_keep k b h1 ht
      cases g1 with
      | normal => rw [exec_keep k (.loop b) h ht, a1]
      | exit i => cases h; exact a1
      | ret => cases h; exact a1
    | exit i => simp only [exec] at h; cases h; rfl
    | scope b => simp only [exec] at h; exact exec_keep k b h ht
    | ret => simp only [exec] at h; cases h; rfl
/-- What follows a loop may lean on all that the loop does not write. -/
theorem WLoop.keep {cx : Cx} {b : ICode} {e : FE} {s : St} {Q : Sig → FE → St → Prop} (h : WLoop cx b e s fun g e' s' => (∀ t, t ∉ wrs b → e' t = e t) → Q g e' s') : WLoop cx b e s Q := by
  intro n hd ρ hF
  obtain ⟨k, g, ρ', s', h1, e', h2, h3⟩ := h n hd ρ hF
  refine ⟨k, g, ρ', s', h1, e', h2, h3 fun t ht => ?_⟩
  rw [← h2.2 t, ← hF.2 t]
  exact exec_keep k (.loop b) h1 ht
end Fw


/- Slices that grow. -/
namespace Fw
open Go
/-- The token that a slice owns. -/
def tokOf : AV → Option Nat
  | .slice _ _ (.tok t _) => some t
  | _ => none
/-- A slice (of n elements of esz cells) to which can be appended. -/
def Gr (ty : TypeId) (esz : Nat) (st : St) (v : AV) (cs : List AV) (n : Nat) : Prop :=
  (v = .nilslice ∧ cs = [] ∧ n = 0) ∨ (v = .slice cs n .full ∧ cs.length = n * esz) ∨
  (∃ t, v = .slice cs n (.tok t n) ∧ cs.length = n * esz ∧ t < st.next ∧ look t st.heap = some (.tok ty n esz))
/-- Another state in which all that P names is as it was. -/
def Keeps (p : Nat → Prop) (st st' : St) : Prop := st.next ≤ st'.next ∧ ∀ i, i < st.next → p i → look i st'.heap = look i st.heap
theorem Keeps.refl (p : Nat → Prop) (st : St) : Keeps p st st := ⟨Nat.le_refl _, fun _ _ _ => rfl⟩
theorem Keeps.trans {p : Nat → Prop} {a b c : St} (h : Keeps p a b) (h2 : Keeps p b c) : Keeps p a c :=
  ⟨Nat.le_trans h.1 h2.1, fun i hi hp => by rw [h2.2 i (Nat.lt_of_lt_of_le hi h.1) hp, h.2 i hi hp]⟩
theorem Keeps.mono {p q : Nat → Prop} {a b : St} (h : Keeps p a b) (hq : ∀ i, q i → p i) : Keeps q a b := ⟨h.1, fun i hi hp => h.2 i hi (hq i hp)⟩
theorem Gr.keep {ty esz : Nat} {st st' : St} {v : AV} {cs : List AV} {n : Nat} (h : Gr ty esz st v cs n) (hk : Keeps (fun i => tokOf v = some i) st st') : Gr ty esz st' v cs n := by
  rcases h with h | h | ⟨t, rfl, h2, h3, h4⟩
  · exact .inl h
  · exact .inr (.inl h)
  · exact .inr (.inr ⟨t, rfl, h2, Nat.lt_of_lt_of_le h3 hk.1, by rw [hk.2 t h3 rfl]; exact h4⟩)
theorem Gr.length {ty esz : Nat} {st : St} {v : AV} {cs : List AV} {n : Nat} (h : Gr ty esz st v cs n) : cs.length = n * esz := by
  rcases h with ⟨rfl, rfl, rfl⟩ | ⟨rfl, h⟩ | ⟨t', rfl, h2, h3, h4⟩
  · simp
  · exact h
  · exact h2
theorem Gr.nil {ty esz : Nat} {st : St} : Gr ty esz st .nilslice [] 0 := .inl ⟨rfl, rfl, rfl⟩
theorem Gr.full {ty esz : Nat} {st : St} {cs : List AV} {n : Nat} (h : cs.length = n * esz) : Gr ty esz st (.slice cs n .full) cs n := .inr (.inl ⟨rfl, h⟩)
theorem Gr.lenv {ty esz : Nat} {st : St} {v : AV} {cs : List AV} {n : Nat} (h : Gr ty esz st v cs n) : lenvA v = some (.int .i64 (n : Int)) := by
  rcases h with ⟨rfl, rfl, rfl⟩ | ⟨rfl, h⟩ | ⟨t', rfl, h2, h3, h4⟩ <;> rfl
theorem look_put_ne {i j : Nat} {b : AObj} (hij : i ≠ j) : ∀ {h : List (Nat × AObj)}, look i (put j b h) = look i h
  | [] => rfl
  | (k, p) :: h => by
    simp only [put, look]
    by_cases hk : k = j
    · have hki : ¬ k = i := by omega
      rw [if_pos hk]; simp only [look]
      rw [if_neg hki, if_neg hki]
    · rw [if_neg hk]; simp only [look]
      rw [look_put_ne hij (h := h)]
theorem look_put_self {i : Nat} {a b : AObj} : ∀ {h : List (Nat × AObj)}, look i h = some a → look i (put i b h) = some b
  | [], h => by simp [look] at h
  | (j, p) :: h, hh => by
    simp only [look, put] at hh ⊢
    by_cases hj : j = i
    · simp only [hj, if_true, look]
    · simp only [hj, if_false, look] at hh ⊢; exact look_put_self hh
/-- What is appended: the cells of a slice of m elements. -/
theorem Gr.app {ty esz bytes : Nat} {st : St} {v y : AV} {cs new : List AV} {n m : Nat} (h : Gr ty esz st v cs n) (hy : cellsOf st esz y = some new) (hc : y.count = some m) (hone : new.all AV.one = true) (hl : new.length = m * esz)
    (hr : (n + m) * bytes ≤ room) : ∃ v' st', appendA st ty esz bytes v y = some (v', st') ∧ Gr ty esz st' v' (cs ++ new.map AV.strip) (n + m) ∧ Keeps (fun i => tokOf v ≠ some i) st st' ∧
      (∀ t, tokOf v' = some t → tokOf v = some t ∨ st.next ≤ t) ∧ (∀ L, L ≤ st.low → (∀ t, tokOf v = some t → L ≤ t) → L ≤ st'.low) ∧ st'.low ≤ st.low ∧ (m ≠ 0 → ∀ t, tokOf v = some t → st'.low ≤ t) := by
  unfold appendA
  rw [hy, hc]
  simp only [hone, Bool.true_eq_false, if_false]
  by_cases hm : m = 0
  · subst hm
    have : new = [] := List.eq_nil_of_length_eq_zero (by omega)
    subst this
    refine ⟨v, st, ?_, by simpa using h, Keeps.refl _ _, fun t ht => .inl ht, fun L h1 _ => h1, Nat.le_refl _, fun h => absurd rfl h⟩
    rcases h with ⟨rfl, rfl, rfl⟩ | ⟨rfl, h⟩ | ⟨t', rfl, h2, h3, h4⟩
    · simp
    · simp [h]
    · simp [h2]
  · rcases h with ⟨rfl, rfl, rfl⟩ | ⟨rfl, h⟩ | ⟨t, rfl, h2, h3, h4⟩
    · rw [Nat.zero_add] at hr
      refine ⟨.slice (new.map AV.strip) m (.tok st.next m), st.new (.tok ty m esz), ?_, ?_, ⟨Nat.le_succ _, fun i hi _ => ?_⟩, ?_, fun L h1 _ => h1, Nat.le_refl _, fun _ t ht => by cases ht⟩
      · simp only [hm, if_false, hr, if_true]
      · rw [Nat.zero_add, List.nil_append]
        exact .inr (.inr ⟨st.next, rfl, by rw [List.length_map]; exact hl, Nat.lt_succ_self _, by simp [St.new, look]⟩)
      · simp only [St.new, look]; rw [if_neg (by omega)]
      · intro t ht; cases ht; exact .inr (Nat.le_refl _)
    · refine ⟨.slice (cs ++ new.map AV.strip) (n + m) (.tok st.next (n + m)), st.new (.tok ty (n + m) esz), ?_, ?_, ⟨Nat.le_succ _, fun i hi _ => ?_⟩, ?_, fun L h1 _ => h1, Nat.le_refl _, fun _ t ht => by cases ht⟩
      · simp only [h, if_true, hm, if_false, hr]
      · exact .inr (.inr ⟨st.next, rfl, by rw [List.length_append, List.length_map, h, hl, Nat.add_mul], Nat.lt_succ_self _, by simp [St.new, look]⟩)
      · simp only [St.new, look]; rw [if_neg (by omega)]
      · intro t ht; cases ht; exact .inr (Nat.le_refl _)
    · refine ⟨.slice (cs ++ new.map AV.strip) (n + m) (.tok t (n + m)), st.set t (.tok ty (n + m) esz), ?_, ?_, ⟨Nat.le_refl _, fun i hi hp => ?_⟩, ?_, fun L h1 h5 => ?_, Nat.min_le_left _ _, fun _ t' ht => by cases ht; exact Nat.min_le_right _ _⟩
      · simp only [h2, if_true, hm, if_false, hr, St.get, h4, and_self]
      · exact .inr (.inr ⟨t, rfl, by rw [List.length_append, List.length_map, h2, hl, Nat.add_mul], h3, look_put_self h4⟩)
      · exact look_put_ne (fun e => hp (by rw [e]; rfl))
      · intro t' ht; cases ht; exact .inl rfl
      · have := h5 t rfl
        simp only [St.set]; omega
/-- A value that a function hands back from what it has laid itself. -/
def AV.dr : AV → AV
  | .slice cs n (.tok _ _) => .slice cs n .no
  | v => v
theorem Gr.dr_slice {ty esz : Nat} {st : St} {v : AV} {cs : List AV} {n : Nat} (h : Gr ty esz st v cs n) : ∃ o : Own, (o = .no ∨ o = .full) ∧ (v.dr = .slice cs n o ∨ (v.dr = .nilslice ∧ n = 0 ∧ cs = [])) := by
  rcases h with ⟨rfl, rfl, rfl⟩ | ⟨rfl, h⟩ | ⟨t, rfl, h2, h3, h4⟩
  · exact ⟨.no, .inl rfl, .inr ⟨rfl, rfl, rfl⟩⟩
  · exact ⟨.full, .inr rfl, .inl rfl⟩
  · exact ⟨.no, .inl rfl, .inl rfl⟩
/-- Is nothing of it bound to the machine's numbers, but for tokens from L on? -/
def Own.free (L : Nat) : Own → Bool
  | .tok t _ => decide (L ≤ t)
  | _ => true
def AV.free (L : Nat) : AV → Bool
  | .slice cs _ o => o.free L && alAll (fun _ => false) cs
  | .agg cs => cs.all fun v => v.al fun _ => false
  | v => v.al fun _ => false
theorem al_false {v : AV} (h : v.al (fun _ => false) = true) (L : Nat) : v.drop0 L = v ∧ v.drop1 L = v ∧ ∀ p, v.al p = true := by
  have h1 : ∀ u : AV, u.al (fun _ => false) = true → u.drop0 L = u := by
    intro u hu
    cases u with
    | slice cs n o => cases o with
      | tok t e => simp [AV.al, Own.al] at hu
      | no => rfl
      | full => rfl
    | _ => rfl
  have h3 : ∀ p, v.al p = true := fun p => AV.al_mono (m := p) (fun _ h => by cases h) _ h
  refine ⟨h1 v h, ?_, h3⟩
  cases v with
  | agg cs =>
    simp only [AV.drop1, AV.agg.injEq]
    conv => rhs; rw [← List.map_id cs]
    refine List.map_congr_left fun u hu => h1 u ?_
    simp only [AV.al] at h
    exact (alAll_iff cs).1 h u hu
  | _ => exact h1 _ h
theorem free_drop {v : AV} {L : Nat} (h : v.free L = true) : v.drop1 L = v.dr ∧ (v.dr).al (below L) = true := by
  cases v with
  | slice cs n o =>
    simp only [AV.free, Bool.and_eq_true] at h
    have h2 : alAll (below L) cs = true := alAll_mono (m := below L) (fun _ h => by cases h) _ h.2
    cases o with
    | tok t e =>
      have := h.1
      simp only [Own.free, decide_eq_true_eq] at this
      refine ⟨?_, by simp [AV.dr, AV.al, Own.al, h2]⟩
      simp only [AV.drop1, AV.drop0, AV.dr]
      rw [if_neg (by omega)]
    | no => exact ⟨rfl, by simp [AV.dr, AV.al, Own.al, h2]⟩
    | full => exact ⟨rfl, by simp [AV.dr, AV.al, Own.al, h2]⟩
  | agg cs =>
    have h2 : (AV.agg cs).al (fun _ => false) = true := by
      simp only [AV.free] at h
      simp only [AV.al]
      exact (alAll_iff cs).2 (List.all_eq_true.1 h)
    exact ⟨(al_false h2 L).2.1, (al_false h2 L).2.2 _⟩
  | _ => exact ⟨(al_false h L).2.1, (al_false h L).2.2 _⟩
theorem LeaveW_free {s s' : St} {v : AV} (h : v.free s.next = true) (hl : s.next ≤ s'.low) (hv : ∀ vs, v ≠ .tuple vs) (K : AV → St → Prop) : LeaveW s s' v K = K v.dr s := by
  obtain ⟨h1, h2⟩ := free_drop h
  have h3 : v.drop2 s.next = v.dr := by
    cases v with
    | tuple vs => exact absurd rfl (hv vs)
    | _ => exact h1
  simp only [LeaveW, leave, h3, hl, h2, and_self, if_true]
theorem LeaveW_tfree {s s' : St} {vs : List AV} (h : vs.all (AV.free s.next) = true) (hl : s.next ≤ s'.low) (K : AV → St → Prop) : LeaveW s s' (.tuple vs) K = K (.tuple (vs.map AV.dr)) s := by
  have h3 : (AV.tuple vs).drop2 s.next = .tuple (vs.map AV.dr) := by
    simp only [AV.drop2, AV.tuple.injEq]
    exact List.map_congr_left fun v hv => (free_drop (List.all_eq_true.1 h v hv)).1
  have h4 : (AV.tuple (vs.map AV.dr)).al (below s.next) = true := by
    simp only [AV.al]
    refine (alAll_iff _).2 fun v hv => ?_
    obtain ⟨u, hu, rfl⟩ := List.mem_map.1 hv
    exact (free_drop (List.all_eq_true.1 h u hu)).2
  simp only [LeaveW, leave, h3, hl, h4, and_self, if_true]
theorem Gr.free {ty esz : Nat} {st : St} {v : AV} {cs : List AV} {n : Nat} (h : Gr ty esz st v cs n) {L : Nat} (ht : ∀ t, tokOf v = some t → L ≤ t) (hc : alAll (fun _ => false) cs = true) : v.free L = true := by
  rcases h with ⟨rfl, rfl, rfl⟩ | ⟨rfl, h⟩ | ⟨t, rfl, h2, h3, h4⟩
  · rfl
  · simp [AV.free, Own.free, hc]
  · have := ht t rfl
    simp [AV.free, Own.free, hc, this]
end Fw


/- Two slices that grow side by side. -/
namespace Fw
open Go
structure G2 (t1 z1 t2 z2 : Nat) (L : Nat) (st : St) (v w : AV) (cs : List AV) (n : Nat) (ds : List AV) (m : Nat) : Prop where
  a : Gr t1 z1 st v cs n
  b : Gr t2 z2 st w ds m
  ne : ∀ t, tokOf v = some t → tokOf w ≠ some t
  la : ∀ t, tokOf v = some t → L ≤ t
  lb : ∀ t, tokOf w = some t → L ≤ t
  low : L ≤ st.low
  lown : st.low ≤ st.next
variable {t1 z1 t2 z2 L : Nat} {st : St} {v w : AV} {cs ds : List AV} {n m : Nat}
theorem Keeps.alloc (p : Nat → Prop) (st : St) (o : AObj) (l : Nat) : Keeps p st { heap := (st.next, o) :: st.heap, next := st.next + 1, low := l } :=
  ⟨Nat.le_succ _, fun i hi _ => by simp only [look]; rw [if_neg (by omega)]⟩
theorem G2.alloc (h : G2 t1 z1 t2 z2 L st v w cs n ds m) (o : AObj) : G2 t1 z1 t2 z2 L { heap := (st.next, o) :: st.heap, next := st.next + 1, low := st.low } v w cs n ds m :=
  ⟨h.a.keep (Keeps.alloc _ _ _ _), h.b.keep (Keeps.alloc _ _ _ _), h.ne, h.la, h.lb, h.low, by have := h.lown; simp only; omega⟩
@[go_sem] theorem LeaveW_nils {s s' : St} (hl : s.next ≤ s'.low) (K : AV → St → Prop) : LeaveW s s' .nilslice K = K .nilslice s := LeaveW_flat rfl hl K
end Fw


/- Behind a call: structs that hold slices the call has laid. -/
namespace Fw
open Go
end Fw


/- A piece of code that has a name, kept out of the rewriter's sight together with what follows it. -/
namespace Fw
open Go
/-- A named piece of code and, hidden, what follows. -/
def WTail (cx : Cx) (b : ICode) (e : FE) (s : St) [i : QB] : Prop := W cx b e s i.q
theorem WTail.of {cx : Cx} {b : ICode} {e : FE} {s : St} {Q : Sig → FE → St → Prop} (h : W cx b e s Q) : @WTail cx b e s ⟨Q⟩ := h
/-- A call in the state at hand that hands on all that it has laid. -/
theorem CallW.keep {cx : Cx} {f : Nat} {fn : IFunc} {args : List AV} {s : St} {K : AV → St → Prop} (hx : cx.ext f = none) (hf : cx.fns f = some fn) (hm : cx.mode f = .keep) (hd : dstOk fn.ntmps fn.body = true)
    (h : W cx fn.body (argsE args) { s with low := s.next } (RawW fn.results fun v s' => K v { heap := s'.heap, next := s'.next, low := min s.low s'.low })) : CallW cx f args s K := by
  obtain ⟨k, v, s', h1, h2⟩ := runFn_W hd h
  refine ⟨k, _, _, ?_, h2⟩
  simp only [callF, callWith, hx, hf, hm, Option.bind_some, h1]
  rfl
end Fw


/- Calls by themselves and calls that hand on what they lay, at a function's text. -/
namespace Fw
open Go
theorem RunO.of' {cx : Cx} {nt : Nat} {rs : List IRes} {c : ICode} {fn : IFunc} {as0 : List AV} {v : AV} {s' : St} (hc : fn = ⟨nt, rs, c⟩) (hd : dstOk fn.ntmps fn.body = true) (h : W cx c (argsE as0) { heap := [], next := 0, low := 0 } (RawW rs fun v0 s0 => v0 = v ∧ s0 = s')) : RunO cx fn as0 v s' := by
  subst hc; exact RunO.of hd h
end Fw
