/- Each operation of the compiled form, held against the model's. -/
import Derived.Test.YtgpfcgpgbflpgaaFwI
import Derived.Laws.Entries
import Derived.Laws.Cells
namespace Fw
open Go Go.RowKit

/-- A call as an operation meets it: of a function with a body, or of one that the model itself answers. -/
def Does (P : Program) (f : FuncId) (args : Array Value) (w : World) (Post : Value → World → Prop) : Prop :=
  ∀ (o : Oper) (a : Act) (K : Act → World → Prop) (Q : Exit → Act → World → Prop), (∀ u w', Post u w' → K (a.put o.dst u) w') → o.upon P a K Q ((callFunc f args).run P w)

theorem Does.of_calls {P : Program} {f : FuncId} {args : Array Value} {w : World} {Post : Value → World → Prop} {fn : Func} (hf : P.funcs[f]? = some fn) (hn : fn.name ≠ "runtime.NumGoroutine") (hb : fn.body.isSome = true)
    (h : Calls P f args w fun e w' => ∃ u, e = .returned u ∧ Post u w') : Does P f args w Post := by
  intro o a K Q hK
  have hr : (callFunc f args).run P w = .ok (.enter f args) w := by
    cases hbody : fn.body with
    | none => simp [hbody] at hb
    | some c => simp [callFunc, hf, hn, hbody]
  rw [hr, Oper.upon_enter]
  refine Calls.mono h ?_
  rintro e w' ⟨u, rfl, hp⟩
  exact hK u w' hp

theorem Does.of_value {P : Program} {f : FuncId} {args : Array Value} {w w' : World} {Post : Value → World → Prop} {u : Value} (h : (callFunc f args).run P w = .ok (.value u) w') (hp : Post u w') : Does P f args w Post := by
  intro o a K Q hK
  rw [h]; exact hK u w' hp

/-- What a call's answer says. -/
def Answer (X : Bs) (σ : Gh) (s : St) (w : World) (v : AV) (s' : St) (u : Value) (w' : World) : Prop := ∃ σ', Step X σ s.get w σ' s'.get w' ∧ R σ' v u

def CallOk (P : Program) (X : Bs) (callee : Callee) : Prop :=
  ∀ f args s v s', Whole s → alAll (below s.next) args = true → callee f args s = some (v, s') → ∀ σ w vs, Inv X σ s.get w → Rs σ args vs → Does P f vs.toArray w (Answer X σ s w v s')

structure EnvOk (σ : Gh) (ρ : Env) (a : Act) : Prop where
  tmps : Rs σ ρ a.tmps.toList
  defers : a.defers = []

theorem dm_get {s : St} (h : Whole s) : dm s.get = below s.next := funext h.full

section
variable {P : Program} {X : Bs} {cx : Cx} {callee : Callee} {σ : Gh} {ρ : Env} {a : Act} {w : World} {s s' : St} {v : AV} {K : Act → World → Prop} {Q : Exit → Act → World → Prop}

theorem wp_value {o : Oper} {u : Value} {w' : World} (hr : (execOp a.eval o).run P w = .ok (.value u) w') (hK : K (a.put o.dst u) w') : o.wp P a w K Q := by
  unfold Oper.wp; rw [hr]; exact hK
theorem wp_skip' {o : Oper} {w' : World} (hr : (execOp a.eval o).run P w = .ok .skip w') (hK : K (a.put o.dst undef) w') : o.wp P a w K Q := by
  unfold Oper.wp; rw [hr]; exact hK

theorem ofScalar_R {v : Value} {b : AV} (h : ofScalar v = some b) (σ : Gh) : R σ b v := by
  unfold ofScalar at h
  split at h <;> first | (cases h; simp [R]; done) | (cases h; done) | skip
theorem ofScalar_al {v : Value} {b : AV} (h : ofScalar v = some b) : b.al (fun _ => false) = true := by
  unfold ofScalar at h
  split at h <;> first | (cases h; rfl) | (cases h; done)
theorem ofScalars_R (σ : Gh) : ∀ (vs : List Value) {bs : List AV}, ofScalars vs = some bs → Rs σ bs vs
  | [], bs, h => by simp only [ofScalars, Option.some.injEq] at h; subst h; simp [Rs]
  | v :: vs, bs, h => by
    simp only [ofScalars, Option.bind_eq_some_iff, Option.map_eq_some_iff] at h
    obtain ⟨b, h1, cs, h2, rfl⟩ := h
    simp only [Rs]
    exact ⟨v, vs, rfl, ofScalar_R h1 σ, ofScalars_R σ vs h2⟩
theorem ofScalars_al : ∀ (vs : List Value) {bs : List AV}, ofScalars vs = some bs → alAll (fun _ => false) bs = true
  | [], bs, h => by simp only [ofScalars, Option.some.injEq] at h; subst h; rfl
  | v :: vs, bs, h => by
    simp only [ofScalars, Option.bind_eq_some_iff, Option.map_eq_some_iff] at h
    obtain ⟨b, h1, cs, h2, rfl⟩ := h
    simp only [alAll, Bool.and_eq_true]
    exact ⟨ofScalar_al h1, ofScalars_al vs h2⟩
theorem ofConst_R {v : Value} {b : AV} (h : ofConst v = some b) (σ : Gh) : R σ b v := by
  unfold ofConst at h
  split at h
  · simp only [Option.map_eq_some_iff] at h; obtain ⟨cs, h1, rfl⟩ := h
    simp only [R]; exact ⟨_, rfl, ofScalars_R σ _ h1⟩
  · split at h <;> cases h
    rename_i vs hv
    simp only [R, Rs]; exact ⟨_, rfl, by simpa using hv⟩
  · exact ofScalar_R h σ
theorem ofConst_al {v : Value} {b : AV} (h : ofConst v = some b) : b.al (fun _ => false) = true := by
  unfold ofConst at h
  split at h
  · simp only [Option.map_eq_some_iff] at h; obtain ⟨cs, h1, rfl⟩ := h
    simpa [AV.al] using ofScalars_al _ h1
  · split at h <;> cases h; rfl
  · exact ofScalar_al h

theorem get_R (hE : EnvOk σ ρ a) (t : Nat) : R σ (ρ.get t) (a.tmps.getD t undef) := by
  have hl := Rs_length _ _ hE.tmps
  simp only [Env.get, List.getD, Array.getD_eq_getD_getElem?]
  cases hx : ρ[t]? with
  | none =>
    have : a.tmps[t]? = none := by
      rw [List.getElem?_eq_none_iff] at hx
      rw [Array.getElem?_eq_none_iff]
      simp at hl; omega
    rw [this]; exact R_undef σ
  | some b =>
    obtain ⟨u, hu, hr⟩ := Rs_get _ _ hE.tmps t b hx
    have : a.tmps[t]? = some u := by simpa using hu
    rw [this]; exact hr

/-- The variables of the program that are read lie as they are said to. -/
def Gls (cx : Cx) (σ : Gh) : Prop := ∀ n cs, cx.gl n = some cs → alAll (fun _ => false) cs = true ∧ RC σ cs n 0

theorem Inv.Gls {g : Hp} (hX : cx.gl = X.gl) (hI : Inv X σ g w) : Gls cx σ := fun n cs h => hI.gls n cs (hX ▸ h)

/-- An operand. -/
theorem ev_R (hG : Gls cx σ) (hE : EnvOk σ ρ a) {x : Operand} {ix : IX} (hc : cX x = some ix) {b : AV} (he : ix.ev cx ρ = some b) : R σ b (a.eval x) := by
  cases x with
  | tmp t => simp only [cX, Option.some.injEq] at hc; subst hc; simp only [IX.ev, Option.some.injEq] at he; subst he; exact get_R hE t
  | const c =>
    simp only [cX, Option.map_eq_some_iff] at hc; obtain ⟨d, h1, rfl⟩ := hc
    simp only [IX.ev, Option.some.injEq] at he; subst he; exact ofConst_R h1 σ
  | global g =>
    simp only [cX, Option.some.injEq] at hc; subst hc
    simp only [IX.ev, Option.map_eq_some_iff] at he; obtain ⟨cs, h1, rfl⟩ := he
    simp only [R, Act.eval]
    exact ⟨g, 0, by simp, (hG g cs h1).2⟩
  | func f =>
    simp only [cX, Option.some.injEq] at hc; subst hc
    simp only [IX.ev, Option.some.injEq] at he; subst he
    simp only [R, Act.eval, Rs]
    exact ⟨#[], #[], rfl, rfl, rfl⟩

theorem evs_R (hG : Gls cx σ) (hE : EnvOk σ ρ a) : ∀ (xs : List Operand) {ixs : List IX}, cXs xs = some ixs → ∀ {bs : List AV}, evs cx ρ ixs = some bs → Rs σ bs (xs.map a.eval)
  | [], ixs, hc, bs, he => by
    simp only [cXs, Option.some.injEq] at hc; subst hc
    simp only [evs, Option.some.injEq] at he; subst he; simp [Rs]
  | x :: xs, ixs, hc, bs, he => by
    simp only [cXs, Option.bind_eq_some_iff, Option.map_eq_some_iff] at hc; obtain ⟨i, h1, is, h2, rfl⟩ := hc
    simp only [evs, Option.bind_eq_some_iff, Option.map_eq_some_iff] at he; obtain ⟨b, h3, bs', h4, rfl⟩ := he
    simp only [List.map_cons, Rs]
    exact ⟨_, _, rfl, ev_R hG hE h1 h3, evs_R hG hE xs h2 h4⟩

def Ro (σ : Gh) : Option AV → Option Value → Prop
  | none, none => True
  | some a, some v => R σ a v
  | _, _ => False

theorem evo_R (hG : Gls cx σ) (hE : EnvOk σ ρ a) {x : Option Operand} {ix : Option IX} (hc : cXo x = some ix) {b : Option AV} (he : evo cx ρ ix = some b) : Ro σ b (x.map a.eval) := by
  cases x with
  | none => simp only [cXo, Option.some.injEq] at hc; subst hc; simp only [evo, Option.some.injEq] at he; subst he; trivial
  | some x =>
    simp only [cXo, Option.map_eq_some_iff] at hc; obtain ⟨i, h1, rfl⟩ := hc
    simp only [evo, Option.map_eq_some_iff] at he; obtain ⟨c, h2, rfl⟩ := he
    exact ev_R hG hE h1 h2
end

/- runs of the model's little programs -/
section
variable {P : Program} {w : World}
theorem run_tsz {t : TypeId} {n : Nat} (h : tsz P t = some n) : (Go.sizeOf t).run P w = .ok n w := by
  simp only [tsz, Option.map_eq_some_iff] at h; obtain ⟨i, h1, rfl⟩ := h
  simp [Go.sizeOf, typeInfo, h1]
theorem run_tby {t : TypeId} {i : TypeInfo} (h : P.info? t = some i) : (typeInfo t).run P w = .ok i w := by simp [typeInfo, h]
theorem run_und {t : TypeId} {d : TypeDesc} (h : P.underlying t = some d) : (underlying t).run P w = .ok d w := by simp [underlying, h]
theorem run_tagg {t : TypeId} {g : Bool} (h : tagg P t = some g) : (isAgg t).run P w = .ok g w := by
  unfold tagg at h
  split at h <;> simp only [Option.some.injEq, reduceCtorEq] at h <;> subst h <;> rename_i hu
  · simp [isAgg, run_und hu]
  · simp [isAgg, run_und hu]
  · rename_i d n1 n2
    simp only [isAgg, Sem.run_bind, run_und hu]
    show Sem.run P (match d with
        | TypeDesc.struct _ => pure true
        | TypeDesc.array _ _ => pure true
        | _ => pure false) w = .ok false w
    split
    · exact absurd rfl (n1 _)
    · exact absurd rfl (n2 _ _)
    · rfl
theorem run_tzero {t : TypeId} {z : AV} (h : tzero P t = some z) : ∃ u i, P.info? t = some i ∧ (zeroValue t).run P w = .ok u w ∧ ofConst u = some z ∧ z.cells.length = i.size ∧ u.cells.size = i.size := by
  simp only [tzero, Option.bind_eq_some_iff] at h
  obtain ⟨i, h1, u, h2, b, h3, h4⟩ := h
  split at h4 <;> cases h4
  rename_i hq
  exact ⟨u, i, h1, by simp [zeroValue, typeInfo, h1, h2], h3, hq.1, hq.2⟩
end

end Fw
