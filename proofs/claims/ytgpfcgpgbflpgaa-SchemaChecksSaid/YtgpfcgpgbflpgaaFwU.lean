/- Whole functions: what the evaluator finds, the model does. The regions that draw their order come as a hypothesis. -/
import Derived.Test.YtgpfcgpgbflpgaaFwT
import Derived.LoopN
namespace Fw
open Go Go.RowKit

section
variable {P : Program} {X : Bs} {cx : Cx} {callee : Callee} {σ σ' : Gh} {ρ ρ' : Env} {a : Act} {w w' : World} {s s' : St} {v : AV} {K : Act → World → Prop} {Q : Exit → Act → World → Prop}

structure Good (X : Bs) (σ : Gh) (s : St) (ρ : Env) (w : World) (a : Act) : Prop where
  whole : Whole s
  al : alAll (below s.next) ρ = true
  inv : Inv X σ s.get w
  env : EnvOk σ ρ a

theorem Rs_set {as : List AV} {vs : List Value} (h : Rs σ as vs) {u : Value} (hu : R σ v u) (d : Nat) : Rs σ (as.set d v) (vs.set d u) := by
  rw [Rs_iff] at h ⊢
  refine ⟨by simp [h.1], fun j x hx => ?_⟩
  rw [List.getElem?_set] at hx ⊢
  split at hx
  · rename_i hd
    subst hd
    split at hx
    · rename_i hl
      cases hx
      rw [if_pos rfl, if_pos (by rw [h.1]; exact hl)]
      exact ⟨u, rfl, hu⟩
    · cases hx
  · rename_i hd
    rw [if_neg hd]
    exact h.2 j x hx

theorem EnvOk.put (h : EnvOk σ ρ a) {u : Value} (hu : R σ v u) (d : Option Nat) : EnvOk σ (ρ.put d v) (a.put d u) := by
  cases d with
  | none => exact h
  | some d => exact ⟨by simpa [Env.put, Act.put] using Rs_set h.tmps hu d, h.defers⟩

theorem EnvOk.ext (h : EnvOk σ ρ a) {p : Nat → Bool} (hx : Ext p σ σ') (hal : alAll p ρ = true) : EnvOk σ' ρ a := ⟨Rs_mono hx _ _ hal h.tmps, h.defers⟩

theorem wants_R (hE : EnvOk σ ρ a) {ops : Array Oper} {o : Oper} {g : Option (Nat × Bool)} (hg : cGuard ops o.guard = some g) : Region.wanted o (yielded ops a.tmps) = wants ρ g := by
  unfold Region.wanted
  cases hgd : o.guard with
  | none => rw [hgd] at hg; simp only [cGuard, Option.some.injEq] at hg; subst hg; rfl
  | some jw =>
    obtain ⟨j, want⟩ := jw
    rw [hgd] at hg
    simp only [cGuard, Option.map_eq_some_iff] at hg; obtain ⟨t, h1, rfl⟩ := hg
    have hr := get_R hE t
    dsimp only
    simp only [wants, yielded, h1, Option.bind_some]
    have hl := Rs_length _ _ hE.tmps
    cases hx : a.tmps[t]? with
    | none =>
      have : ρ.get t = AV.undef := by
        rw [Array.getElem?_eq_none_iff] at hx
        simp only [Env.get, List.getD]
        rw [List.getElem?_eq_none (by simp at hl; omega)]; rfl
      rw [this]
      simp [AV.undef]
    | some u =>
      have : a.tmps.getD t undef = u := by simp [Array.getD_eq_getD_getElem?, hx]
      rw [this] at hr
      cases hb : ρ.get t <;> rw [hb] at hr <;> simp only [R] at hr
      case bool b => subst hr; cases b <;> cases want <;> rfl
      case int | str | nilptr | ptr | nilslice | nilmap | map | nilfunc | niliface => subst hr; rfl
      case vptr => obtain ⟨b, o, rfl, _⟩ := hr; rfl
      case slice => rcases hr with ⟨b, o, cap, rfl, _⟩ | ⟨_, _, _, a, rfl⟩ <;> rfl
      case mslice => obtain ⟨c, rfl, _⟩ := hr; rfl
      case func => obtain ⟨x, y, rfl, _⟩ := hr; rfl
      case iface => obtain ⟨u, rfl, _⟩ := hr; rfl
      case anyiface => obtain ⟨t, u, rfl⟩ := hr; rfl
      case agg => obtain ⟨x, rfl, _⟩ := hr; rfl
      case tuple => obtain ⟨x, rfl, _⟩ := hr; rfl

theorem oper_sound (hX : cx.gl = X.gl) (hGl : cx.GlOk) (hk : CalleeOk callee) (hc : CallOk P X callee) (hg : Good X σ s ρ w a) {ops : Array Oper} {o : Oper} {io : IOper} (hcO : cOper P ops o = some io) (hsh : io.op.shut = true)
    (he : evOper cx callee io ρ s = some (ρ', s')) (hK : ∀ σ' w' a', Step X σ s.get w σ' s'.get w' → Good X σ' s' ρ' w' a' → K a' w') :
    if Region.wanted o (yielded ops a.tmps) then o.wp P a w K Q ∨ (o.asks P a w ∧ LetsOut Q) else K (a.put o.dst undef) w := by
  simp only [cOper, Option.bind_eq_some_iff, Option.map_eq_some_iff] at hcO
  obtain ⟨op, h1, g, h2, rfl⟩ := hcO
  have hkept := evOper_kept hGl hk hg.whole hg.al hsh he
  rw [wants_R hg.env h2]
  unfold evOper at he
  dsimp only at he hsh
  split at he
  · rename_i hq
    rw [if_pos hq]
    simp only [Option.map_eq_some_iff] at he; obtain ⟨⟨v, t⟩, h3, h4⟩ := he; cases h4
    rcases cOpB_cases h1 with h1 | rfl
    case inr => simp [evOp] at h3
    refine .inl (op_sound hX hGl hc hg.whole hg.al hg.inv hg.env h1 hsh h3 fun σ' u w' hst hR => hK σ' w' _ hst ⟨hkept.1.whole, hkept.2, hst.inv, EnvOk.put (hg.env.ext hst.ext (by rw [dm_get hg.whole]; exact hg.al)) hR _⟩)
  · rename_i hq
    rw [if_neg hq]
    cases he
    exact hK σ w _ (Step.refl hg.inv) ⟨hg.whole, hkept.2, hg.inv, hg.env.put (R_undef σ) _⟩

theorem ops_sound (hX : cx.gl = X.gl) (hGl : cx.GlOk) (hk : CalleeOk callee) (hc : CallOk P X callee) {ops : Array Oper} : ∀ (os : List Oper) (k : Nat) {is : List IOper} {σ : Gh} {s : St} {ρ : Env} {w : World} {a : Act}, ops.toList.drop k = os → cOpers P ops os = some is → (is.all (·.op.shut)) = true →
    evOps cx callee is ρ s = some (ρ', s') → Good X σ s ρ w a → (∀ σ' w' a', Step X σ s.get w σ' s'.get w' → Good X σ' s' ρ' w' a' → Q .normal a' w') → wpOps P ops Q (List.range' k os.length) a w
  | [], k, is, σ, s, ρ, w, a, _, hc1, _, he, hg, hQ => by
    simp only [cOpers, Option.some.injEq] at hc1; subst hc1
    simp only [evOps, Option.some.injEq] at he; cases he
    exact hQ σ w a (Step.refl hg.inv) hg
  | o :: os, k, is, σ, s, ρ, w, a, hd, hc1, hsh, he, hg, hQ => by
    simp only [cOpers, Option.bind_eq_some_iff, Option.map_eq_some_iff] at hc1; obtain ⟨i, h1, is', h2, rfl⟩ := hc1
    simp only [evOps, Option.bind_eq_some_iff] at he; obtain ⟨⟨ρ1, s1⟩, h3, h4⟩ := he
    simp only [List.all_cons, Bool.and_eq_true] at hsh
    have hok : ops[k]? = some o := by
      have : (ops.toList.drop k)[0]? = some o := by rw [hd]; rfl
      rw [List.getElem?_drop] at this; simpa using this
    have hd' : ops.toList.drop (k + 1) = os := by
      have : (ops.toList.drop k).drop 1 = os := by rw [hd]; rfl
      rw [List.drop_drop] at this; exact this
    simp only [List.length_cons, List.range'_succ, wpOps, hok]
    refine oper_sound hX hGl hk hc hg h1 hsh.1 h3 fun σ1 w1 a1 hst1 hg1 => ?_
    exact ops_sound hX hGl hk hc os (k + 1) hd' h2 hsh.2 h4 hg1 fun σ2 w2 a2 hst2 hg2 => hQ σ2 w2 a2 (hst1.trans hst2) hg2

def Sig.toExit : Sig → Exit
  | .normal => .normal
  | .exit id => .exit id
  | .ret => .ret

/-- What is asked of a region that draws its order. -/
def DrawOk (P : Program) (X : Bs) (cx : Cx) : Prop := ∀ callee, CalleeOk callee → CallOk P X callee → ∀ id ops is s ρ s' ρ', cCode P (.region id ops true) = some (.dregion is) → (is.all (·.1.op.shut)) = true → evDraw cx callee is 0 [] ρ s = some (ρ', s') →
  ∀ σ w a Q, Good X σ s ρ w a → (∀ σ' w' a', Step X σ s.get w σ' s'.get w' → Good X σ' s' ρ' w' a' → Q .normal a' w') → (Code.region id ops true).wp P Q a w

def ExSound (P : Program) (X : Bs) (ex : Ex) : Prop := ∀ c ic ρ s g ρ' s', cCode P c = some ic → ic.shut = true → ex ic ρ s = some (g, ρ', s') →
  ∀ σ w a Q, Good X σ s ρ w a → (∀ σ' w' a', Step X σ s.get w σ' s'.get w' → Good X σ' s' ρ' w' a' → Q (Sig.toExit g) a' w') → c.wp P Q a w

def LoopSound (P : Program) (X : Bs) (ex : Ex) (k : Nat) : Prop := ∀ c ic ρ s g ρ' s', cCode P c = some ic → ic.shut = true → ex (.loop ic) ρ s = some (g, ρ', s') →
  ∀ σ w a Q, Good X σ s ρ w a → (∀ σ' w' a', Step X σ s.get w σ' s'.get w' → Good X σ' s' ρ' w' a' → Q (Sig.toExit g) a' w') → Code.rounds P c Q k a w

/-- The functions are the program's. -/
structure CxP (P : Program) (X : Bs) (cx : Cx) : Prop where
  ok : cx.Ok
  gl : cx.gl = X.gl
  fns : ∀ f ifn, cx.fns f = some ifn → ∃ fn, P.funcs[f]? = some fn ∧ cFunc P fn = some ifn
  ext : ∀ f g, cx.ext f = some g → ∀ args s v s', Whole s → alAll (below s.next) args = true → g args s = some (v, s') → ∀ σ w vs, Inv X σ s.get w → Rs σ args vs → Does P f vs.toArray w (Answer X σ s w v s')
  draw : DrawOk P X cx

theorem Step.part {g g' g'' : Hp} (h : Step X σ g w σ' g' w') (hg : ∀ id o, g'' id = some o → g' id = some o) (hs : ∀ id o, g'' id = some o → o.al (dm g'') = true) (hd : ∀ id, dm g id = true → dm g'' id = true) : Step X σ g w σ' g'' w' :=
  ⟨h.inv.part hg hs, h.ext, hd, h.size, h.frame, fun id o ho => h.own id o (hg id o ho), h.gnew⟩

theorem R_drop0 (n : Nat) {u : Value} (h : R σ v u) : R σ (v.drop0 n) u := by
  unfold AV.drop0
  split
  · rename_i cs k t e
    split
    · exact h
    · simp only [R] at h ⊢
      rcases h with ⟨b, o, cap, h1, h2, _, h4⟩ | ⟨_, _, h3, _⟩
      · exact .inl ⟨b, o, cap, h1, h2, trivial, h4⟩
      · exact absurd rfl (h3 t e)
  · exact h

theorem Rs_map {f : AV → AV} (hf : ∀ {v : AV} {u : Value}, R σ v u → R σ (f v) u) {as : List AV} {vs : List Value} (h : Rs σ as vs) : Rs σ (as.map f) vs := by
  rw [Rs_iff] at h ⊢
  refine ⟨by simp [h.1], fun j a ha => ?_⟩
  rw [List.getElem?_map] at ha
  cases hx : as[j]? with
  | none => simp [hx] at ha
  | some x =>
    simp [hx] at ha; subst ha
    obtain ⟨v, hv, hr⟩ := h.2 j x hx
    exact ⟨v, hv, hf hr⟩

theorem R_drop1 (n : Nat) {v : AV} {u : Value} (h : R σ v u) : R σ (v.drop1 n) u := by
  unfold AV.drop1
  split
  · simp only [R] at h ⊢
    obtain ⟨x, h1, h2⟩ := h
    exact ⟨x, h1, Rs_map (R_drop0 n) h2⟩
  · exact R_drop0 n h

theorem R_drop2 (n : Nat) {v : AV} {u : Value} (h : R σ v u) : R σ (v.drop2 n) u := by
  unfold AV.drop2
  split
  · simp only [R] at h ⊢
    obtain ⟨x, h1, h2⟩ := h
    exact ⟨x, h1, Rs_map (R_drop1 n) h2⟩
  · exact R_drop1 n h

theorem results_R (hI : Inv X σ s.get w) (hE : EnvOk σ ρ a) : ∀ (rs : List ResultVar) {irs : List IRes} {vs : List AV}, cRess P rs = some irs → results s ρ irs = some vs →
    ∃ us, (rs.mapM fun
      | .tmp t => pure (a.tmps.getD t undef)
      | .cell c t => do loadVar t (← asAddr (a.tmps.getD c undef)) : Sem (List Value)).run P w = .ok us w ∧ Rs σ vs us
  | [], irs, vs, hc, hr => by
    simp only [cRess, Option.some.injEq] at hc; subst hc
    simp only [results, Option.some.injEq] at hr; subst hr
    exact ⟨[], by simp, by simp [Rs]⟩
  | r :: rs, irs, vs, hc, hr => by
    simp only [cRess, Option.bind_eq_some_iff, Option.map_eq_some_iff] at hc; obtain ⟨ir, h1, irs', h2, rfl⟩ := hc
    cases r with
    | tmp t =>
      simp only [cRes, Option.some.injEq] at h1; subst h1
      simp only [results, Option.map_eq_some_iff] at hr; obtain ⟨vs', h3, rfl⟩ := hr
      obtain ⟨us, h4, h5⟩ := results_R hI hE rs h2 h3
      refine ⟨_ :: us, ?_, by simp only [Rs]; exact ⟨_, us, rfl, get_R hE t, h5⟩⟩
      simp only [List.mapM_cons, Sem.run_bind, Sem.run_pure, Result.andThen_ok]
      rw [h4]; rfl
    | cell c t =>
      simp only [cRes, Option.bind_eq_some_iff, Option.map_eq_some_iff] at h1; obtain ⟨g, h6, n, h7, rfl⟩ := h1
      simp only [results, Option.bind_eq_some_iff, Option.map_eq_some_iff] at hr; obtain ⟨x, h8, vs', h3, rfl⟩ := hr
      obtain ⟨us, h4, h5⟩ := results_R hI hE rs h2 h3
      obtain ⟨b, o, hu, u, h9, h10⟩ := load_R hI (fun _ _ _ => rfl) h6 h7 (get_R hE c) h8
      refine ⟨u :: us, ?_, by simp only [Rs]; exact ⟨_, us, rfl, h10, h5⟩⟩
      have hasA : (asAddr (a.tmps.getD c undef)).run P w = .ok ⟨b, o, none⟩ w := by rw [hu]; rfl
      simp only [List.mapM_cons, Sem.run_bind, Sem.run_pure, Result.andThen_ok, hasA, h9]
      rw [h4]; rfl

theorem tupled_R {vs : List AV} {us : List Value} (h : Rs σ vs us) : R σ (tupled vs) (if h : us.toArray.size = 1 then us.toArray[0] else .tuple us.toArray) := by
  have hl := Rs_length _ _ h
  unfold tupled
  split
  · rename_i v
    simp only [Rs] at h
    obtain ⟨u, _, rfl, h1, rfl⟩ := h
    simpa using h1
  · rename_i hne
    have : us.toArray.size ≠ 1 := fun e => by
      simp at e
      rw [hl] at e
      match vs, e with
      | [v], _ => exact hne v rfl
    rw [dif_neg this]
    simp only [R]; exact ⟨_, rfl, by simpa using h⟩

theorem call_calls (hx : CxP P X cx) {ex : Ex} (he : ExOk ex) (hs : ExSound P X ex) {f : Nat} {args : List AV} {s : St} {v : AV} {s' : St} (hw : Whole s) (hal : alAll (below s.next) args = true) (hf0 : cx.ext f = none) (h : callWith cx ex f args s = some (v, s'))
    {σ : Gh} {w : World} {vs : List Value} (hI : Inv X σ s.get w) (hR : Rs σ args vs) : ∃ fn, P.funcs[f]? = some fn ∧ fn.name ≠ "runtime.NumGoroutine" ∧ fn.body.isSome = true ∧ Calls P f vs.toArray w fun e w' => ∃ u, e = .returned u ∧ Answer X σ s w v s' u w' := by
  unfold callWith at h
  split at h
  · rename_i g hg; rw [hf0] at hg; cases hg
  · simp only [Option.bind_eq_some_iff] at h
    obtain ⟨ifn, h1, ⟨sig, ρ, t⟩, h2, h3⟩ := h
    obtain ⟨fn, hf, hcf⟩ := hx.fns f ifn h1
    have hsh := hx.ok.fns f ifn h1
    simp only [cFunc] at hcf
    split at hcf
    · cases hcf
    rename_i hname
    simp only [Option.bind_eq_some_iff, Option.map_eq_some_iff] at hcf
    obtain ⟨c, hbody, ic, hcc, rs, hrs, rfl⟩ := hcf
    dsimp only at h2 h3 hsh
    have hu : alAll (below s.next) (args ++ List.replicate (fn.ntmps - args.length) AV.undef) = true := by
      rw [alAll_append, hal, Bool.true_and, alAll_iff]
      intro a hm; rw [(List.mem_replicate.1 hm).2]; rfl
    have hlen := Rs_length _ _ hR
    have hE : EnvOk σ (args ++ List.replicate (fn.ntmps - args.length) AV.undef) { tmps := vs.toArray ++ Array.replicate (fn.ntmps - vs.toArray.size) undef, defers := [] } := by
      refine ⟨?_, rfl⟩
      simp only [Array.toList_append, List.toList_toArray, Array.toList_replicate, List.size_toArray, hlen]
      refine Rs_append hR ?_
      rw [Rs_iff]
      refine ⟨by simp, fun j a ha => ?_⟩
      rw [List.getElem?_replicate] at ha ⊢
      split at ha
      · rename_i hj; cases ha; rw [if_pos hj]; exact ⟨_, rfl, R_undef σ⟩
      · cases ha
    have hgood : Good X σ { s with low := s.next } (args ++ List.replicate (fn.ntmps - args.length) AV.undef) w { tmps := vs.toArray ++ Array.replicate (fn.ntmps - vs.toArray.size) undef, defers := [] } := ⟨hw.low _, hu, hI, hE⟩
    obtain ⟨kept, _⟩ := he ic _ { s with low := s.next } sig ρ t hsh (hw.low _) hu h2
    refine ⟨fn, hf, hname, by rw [hbody]; rfl, calls_of_wp hf hbody ?_⟩
    refine hs c ic _ _ sig ρ t hcc hsh h2 σ w _ _ hgood fun σ' w' a' hst hg' => ?_
    have key : ∀ {us : List AV}, results t ρ rs = some us → leave s t (tupled us) = (v, s') → a'.defers = [] ∧ ∃ u, (Go.results fn a'.tmps).run P w' = .ok u w' ∧ ∃ u', Ending.returned u = .returned u' ∧ Answer X σ s w v s' u' w' := by
      intro us h4 h5
      obtain ⟨vs', h6, h7⟩ := results_R (P := P) hg'.inv hg'.env fn.results.toList hrs h4
      refine ⟨hg'.env.defers, (if h : vs'.toArray.size = 1 then vs'.toArray[0] else .tuple vs'.toArray), ?_, _, rfl, ?_⟩
      · simp only [Go.results, Sem.run_bind]
        rw [Array.mapM_eq_mapM_toList]
        have h8 := congrArg (fun r => r.andThen fun (l : List Value) w => Result.ok l.toArray w) h6
        rw [map_eq_pure_bind, Sem.run_bind]
        refine (congrArg (fun r : Result (Array Value) => r.andThen fun vs w => Sem.run P (pure (if h : vs.size = 1 then vs[0] else .tuple vs)) w) (?_ : _ = Result.ok vs'.toArray w')).trans rfl
        exact h8
      · have hR' := tupled_R h7
        unfold leave at h5
        split at h5
        · rename_i hq
          cases h5
          refine ⟨σ', ?_, R_drop2 _ hR'⟩
          refine hst.part (fun id o ho => ?_) (fun id o ho => by rw [dm_get hw]; exact hw.shut id o ho) (fun id h => h)
          have hid := hw.lt ho
          rw [kept.same id hid (by omega)]; exact ho
        · cases h5
          exact ⟨σ', hst, hR'⟩
    split at h3
    · cases h3
    · rename_i hne
      simp only [Option.map_eq_some_iff] at h3
      obtain ⟨us, h4, h5⟩ := h3
      cases sig with
      | normal => exact key h4 h5
      | ret => exact key h4 h5
      | exit id => exact absurd rfl (hne id)

theorem call_ok (hx : CxP P X cx) {ex : Ex} (he : ExOk ex) (hs : ExSound P X ex) : CallOk P X (callWith cx ex) := by
  intro f args s v s' hw hal h σ w vs hI hR
  cases hf : cx.ext f with
  | some g =>
    have h' := h
    unfold callWith at h'
    rw [hf] at h'
    exact hx.ext f g hf args s v s' hw hal h' σ w vs hI hR
  | none =>
    obtain ⟨fn, h1, h2, h3, h4⟩ := call_calls hx he hs hw hal hf h hI hR
    exact Does.of_calls h1 h2 h3 h4

theorem exec_sound (hx : CxP P X cx) : ∀ k, ExSound P X (exec cx k) ∧ LoopSound P X (exec cx k) k
  | 0 => ⟨fun _ _ _ _ _ _ _ _ _ h => by simp [exec] at h, fun _ _ _ _ _ _ _ _ _ h => by simp [exec] at h⟩
  | k + 1 => by
    obtain ⟨ih, ihl⟩ := exec_sound hx k
    have hek := exec_ok hx.ok k
    have hkc := callWith_ok hx.ok hek
    have hcc := call_ok hx hek ih
    have loop : LoopSound P X (exec cx (k + 1)) (k + 1) := by
      intro c ic ρ s g ρ' s' hc hsh h σ w a Q hg hQ
      simp only [exec, Option.bind_eq_some_iff] at h; obtain ⟨⟨g1, ρ1, s1⟩, h1, h2⟩ := h
      dsimp only at h2
      simp only [Code.rounds]
      refine ih c ic ρ s g1 ρ1 s1 hc hsh h1 σ w a _ hg fun σ1 w1 a1 hst1 hg1 => ?_
      split at h2
      · exact ihl c ic ρ1 s1 g ρ' s' hc hsh h2 σ1 w1 a1 Q hg1 fun σ2 w2 a2 hst2 hg2 => hQ σ2 w2 a2 (hst1.trans hst2) hg2
      · cases h2
        rename_i hne
        have := hQ σ1 w1 a1 hst1 hg1
        cases g <;> first | exact this | exact absurd rfl hne
    refine ⟨?_, loop⟩
    intro c ic ρ s g ρ' s' hc hsh h σ w a Q hg hQ
    cases c <;> simp only [cCode] at hc <;> try (cases hc; done)
    case skip => cases hc; simp only [exec, Option.some.injEq] at h; cases h; exact wp_skip (hQ σ w a (Step.refl hg.inv) hg)
    case label => cases hc; simp only [exec, Option.some.injEq] at h; cases h; exact wp_label (hQ σ w a (Step.refl hg.inv) hg)
    case exit id => cases hc; simp only [exec, Option.some.injEq] at h; cases h; exact wp_exit (hQ σ w a (Step.refl hg.inv) hg)
    case ret => cases hc; simp only [exec, Option.some.injEq] at h; cases h; exact wp_ret (hQ σ w a (Step.refl hg.inv) hg)
    case region id ops draw =>
      have hc0 : cCode P (.region id ops draw) = some ic := by simp only [cCode]; exact hc
      simp only [Option.bind_eq_some_iff] at hc; obtain ⟨is, h1, h2⟩ := hc
      cases draw with
      | true =>
        simp only [if_true] at h2
        split at h2 <;> cases h2
        simp only [exec, Option.map_eq_some_iff] at h; obtain ⟨⟨ρ1, s1⟩, h3, h4⟩ := h; cases h4
        exact hx.draw _ hkc hcc id ops _ s ρ _ _ hc0 hsh h3 σ w a Q hg hQ
      | false =>
        simp only [Bool.false_eq_true, if_false, Option.some.injEq] at h2
        subst h2
        simp only [exec, Option.map_eq_some_iff] at h; obtain ⟨⟨ρ1, s1⟩, h3, h4⟩ := h; cases h4
        refine wp_region ?_
        rw [List.range_eq_range']
        have := ops_sound (Q := Q) hx.gl hx.ok.gl hkc hcc ops.toList 0 (ops := ops) rfl h1 hsh h3 hg hQ
        simpa using this
    case seq x y =>
      simp only [Option.bind_eq_some_iff, Option.map_eq_some_iff] at hc; obtain ⟨ix, h1, iy, h2, rfl⟩ := hc
      simp only [ICode.shut, Bool.and_eq_true] at hsh
      simp only [exec, Option.bind_eq_some_iff] at h; obtain ⟨⟨g1, ρ1, s1⟩, h3, h4⟩ := h
      dsimp only at h4
      refine wp_seq (ih x ix ρ s g1 ρ1 s1 h1 hsh.1 h3 σ w a _ hg fun σ1 w1 a1 hst1 hg1 => ?_)
      split at h4
      · exact ih y iy ρ1 s1 g ρ' s' h2 hsh.2 h4 σ1 w1 a1 Q hg1 fun σ2 w2 a2 hst2 hg2 => hQ σ2 w2 a2 (hst1.trans hst2) hg2
      · cases h4
        rename_i hne
        have := hQ σ1 w1 a1 hst1 hg1
        cases g <;> first | exact this | exact absurd rfl hne
    case cond x y z =>
      simp only [Option.bind_eq_some_iff, Option.map_eq_some_iff] at hc; obtain ⟨ix, h1, iy, h2, iz, h3, rfl⟩ := hc
      simp only [ICode.shut, Bool.and_eq_true] at hsh
      simp only [exec] at h
      split at h
      · rename_i t ht
        have hr := ev_R (hg.inv.Gls hx.gl) hg.env h1 ht
        simp only [R] at hr
        refine wp_cond hr ?_
        cases t
        · exact ih z iz ρ s g ρ' s' h3 hsh.2 h σ w a Q hg hQ
        · exact ih y iy ρ s g ρ' s' h2 hsh.1.2 h σ w a Q hg hQ
      · cases h
    case block id b =>
      simp only [Option.map_eq_some_iff] at hc; obtain ⟨ib, h1, rfl⟩ := hc
      simp only [exec, Option.map_eq_some_iff] at h; obtain ⟨⟨g1, ρ1, s1⟩, h3, h4⟩ := h; cases h4
      refine wp_block (ih b ib ρ s g1 _ _ h1 hsh h3 σ w a _ hg fun σ1 w1 a1 hst1 hg1 => ?_)
      have := hQ σ1 w1 a1 hst1 hg1
      cases g1 with
      | normal => simpa [Sig.toExit, Exit.inBlock] using this
      | ret => simpa [Sig.toExit, Exit.inBlock] using this
      | exit j =>
        by_cases hj : j = id
        · subst hj; simpa [Sig.toExit, Exit.inBlock] using this
        · have hne : ¬ Sig.exit j = Sig.exit id := fun e => hj (by cases e; rfl)
          rw [if_neg hne] at this
          simpa [Sig.toExit, Exit.inBlock, hj] using this
    case loop b =>
      simp only [Option.map_eq_some_iff] at hc; obtain ⟨ib, h1, rfl⟩ := hc
      exact wp_loop_rounds (k + 1) (loop b ib ρ s g ρ' s' h1 hsh h σ w a Q hg hQ)
    case scope b =>
      simp only [Option.map_eq_some_iff] at hc; obtain ⟨ib, h1, rfl⟩ := hc
      simp only [exec] at h
      refine wp_scope_straight (ih b ib ρ s g ρ' s' h1 hsh h σ w a _ hg fun σ1 w1 a1 hst1 hg1 => ?_)
      have := hQ σ1 w1 a1 hst1 hg1
      cases g <;> exact this

theorem callF_sound (hx : CxP P X cx) (k : Nat) : CallOk P X (callF cx k) := call_ok hx (exec_ok hx.ok k) (exec_sound hx k).1

theorem callF_calls (hx : CxP P X cx) (k : Nat) {f : Nat} {args : List AV} {s : St} {v : AV} {s' : St} (hw : Whole s) (hal : alAll (below s.next) args = true) (hf0 : cx.ext f = none) (h : callF cx k f args s = some (v, s'))
    {σ : Gh} {w : World} {vs : List Value} (hI : Inv X σ s.get w) (hR : Rs σ args vs) : Calls P f vs.toArray w fun e w' => ∃ u, e = .returned u ∧ Answer X σ s w v s' u w' := by
  obtain ⟨_, _, _, _, h⟩ := call_calls hx (exec_ok hx.ok k) (exec_sound hx k).1 hw hal hf0 h hI hR
  exact h
end
end Fw
