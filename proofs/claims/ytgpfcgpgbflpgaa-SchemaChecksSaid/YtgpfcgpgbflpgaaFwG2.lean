/- From a run of the abstract machine to a law's row. -/
import Derived.Test.YtgpfcgpgbflpgaaFwG1
namespace Fw
open Go Go.RowKit Go.ChangeShapes Go.WideShapes Go.ChangeAt

section
variable {P : Program} {H : Type} {enc : TypeId × Value → H} {W W' : World}

theorem trodAll_below (hl : laidOutB P = true) (hb : Below W.heap.size W W') : ∀ {ts : List TypeId} {vs : List Value} {ds : List (DataW H)} {ps : List MemPlace}, (∀ t ∈ ts, P.readableRec t = true ∧ t < P.types.size) →
    DataW.TrodAll enc P W 0 (fun _ => true) true ts vs ds ps → (∀ x ∈ ps, x.block < W.heap.size) → ∀ sp : Nat → Bool, (∀ p ∈ ps, sp p.block = true) → DataW.TrodAll enc P W' 0 sp true ts vs ds ps
  | [], [], [], ps, _, h, _, _, _ => h
  | t :: ts, v :: vs, d :: ds, ps, ht, h, hlt, sp, hsp => by
    obtain ⟨p, q, h1, h2, rfl⟩ := h
    refine ⟨p, q, WideElems.Trod_stays hl (ht t (by simp)).1 (ht t (by simp)).2 h1 (fun x hx => hb.same (hlt x (by simp [hx]))) (fun x hx => hsp x (by simp [hx])), ?_, rfl⟩
    exact trodAll_below hl hb (fun t' ht' => ht t' (by simp [ht'])) h2 (fun x hx => hlt x (by simp [hx])) sp fun x hx => hsp x (by simp [hx])
  | [], _ :: _, _, _, _, h, _, _, _ => h.elim
  | [], [], _ :: _, _, _, h, _, _, _ => h.elim
  | _ :: _, [], _, _, _, h, _, _, _ => h.elim
  | _ :: _, _ :: _, [], _, _, h, _, _, _ => h.elim

/-- A law's answer: true; the arguments read as they did. -/
theorem post_true {fn : Func} {s : ChangeSpec} {apart fresh handsOn again : Bool} {args : Array Value} {ds gs : List (DataW H)} {before : List MemPlace} {tb : TypeId} (hl : laidOutB P = true) (hW : DataW.Whole enc P fn.params.toList s.vars apart W args.toList ds gs before)
    (hb : Below W.heap.size W W') (hpar : ∀ t ∈ fn.params.toList, P.readableRec t = true ∧ t < P.types.size) (hvars : s.vars = []) (hres : fn.resultTypes = #[tb]) (htb : P.underlying tb = some .bool)
    (hspec : s.fn H (ds ++ gs) = { results := [.lit (.bool true)], args := ds }) : s.post enc P fn apart fresh handsOn again W args (.bool true) W' := by
  have hold : ∀ p ∈ before, (fun b => decide (b < W.heap.size)) p.block = true := fun p hp => by simpa using hW.lt p hp
  have hlt := hW.lt
  have hW0 := hW
  obtain ⟨p, q, hA, hV, rfl, hz, hn⟩ := hW0
  rw [hvars] at hV
  cases gs with
  | cons g gs => exact hV.elim
  | nil =>
    have hq : q = [] := hV
    subst hq
    have hsz : fn.resultTypes.size = 1 := by rw [hres]; rfl
    have hargs : ∀ sp : Nat → Bool, (∀ x ∈ p, sp x.block = true) → DataW.TrodAll enc P W' 0 sp true fn.params.toList args.toList ds p := trodAll_below hl hb hpar hA fun x hx => hlt x (by simpa using hx)
    have hr : ∀ (b : Nat) (sp : Nat → Bool) (hd : Bool), DataW.TrodAll enc P W' b sp hd fn.resultTypes.toList ((Value.bool true).resultList fn.resultTypes.size) [.lit (.bool true)] [] := fun b sp hd => by
      rw [hres]; exact trodAll_mk1 (shut_bool htb _)
    refine ⟨ds, [], p ++ [], [], p, [], hW, by rw [hspec]; exact hr _ _ _, by rw [hspec]; exact hargs _ fun x hx => hold x (by simpa using hx), by rw [hspec, hvars]; rfl, World.keptBut_mono (fun x hx => hx) (hb.frame _), fun _ => ?_⟩
    refine ⟨?_, _, _, ([] ++ p) ++ [], ⟨[] ++ p, [], trodAll_append (hargs _ (fun _ _ => rfl)) (hr _ _ _), (show DataW.TrodVars enc P W' (fun _ => true) s.vars [] [] from by rw [hvars]; rfl), rfl, ?_, ?_⟩, ?_⟩
    · exact ok_one hres rfl (okWide_bool_mk htb _)
    · intro b off hp
      have hb' : b < W.heap.size := hlt (.cell b off) (by simpa using hp)
      rw [Below.frozen hb (p := ⟨b, off, none⟩) hb']
      exact hz b off (by simpa using hp)
    · intro ha; simpa using hn ha
    · intro x hx _; simpa using hx

/-- An argument, typed. -/
def TyArg (P : Program) (t : TypeId) (a : AV) : Prop := match P.underlying t with
  | some (.struct _) => ∃ fuel cs, a = .agg cs ∧ Ty P fuel t cs
  | some (.array _ _) => ∃ fuel cs, a = .agg cs ∧ Ty P fuel t cs
  | _ => ∃ fuel, Ty P fuel t [a]

def TyArgs (P : Program) : List TypeId → List AV → Prop
  | [], as => as = []
  | t :: ts, as => ∃ a rest, as = a :: rest ∧ TyArg P t a ∧ TyArgs P ts rest

def firstGh (W : World) : Gh := { G := fun b o v => W.cell? ⟨b, o, none⟩ = some v, φ := fun _ => 0, T := fun _ _ => none }

theorem arg_R {S : List TypeId} (hS : simpleSet P S = true) {t : TypeId} (ht : t ∈ S) {v : Value} {base : Nat} (hok : Value.okWide P W .any base t v) {d : DataW H} {ps : List MemPlace} (h : DataW.Trod enc P W 0 (fun _ => true) true t v d ps) :
    ∃ a, R (firstGh W) a v ∧ TyArg P t a := by
  obtain ⟨fuel, h⟩ := h
  obtain ⟨as, h1, h2⟩ := trod_Rs (σ := firstGh W) hS (fun _ _ _ h => h) fuel t _ _ ht h
  have hst := List.all_eq_true.1 hS t ht
  have agg : (∃ fs, P.underlying t = some (.struct fs)) ∨ (∃ n e, P.underlying t = some (.array n e)) → ∃ a, R (firstGh W) a v ∧ TyArg P t a := fun hag => by
    have hv : ∃ cs, v = .agg cs := by
      rcases hag with ⟨fs, hu⟩ | ⟨n, e, hu⟩ <;> · simp only [Value.okWide, hu] at hok; obtain ⟨cs, h3, _⟩ := hok; exact ⟨cs, h3⟩
    obtain ⟨cs, rfl⟩ := hv
    refine ⟨.agg as, by simp only [R]; exact ⟨cs, rfl, h1⟩, ?_⟩
    rcases hag with ⟨fs, hu⟩ | ⟨n, e, hu⟩ <;> · simp only [TyArg, hu]; exact ⟨fuel, as, rfl, h2⟩
  have one : (∀ cs, v ≠ .agg cs) → (TyArg P t = fun a => ∃ fuel, Ty P fuel t [a]) → ∃ a, R (firstGh W) a v ∧ TyArg P t a := fun hv hu => by
    have hc : v.cells.toList = [v] := by cases v <;> first | rfl | exact absurd rfl (hv _)
    rw [hc] at h1
    have hl := Rs_length _ _ h1
    match as, hl with
    | [a], _ =>
      simp only [Rs] at h1
      obtain ⟨_, _, h3, h4, _⟩ := h1
      cases h3
      refine ⟨a, h4, ?_⟩
      rw [hu]; exact ⟨fuel, h2⟩
  have notagg : ∀ d, P.underlying t = some d → (∀ fs, d ≠ .struct fs) → (∀ n e, d ≠ .array n e) → ∀ cs, v ≠ .agg cs := fun d hu hn1 hn2 cs e => by
    subst e
    unfold Value.okWide at hok
    rw [hu] at hok
    cases d <;> first | exact absurd rfl (hn1 _) | exact absurd rfl (hn2 _ _) | (simp [Cell.okWide, hu, Cell.ok] at hok)
  split at hst
  case h_1 hu => exact one (notagg _ hu (by simp) (by simp)) (by funext a; simp [TyArg, hu])
  case h_2 k hu => exact one (notagg _ hu (by simp) (by simp)) (by funext a; simp [TyArg, hu])
  case h_3 hu => exact one (notagg _ hu (by simp) (by simp)) (by funext a; simp [TyArg, hu])
  case h_4 e hu => exact one (notagg _ hu (by simp) (by simp)) (by funext a; simp [TyArg, hu])
  case h_5 fs hu => exact agg (.inl ⟨fs, hu⟩)
  case h_6 n e hu => exact agg (.inr ⟨n, e, hu⟩)
  case h_7 => cases hst

theorem Ty_al {p : Nat → Bool} : ∀ (fuel : Nat) (t : TypeId) (as : List AV), Ty P fuel t as → alAll p as = true
  | 0, _, _, h => h.elim
  | fuel + 1, t, as, h => by
    have ih := Ty_al (p := p) fuel
    simp only [Ty] at h
    split at h
    · obtain ⟨b, rfl⟩ := h; rfl
    · obtain ⟨n, rfl, _⟩ := h; rfl
    · obtain ⟨s, rfl, _⟩ := h; rfl
    · rename_i e _
      rcases h with rfl | ⟨es, h1, _, rfl⟩
      · rfl
      · simp only [alAll, AV.al, Own.al, Bool.and_true, Bool.true_and]
        rw [alAll_iff]; intro a ha
        obtain ⟨x, hx, hax⟩ := List.mem_flatten.1 ha
        exact (alAll_iff x).1 (ih e x (h1 x hx).1) a hax
    · rename_i fs _
      obtain ⟨ps, h1, h2, rfl⟩ := h
      rw [alAll_iff]; intro a ha
      obtain ⟨x, hx, hax⟩ := List.mem_flatten.1 ha
      obtain ⟨j, hj⟩ := List.mem_iff_getElem?.1 hx
      have hjl : j < fs.size := by have := (List.getElem?_eq_some_iff.1 hj).1; omega
      exact (alAll_iff x).1 (ih _ x (h2 j fs[j] x (Array.getElem?_eq_getElem hjl) hj).1) a hax
    · rename_i n e _
      obtain ⟨ps, h1, h2, rfl⟩ := h
      rw [alAll_iff]; intro a ha
      obtain ⟨x, hx, hax⟩ := List.mem_flatten.1 ha
      exact (alAll_iff x).1 (ih e x (h2 x hx).1) a hax
    · exact h.elim

theorem TyArgs_al {p : Nat → Bool} : ∀ {ts : List TypeId} {as : List AV}, TyArgs P ts as → alAll p as = true
  | [], as, h => by have : as = [] := h; subst this; rfl
  | t :: ts, as, h => by
    obtain ⟨a, rest, rfl, h1, h2⟩ := h
    simp only [alAll, TyArgs_al h2, Bool.and_true]
    unfold TyArg at h1
    split at h1
    · obtain ⟨f, cs, rfl, h3⟩ := h1; simpa [AV.al] using Ty_al f t cs h3
    · obtain ⟨f, cs, rfl, h3⟩ := h1; simpa [AV.al] using Ty_al f t cs h3
    · obtain ⟨f, h3⟩ := h1; simpa [alAll] using Ty_al (p := p) f t _ h3

theorem args_R {S : List TypeId} (hS : simpleSet P S = true) {base : Nat} : ∀ {ts : List TypeId} {vs : List Value} {ds : List (DataW H)} {ps : List MemPlace}, (∀ t ∈ ts, t ∈ S) → (∀ (j : Nat) (t : TypeId) (v : Value), ts[j]? = some t → vs[j]? = some v → Value.okWide P W .any base t v) →
    DataW.TrodAll enc P W 0 (fun _ => true) true ts vs ds ps → ∃ as, Rs (firstGh W) as vs ∧ TyArgs P ts as
  | [], [], [], _, _, _, _ => ⟨[], by simp [Rs], rfl⟩
  | t :: ts, v :: vs, d :: ds, ps, ht, hok, h => by
    obtain ⟨p, q, h1, h2, _⟩ := h
    obtain ⟨a, h3, h4⟩ := arg_R hS (ht t (by simp)) (hok 0 t v rfl rfl) h1
    obtain ⟨as, h5, h6⟩ := args_R hS (fun t' ht' => ht t' (by simp [ht'])) (fun j t' v' hj hv => hok (j + 1) t' v' (by simpa using hj) (by simpa using hv)) h2
    exact ⟨a :: as, by simp only [Rs]; exact ⟨v, vs, rfl, h3, h5⟩, a, as, rfl, h4, h6⟩
  | [], _ :: _, _, _, _, _, h => h.elim
  | [], [], _ :: _, _, _, _, h => h.elim
  | _ :: _, [], _, _, _, _, h => h.elim
  | _ :: _, _ :: _, [], _, _, _, h => h.elim

def st0 : St := { heap := [], next := 0, low := 0 }
def bs0 (W : World) (gl : Nat → Option (List AV)) : Bs := { B0 := W.heap.size, w0 := W, gl, hB := Nat.le_refl _ }

theorem inv0 {gl : Nat → Option (List AV)} (hgl : ∀ n, gl n = none) : Inv (bs0 W gl) (firstGh W) st0.get W :=
  ⟨Below.refl _ _, fun n cs h => by simp [bs0, hgl] at h, fun _ _ _ h => h, fun id o h => by simp [st0, St.get, look] at h, fun i j oi oj h => by simp [st0, St.get, look] at h⟩

theorem whole0 : Whole st0 := ⟨fun id => by simp [st0, St.get, look, below], fun id o h => by simp [st0, St.get, look] at h⟩

/-- A law that the machine answers with true is true. -/
theorem law_calls {cx : Cx} (hcx : ∀ X : Bs, X.gl = cx.gl → CxP P X cx) (hgl : ∀ n, cx.gl n = none) {f : Nat} (hext : cx.ext f = none) {S : List TypeId} (hS : simpleSet P S = true) {ts : List TypeId} (hts : ∀ t ∈ ts, t ∈ S)
    (hlaw : ∀ as, TyArgs P ts as → ∃ k s', callF cx k f as st0 = some (.bool true, s')) {base : Nat} {args : Array Value} {ds : List (DataW H)} {ps : List MemPlace}
    (hok : ∀ (j : Nat) (t : TypeId) (v : Value), ts[j]? = some t → args[j]? = some v → Value.okWide P W .any base t v) (hA : DataW.TrodAll enc P W 0 (fun _ => true) true ts args.toList ds ps) :
    Calls P f args W fun e W' => e = .returned (.bool true) ∧ Below W.heap.size W W' := by
  obtain ⟨as, h1, h2⟩ := args_R hS hts (fun j t v hj hv => hok j t v hj (by simpa using hv)) hA
  obtain ⟨k, s', h3⟩ := hlaw as h2
  have := callF_calls (hcx (bs0 W cx.gl) rfl) k whole0 (TyArgs_al h2) hext h3 (inv0 hgl) h1
  rw [Array.toArray_toList] at this
  refine this.mono ?_
  rintro e w' ⟨u, rfl, σ', hst, hR⟩
  simp only [R] at hR
  subst hR
  exact ⟨rfl, hst.inv.below⟩

theorem trodAll_len {base : Nat} {sp : Nat → Bool} {hd : Bool} : ∀ {ts : List TypeId} {vs : List Value} {ds : List (DataW H)} {ps : List MemPlace}, DataW.TrodAll enc P W base sp hd ts vs ds ps → ds.length = ts.length
  | [], [], [], _, _ => rfl
  | t :: ts, v :: vs, d :: ds, ps, h => by obtain ⟨_, _, _, h2, _⟩ := h; simp [trodAll_len h2]
  | [], _ :: _, _, _, h => h.elim
  | [], [], _ :: _, _, h => h.elim
  | _ :: _, [], _, _, h => h.elim
  | _ :: _, _ :: _, [], _, h => h.elim

/-- The same, as the rows' builder wants it. -/
theorem law_lifted {a : Assume} {C : Checked} {os : Os} {f : FuncId} {fn : Func} {s : ChangeSpec} {conds : List PathCond} {apart fresh handsOn again : Bool} {cx : Cx} {S : List TypeId} {tb : TypeId}
    (own : ownKnob C.prog.godebug = none) (started : os.Started) (noInit : C.prog.inits.idxOf? f = none) (hfn : C.prog.funcs[f]? = some fn)
    (witness : ∃ (w : World) (tape : Tape) (i : Input), w.os = os ∧ (w.forCall tape i).Shaped C.prog ∧ i.vars = [] ∧ Input.okWide C.prog (w.forCall tape i) .any w.heap.size f i ∧
      s.pre6 enc C.prog fn conds apart (w.forCall tape i).memory i.args ∧ a.holds C.prog (lone (Frame.enter C.prog f i.args .normal) [] (w.forCall tape i)))
    (hl : laidOutB C.prog = true) (hcx : ∀ X : Bs, X.gl = cx.gl → CxP C.prog X cx) (hgl : ∀ n, cx.gl n = none) (hext : cx.ext f = none) (hS : simpleSet C.prog S = true)
    (hpar : ∀ t ∈ fn.params.toList, t ∈ S ∧ C.prog.readableRec t = true ∧ t < C.prog.types.size) (hvars : s.vars = []) (hres : fn.resultTypes = #[tb]) (htb : C.prog.underlying tb = some .bool)
    (hspec : ∀ ds : List (DataW H), ds.length = fn.params.size → s.fn H ds = { results := [.lit (.bool true)], args := ds })
    (hlaw : ∀ as, TyArgs C.prog fn.params.toList as → ∃ k s', callF cx k f as st0 = some (.bool true, s')) :
    ReturnsInHanded a C os f .any (s.pre6 enc C.prog fn conds apart) (s.post enc C.prog fn apart fresh handsOn again) := by
  refine returnsInHanded_of_change own started noInit hfn witness ?_
  intro W base args ds gs before hval hW _ _
  have hW0 := hW
  obtain ⟨p, q, hA, hV, _, _, _⟩ := hW0
  rw [hvars] at hV
  cases gs with
  | cons g gs => exact hV.elim
  | nil =>
    refine (law_calls hcx hgl hext hS (fun t ht => (hpar t ht).1) hlaw (fun j t v hj hv => hval j t v (by simpa using hj) hv) hA).mono ?_
    rintro e W' ⟨rfl, hb⟩
    refine ⟨_, rfl, post_true hl hW hb (fun t ht => (hpar t ht).2) hvars hres htb ?_⟩
    rw [List.append_nil]
    exact hspec ds (by rw [trodAll_len hA]; simp)
end
end Fw
