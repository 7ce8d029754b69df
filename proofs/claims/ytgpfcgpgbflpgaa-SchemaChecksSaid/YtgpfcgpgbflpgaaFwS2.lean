/- The operations that read or change memory, continued: new blocks, maps. -/
import Derived.Test.YtgpfcgpgbflpgaaFwS1
namespace Fw
open Go Go.RowKit

section
variable {P : Program} {X : Bs} {cx : Cx} {callee : Callee} {σ : Gh} {ρ : Env} {a : Act} {w w' : World} {s s' : St} {v : AV}

theorem run_nv {x : Sem Value} {u : Value} (h : x.run P w = .ok u w') : (do pure (Next.value (← x)) : Sem Next).run P w = .ok (.value u) w' := by simp [h]
theorem run_nu {x : Sem Unit} (h : x.run P w = .ok () w') : (do x; pure Next.skip : Sem Next).run P w = .ok .skip w' := by simp [h]

theorem new_get (s : St) (o : AObj) : ∀ j, (s.new o).get j = if j = s.next then some o else s.get j := fun j => get_new s o j

theorem Rs_take_all {as : List AV} {vs : List Value} (h : Rs σ as vs) : Rs σ as (vs.take as.length) := by
  rw [List.take_of_length_le (by rw [Rs_length _ _ h]; exact Nat.le_refl _)]; exact h

/-- A variable of its own. -/
theorem new_stepG {g g' : Hp} {n : Nat} (hI : Inv X σ g w) (hn : g n = none) {ty : Option TypeId} {cs : List AV} (hg' : ∀ j, g' j = if j = n then some (.cells ty cs) else g j) {c : Array Value} (E : TypeId) (hal : alAll (dm g) cs = true) (hR : Rs σ cs c.toList) (hty : ∀ t, ty = some t → E = t) :
    Step X σ g w (σ.setφ n w.heap.size) g' (w.alloc (.cells c E)) := by
  have hl := Rs_length _ _ hR
  simp only [Array.length_toList] at hl
  exact Step.newCells hI hn hg' hal E (0, 0) (fun j _ h => by simp at h) (by omega) (Rs_take_all hR) (fun t ht => ⟨hty t ht, hl⟩)

theorem new_step (hw : Whole s) (hI : Inv X σ s.get w) {ty : Option TypeId} {cs : List AV} {c : Array Value} (E : TypeId) (hal : alAll (below s.next) cs = true) (hR : Rs σ cs c.toList) (hty : ∀ t, ty = some t → E = t) :
    Step X σ s.get w (σ.setφ s.next w.heap.size) (s.new (.cells ty cs)).get (w.alloc (.cells c E)) :=
  new_stepG hI (next_none hw) (new_get s _) E (by rw [dm_get hw]; exact hal) hR hty

theorem R_newptr (σ : Gh) (n b : Nat) : R (σ.setφ n b) (.ptr n 0) (.pointer (some ⟨b, 0, none⟩)) := by simp [R, Gh.setφ]

theorem alloc_leftG {g g' : Hp} {n : Nat} (hI : Inv X σ g w) (hn : g n = none) {t : TypeId} {z : AV} (hg' : ∀ j, g' j = if j = n then some (.cells (some t) z.cells) else g j) (hz : tzero P t = some z) (hs : alAll (fun _ => false) z.cells = true) :
    LeftG X σ g w (.ptr n 0) g' ((do pure (Next.value (← Instr.alloc t true (.tuple #[]))) : Sem Next).run P w) := by
  obtain ⟨u, i, h1, h2, h3, h4, h5⟩ := run_tzero (w := w) hz
  refine ⟨.pointer (some ⟨w.heap.size, 0, none⟩), w.alloc (.cells u.cells t), _, new_stepG hI hn hg' t (alAll_false hs) (R_cells (ofConst_R h3 σ)) (fun _ e => Option.some.inj e), R_newptr σ _ _, .inl ?_⟩
  apply run_nv
  simp [Instr.alloc, h2, newVar, newRow]

theorem box_leftG {g g' : Hp} {n : Nat} (hI : Inv X σ g w) (hn : g n = none) {t : TypeId} {x : AV} {u : Value} (hg' : ∀ j, g' j = if j = n then some (.cells (some t) x.cells) else g j) (hx : R σ x u) (hal : x.al (dm g) = true) :
    LeftG X σ g w (.ptr n 0) g' ((do pure (Next.value (← Instr.box t u)) : Sem Next).run P w) := by
  refine ⟨.pointer (some ⟨w.heap.size, 0, none⟩), w.alloc (.cells u.cells t), _, new_stepG hI hn hg' t (al_cells hal) (R_cells hx) (fun _ e => Option.some.inj e), R_newptr σ _ _, .inl ?_⟩
  apply run_nv
  simp [Instr.box, newVar, newRow]

theorem load_leftG {h : Hp} (hI : Inv X σ h w) {g : Bool} {n : Nat} {t : TypeId} {x : AV} {u : Value} (hh : ∀ id off, x = .ptr id off → h id = s.get id) (hg : tagg P t = some g) (hn : tsz P t = some n) (hx : R σ x u) (he : loadA s g n x = some v) :
    LeftG X σ h w v h ((do pure (Next.value (← Instr.loadAt t u)) : Sem Next).run P w) := by
  obtain ⟨b, o, rfl, u', h1, h2⟩ := load_R hI hh hg hn hx he
  refine LeftG.same hI (run_nv ?_) h2
  simp [Instr.loadAt, Instr.sureAddr, h1]

theorem store_leftG {g g' : Hp} (hw : Whole s) (hI : Inv X σ g w) {n : Nat} {t : TypeId} {y x : AV} {uy ux : Value} (hh : ∀ id off, y = .ptr id off → g id = s.get id ∧ ∀ j, g' j = if j = id then s'.get id else g j) (hn : tsz P t = some n) (hy : R σ y uy) (hx : R σ x ux) (hal : x.al (dm g) = true) (he : storeA s n y x = some s') :
    LeftG X σ g w AV.undef g' ((do Instr.storeAt t uy ux; pure Next.skip : Sem Next).run P w) := by
  unfold storeA at he
  split at he
  · rename_i id off
    split at he
    · rename_i ty cs hcs
      split at he
      · rename_i hq
        simp only [Option.map_eq_some_iff] at he; obtain ⟨ds, h1, rfl⟩ := he
        simp only [R] at hy; subst hy
        obtain ⟨hg1, hg2⟩ := hh _ _ rfl
        obtain ⟨w', h2, h3⟩ := store_stepG (P := P) (g' := g') hI (hg1.trans hcs) (fun j => by rw [hg2 j, get_set' hw hcs, if_pos rfl]) (R_cells hx) (al_cells hal) hq.2 h1
        refine ⟨undef, w', σ, h3, R_undef σ, .inr ⟨rfl, ?_⟩⟩
        have hl := Rs_length _ _ (R_cells hx)
        simp only [Array.length_toList] at hl
        have hsz : ux.cells.size = n := by omega
        simp [Instr.storeAt, Instr.sureAddr, storeVar, run_tsz hn, hsz, h2]
      · cases he
    · cases he
  · cases he

theorem alloc_left (hw : Whole s) (hI : Inv X σ s.get w) {t : TypeId} {z : AV} (hz : tzero P t = some z) (hs : alAll (fun _ => false) z.cells = true) :
    Left X σ s w (.ptr s.next 0) (s.new (.cells (some t) z.cells)) ((do pure (Next.value (← Instr.alloc t true (.tuple #[]))) : Sem Next).run P w) := alloc_leftG hI (next_none hw) (new_get s _) hz hs
theorem box_left (hw : Whole s) (hI : Inv X σ s.get w) {t : TypeId} {x : AV} {u : Value} (hx : R σ x u) (hal : x.al (below s.next) = true) :
    Left X σ s w (.ptr s.next 0) (s.new (.cells (some t) x.cells)) ((do pure (Next.value (← Instr.box t u)) : Sem Next).run P w) := box_leftG hI (next_none hw) (new_get s _) hx (by rw [dm_get hw]; exact hal)
theorem load_left (hI : Inv X σ s.get w) {g : Bool} {n : Nat} {t : TypeId} {x : AV} {u : Value} (hg : tagg P t = some g) (hn : tsz P t = some n) (hx : R σ x u) (he : loadA s g n x = some v) :
    Left X σ s w v s ((do pure (Next.value (← Instr.loadAt t u)) : Sem Next).run P w) := load_leftG hI (fun _ _ _ => rfl) hg hn hx he
theorem store_left (hw : Whole s) (hI : Inv X σ s.get w) {n : Nat} {t : TypeId} {y x : AV} {uy ux : Value} (hn : tsz P t = some n) (hy : R σ y uy) (hx : R σ x ux) (hal : x.al (below s.next) = true) (he : storeA s n y x = some s') :
    Left X σ s w AV.undef s' ((do Instr.storeAt t uy ux; pure Next.skip : Sem Next).run P w) :=
  store_leftG hw hI (fun id off e => ⟨rfl, fun j => by
    subst e
    simp only [storeA] at he
    split at he
    · rename_i cs hcs
      split at he
      · simp only [Option.map_eq_some_iff] at he; obtain ⟨ds, h1, rfl⟩ := he
        rw [get_set' hw hcs, get_set' hw hcs, if_pos rfl]
      · cases he
    · cases he⟩) hn hy hx (by rw [dm_get hw]; exact hal) he

/- maps -/
theorem keyOk_und {kt : TypeId} {kk : CK} (hk : keyOk P kt = some kk) : ∃ d, P.underlying kt = some d ∧ (∀ (w : World) (e : Bool) (u : Value), (Instr.checkKey e 10000 kt u).run P w = .ok () w) ∧
    (∀ {k j : AV} {u uj : Value} {b : Bool}, cellEqK kk k j = some b → R σ k u → R σ j uj → Instr.sameNow d u uj = some b ∧ (b = true → Instr.sameBits 10000 uj u = true)) := by
  have hb : ∀ x y : List UInt8, ((⟨x.toArray⟩ : ByteArray) == ⟨y.toArray⟩) = (x == y) := by
    intro x y
    show (x.toArray == y.toArray) = _
    simp
  have key : ∀ {k j : AV} {u uj : Value} {b : Bool} {d : TypeDesc}, (match kk with | .int => ∃ q, d = .int q | .str => d = .string | .bool => d = .bool) → cellEqK kk k j = some b → R σ k u → R σ j uj → Instr.sameNow d u uj = some b ∧ (b = true → Instr.sameBits 10000 uj u = true) := by
    intro k j u uj b d hd he h1 h2
    unfold cellEqK at he
    split at he
    · rename_i k1 a k2 c
      by_cases hkk : k1 = k2
      case neg => rw [if_neg hkk] at he; cases he
      rw [if_pos hkk] at he; cases he
      simp only [R] at h1 h2; subst h1 h2; subst hkk
      obtain ⟨q, rfl⟩ := hd
      refine ⟨by simp [Instr.sameNow], fun h => ?_⟩
      simp at h; subst h; simp [Instr.sameBits]
    · cases he
      simp only [R] at h1 h2; subst h1 h2; subst hd
      refine ⟨by simp [Instr.sameNow, hb], fun h => ?_⟩
      simp at h; subst h; simp [Instr.sameBits, hb]
    · cases he
      simp only [R] at h1 h2; subst h1 h2; subst hd
      refine ⟨by simp [Instr.sameNow], fun h => ?_⟩
      simp at h; subst h; simp [Instr.sameBits]
    · cases he
  unfold keyOk at hk
  split at hk <;> cases hk <;> rename_i hu <;> refine ⟨_, hu, ?_, ?_⟩
  · intro w e u; rw [Instr.checkKey]; simp [run_und hu]
  · intro k j u uj b he h1 h2; exact key ⟨_, rfl⟩ he h1 h2
  · intro w e u; rw [Instr.checkKey]; simp [run_und hu]
  · intro k j u uj b he h1 h2; exact key rfl he h1 h2
  · intro w e u; rw [Instr.checkKey]; simp [run_und hu]
  · intro k j u uj b he h1 h2; exact key rfl he h1 h2

theorem mapFind_R {d : TypeDesc} {kk : CK} {k : AV} {u : Value} (hd : ∀ {k j : AV} {u uj : Value} {b : Bool}, cellEqK kk k j = some b → R σ k u → R σ j uj → Instr.sameNow d u uj = some b ∧ (b = true → Instr.sameBits 10000 uj u = true)) (hk : R σ k u) :
    ∀ (es : List (AV × AV)) {ms : List MapEntry} {r : Option AV} (i : Nat), mapFind kk k es = some r → Rs σ (es.map (·.1)) (ms.map (·.key)) → Rs σ (es.map (·.2)) (ms.map (·.val)) →
      ∃ q, Instr.findNow d u ms i = some q ∧ (r = none → q = none) ∧ ∀ x, r = some x → ∃ j uv, q = some (j, uv) ∧ R σ x uv
  | [], ms, r, i, he, h1, _ => by
    have : ms = [] := by simpa [Rs] using h1
    subst this
    simp only [mapFind, Option.some.injEq] at he; subst he
    exact ⟨none, rfl, fun _ => rfl, fun x hx => by cases hx⟩
  | (j, v) :: es, ms, r, i, he, h1, h2 => by
    cases ms with
    | nil => simp [Rs] at h1
    | cons m ms =>
      simp only [List.map_cons, Rs, List.cons.injEq] at h1 h2
      obtain ⟨uj, _, ⟨rfl, rfl⟩, h3, h4⟩ := h1
      obtain ⟨uv, _, ⟨rfl, rfl⟩, h5, h6⟩ := h2
      simp only [mapFind] at he
      split at he
      · rename_i hq
        cases he
        exact ⟨some (i, m.val), by simp [Instr.findNow, (hd hq hk h3).1], by simp, by intro x hx; cases hx; exact ⟨i, _, rfl, h5⟩⟩
      · rename_i hq
        obtain ⟨q, h7, h8⟩ := mapFind_R hd hk es (i + 1) he h4 h6
        exact ⟨q, by simp [Instr.findNow, (hd hq hk h3).1, h7], h8⟩
      · cases he

theorem mapPut_R {d : TypeDesc} {kk : CK} {k : AV} {u : Value} (hd : ∀ {k j : AV} {u uj : Value} {b : Bool}, cellEqK kk k j = some b → R σ k u → R σ j uj → Instr.sameNow d u uj = some b ∧ (b = true → Instr.sameBits 10000 uj u = true)) (hk : R σ k u) (val : AV) {uval : Value} (hv : R σ val uval) :
    ∀ (es : List (AV × AV)) {es' : List (AV × AV)} {ms : List MapEntry} (i : Nat), mapPut kk k val es = some es' → Rs σ (es.map (·.1)) (ms.map (·.key)) → Rs σ (es.map (·.2)) (ms.map (·.val)) →
      (Instr.findNow d u ms i = some none ∧ ∀ born, Rs σ (es'.map (·.1)) ((ms ++ [(⟨u, uval, born⟩ : MapEntry)]).map (·.key)) ∧ Rs σ (es'.map (·.2)) ((ms ++ [(⟨u, uval, born⟩ : MapEntry)]).map (·.val))) ∨
      ∃ j x m, Instr.findNow d u ms i = some (some (i + j, x)) ∧ ms[j]? = some m ∧ Instr.sameBits 10000 m.key u = true ∧
        Rs σ (es'.map (·.1)) ((ms.modify j fun e : MapEntry => { e with key := u, val := uval }).map (·.key)) ∧ Rs σ (es'.map (·.2)) ((ms.modify j fun e : MapEntry => { e with key := u, val := uval }).map (·.val))
  | [], es', ms, i, he, h1, _ => by
    have : ms = [] := by simpa [Rs] using h1
    subst this
    simp only [mapPut, Option.some.injEq] at he; subst he
    exact .inl ⟨rfl, fun born => ⟨by simp [Rs, hk], by simp [Rs, hv]⟩⟩
  | (j, v) :: es, es', ms, i, he, h1, h2 => by
    cases ms with
    | nil => simp [Rs] at h1
    | cons m ms =>
      simp only [List.map_cons, Rs, List.cons.injEq] at h1 h2
      obtain ⟨uj, _, ⟨rfl, rfl⟩, h3, h4⟩ := h1
      obtain ⟨uv, _, ⟨rfl, rfl⟩, h5, h6⟩ := h2
      simp only [mapPut] at he
      split at he
      · rename_i hq
        cases he
        refine .inr ⟨0, m.val, m, by simp [Instr.findNow, (hd hq hk h3).1], rfl, (hd hq hk h3).2 rfl, ?_, ?_⟩
        · simp only [List.modify_cons, List.map_cons, Rs]; exact ⟨_, _, rfl, hk, h4⟩
        · simp only [List.modify_cons, List.map_cons, Rs]; exact ⟨_, _, rfl, hv, h6⟩
      · rename_i hq
        simp only [Option.map_eq_some_iff] at he; obtain ⟨es2, h7, rfl⟩ := he
        rcases mapPut_R hd hk val hv es (i + 1) h7 h4 h6 with ⟨h8, h9⟩ | ⟨j', x, m', h8, h9, h10, h11, h12⟩
        · refine .inl ⟨by simp [Instr.findNow, (hd hq hk h3).1, h8], fun born => ⟨?_, ?_⟩⟩
          · simp only [List.cons_append, List.map_cons, Rs]; exact ⟨_, _, rfl, h3, (h9 born).1⟩
          · simp only [List.cons_append, List.map_cons, Rs]; exact ⟨_, _, rfl, h5, (h9 born).2⟩
        · refine .inr ⟨j' + 1, x, m', ?_, by simpa using h9, h10, ?_, ?_⟩
          · rw [show i + (j' + 1) = i + 1 + j' by omega]
            simp [Instr.findNow, (hd hq hk h3).1, h8]
          · simp only [List.modify_cons, Nat.succ_ne_zero, if_false, Nat.add_one_sub_one, List.map_cons, Rs]; exact ⟨_, _, rfl, h3, h11⟩
          · simp only [List.modify_cons, Nat.succ_ne_zero, if_false, Nat.add_one_sub_one, List.map_cons, Rs]; exact ⟨_, _, rfl, h5, h12⟩
      · cases he

/-- A map's entries. -/
theorem entries_R (hI : Inv X σ s.get w) {m : AV} {u : Value} {es : List (AV × AV)} (hm : R σ m u) (he : entriesOf s m = some es) :
    (u = .map none ∧ es = []) ∨ ∃ r ms ck, u = .map (some r) ∧ w.heap[r]? = some (.map ms ck) ∧ Rs σ (es.map (·.1)) (ms.toList.map (·.key)) ∧ Rs σ (es.map (·.2)) (ms.toList.map (·.val)) := by
  unfold entriesOf at he
  split at he
  · cases he; simp only [R] at hm; exact .inl ⟨hm, rfl⟩
  · rename_i id
    split at he
    · rename_i es' hg
      cases he
      simp only [R] at hm
      obtain ⟨_, ⟨⟨ms, ck, h1, h2, h3⟩, _⟩, _⟩ := hI.obj id _ hg
      exact .inr ⟨_, ms, ck, hm, h1, h2, h3⟩
    · cases he
  · cases he

theorem look_left (hI : Inv X σ s.get w) {t kt et : TypeId} {kk : CK} {m k z : AV} {um uk : Value} {ok : Bool} {es : List (AV × AV)} {r : Option AV} (ht : P.underlying t = some (.map kt et)) (hkk : keyOk P kt = some kk) (hz : tzero P et = some z)
    (hm : R σ m um) (hk : R σ k uk) (he : entriesOf s m = some es) (hf : mapFind kk k es = some r) :
    Left X σ s w (if ok then .tuple [r.getD z, .bool r.isSome] else r.getD z) s ((do pure (Next.value (← Instr.lookup t um uk ok)) : Sem Next).run P w) := by
  obtain ⟨d, hd, hck, hcmp⟩ := keyOk_und (P := P) (σ := σ) hkk
  obtain ⟨zu, i, h1, h2, h3, _, _⟩ := run_tzero (w := w) hz
  have hzR := ofConst_R h3 σ
  have key : ∀ (ms : Array MapEntry), Rs σ (es.map (·.1)) (ms.toList.map (·.key)) → Rs σ (es.map (·.2)) (ms.toList.map (·.val)) → ∃ q, (Instr.findKey kt uk ms.toList).run P w = .ok q w ∧ ((q = none ∧ r = none) ∨ ∃ x j uv, r = some x ∧ q = some (j, uv) ∧ R σ x uv) := by
    intro ms h4 h5
    obtain ⟨q, h6, h7, h8⟩ := mapFind_R hcmp hk es 0 hf h4 h5
    refine ⟨q, MapKept.run_findKey hd h6, ?_⟩
    cases r with
    | none => exact .inl ⟨h7 rfl, rfl⟩
    | some x => obtain ⟨j, uv, h9, h10⟩ := h8 x rfl; exact .inr ⟨x, j, uv, rfl, h9, h10⟩
  have fin : ∀ (ms : Array MapEntry), Rs σ (es.map (·.1)) (ms.toList.map (·.key)) → Rs σ (es.map (·.2)) (ms.toList.map (·.val)) →
      ∃ q uv b, (Instr.findKey kt uk ms.toList).run P w = .ok q w ∧ ((q = none ∧ uv = zu ∧ b = false) ∨ ∃ j, q = some (j, uv) ∧ b = true) ∧ R σ (r.getD z) uv ∧ b = r.isSome := by
    intro ms h4 h5
    obtain ⟨q, h6, h7⟩ := key ms h4 h5
    rcases h7 with ⟨rfl, rfl⟩ | ⟨x, j, uv, rfl, rfl, h8⟩
    · exact ⟨none, zu, false, h6, .inl ⟨rfl, rfl, rfl⟩, hzR, rfl⟩
    · exact ⟨_, uv, true, h6, .inr ⟨j, rfl, rfl⟩, h8, rfl⟩
  have post : ∀ (u : Value) (b : Bool), R σ (r.getD z) u → b = r.isSome → R σ (if ok then .tuple [r.getD z, .bool r.isSome] else r.getD z) (if ok then .tuple #[u, .bool b] else u) := by
    intro u b h1 h2
    cases ok with
    | true => simp only [if_true, R]; exact ⟨_, rfl, by simp [Rs, R, h1, h2]⟩
    | false => simpa using h1
  rcases entries_R hI hm he with ⟨rfl, rfl⟩ | ⟨rr, ms, ck, rfl, h4, h5, h6⟩
  · obtain ⟨q, uv, b, h7, h8, h9, h10⟩ := fin #[] (by simp [Rs]) (by simp [Rs])
    refine Left.same hI (run_nv (u := if ok then .tuple #[uv, .bool b] else uv) ?_) (post uv b h9 h10)
    simp only [Instr.lookup, Sem.run_bind, run_und ht, Result.andThen_ok, Sem.run_pure, hck, h7]
    rcases h8 with ⟨rfl, rfl, rfl⟩ | ⟨j, rfl, rfl⟩
    · simp [h2]
    · simp
  · obtain ⟨q, uv, b, h7, h8, h9, h10⟩ := fin ms h5 h6
    refine Left.same hI (run_nv (u := if ok then .tuple #[uv, .bool b] else uv) ?_) (post uv b h9 h10)
    simp only [Instr.lookup, Sem.run_bind, run_und ht, Result.andThen_ok, Sem.run_pure, hck, h7, MapKept.run_getObj_map h4]
    rcases h8 with ⟨rfl, rfl, rfl⟩ | ⟨j, rfl, rfl⟩
    · simp [h2]
    · simp

theorem lenm_left (hI : Inv X σ s.get w) {t kt et ty : TypeId} {ts : Array TypeId} {m : AV} {um : Value} {es : List (AV × AV)} (h0 : ts[0]? = some t) (ht : P.underlying t = some (.map kt et))
    (hm : R σ m um) (he : entriesOf s m = some es) :
    Left X σ s w (.int .i64 es.length) s ((do pure (Next.value (← Builtin.len_ ts ty #[um])) : Sem Next).run P w) := by
  refine Left.same hI (run_nv (u := .int .i64 es.length) ?_) rfl
  rcases entries_R hI hm he with ⟨rfl, rfl⟩ | ⟨rr, ms, ck, rfl, h4, h5, h6⟩
  · simp [Builtin.len_, h0, run_und ht, goInt]
  · have hl := Rs_length _ _ h5
    simp at hl
    simp [Builtin.len_, h0, run_und ht, goInt, MapKept.run_getObj_map h4, hl]

/-- A map changes. -/
theorem Step.setMap {g g' : Hp} (hI : Inv X σ g w) {n : Nat} {es es' : List (AV × AV)} (hn : g n = some (.map es)) (hg : ∀ j, g' j = if j = n then some (.map es') else g j) (hal : (AObj.map es').al (dm g) = true)
    {ms ms' : Array MapEntry} {ck ck' : Nat} (hc : w.heap[σ.φ n]? = some (.map ms ck)) (h1 : Rs σ (es'.map (·.1)) (ms'.toList.map (·.key))) (h2 : Rs σ (es'.map (·.2)) (ms'.toList.map (·.val))) :
    Step X σ g w σ g' { w with heap := w.heap.setIfInBounds (σ.φ n) (.map ms' ck') } := by
  obtain ⟨_, hok, hbase⟩ := hI.obj n _ hn
  have hnoG : ∀ q v, ¬ σ.G (σ.φ n) q v := hok.2
  have hlt := block_lt hc
  have hdd : ∀ i, dm g i = true → dm g' i = true := fun i hi => by simp only [dm, hg]; split <;> simp_all [dm]
  have hother : ∀ b, b ≠ σ.φ n → (w.heap.setIfInBounds (σ.φ n) (.map ms' ck'))[b]? = w.heap[b]? := fun b hb => by
    rw [Array.getElem?_setIfInBounds]; rw [if_neg (Ne.symm hb)]
  have hbl : Below X.B0 X.w0 { w with heap := w.heap.setIfInBounds (σ.φ n) (.map ms' ck') } :=
    hI.below.trans ⟨rfl, rfl, rfl, by simp, fun k hk => hother k (by simp only [blk] at hbase; omega)⟩
  refine Step.change n (fun b => b = σ.φ n) hI hbl (by simp) (Ext.refl _ _) ?_ ?_ ?_ ?_ ?_ ?_ ?_ ?_ ?_
  · intro j p hp hj hb; exact hI.inj j n p _ hp hn hj hb
  · intro b _ hb; exact hother b hb
  · intro b hb _; subst hb; exact ⟨_, hn, rfl⟩
  · intro b q v hv hb; subst hb; exact absurd hv (hnoG q v)
  · intro b q v hv; exact .inl hv
  · intro j hj; rw [hg j, if_neg hj]
  · intro j _; rfl
  · exact hdd n
  · intro p hp
    rw [hg n, if_pos rfl] at hp; cases hp
    refine ⟨AObj.al_mono hdd hal, ⟨⟨ms', ck', ?_, h1, h2⟩, hnoG⟩, hbase, .inl rfl⟩
    show (w.heap.setIfInBounds (σ.φ n) (.map ms' ck'))[σ.φ n]? = _
    rw [Array.getElem?_setIfInBounds]; simp [hlt]

theorem mupd_left (hw : Whole s) (hI : Inv X σ s.get w) {t kt et : TypeId} {kk : CK} {k x : AV} {um uk ux : Value} {id : Nat} {es es' : List (AV × AV)} (ht : P.underlying t = some (.map kt et)) (hkk : keyOk P kt = some kk)
    (hm : R σ (.map id) um) (hk : R σ k uk) (hx : R σ x ux) (hkal : k.al (below s.next) = true) (hxal : x.al (below s.next) = true) (he : s.get id = some (.map es)) (hf : mapPut kk k x.strip es = some es') :
    Left X σ s w AV.undef (s.set id (.map es')) ((do Instr.mapUpdate t um uk ux; pure Next.skip : Sem Next).run P w) := by
  obtain ⟨d, hd, hck, hcmp⟩ := keyOk_und (P := P) (σ := σ) hkk
  simp only [R] at hm; subst hm
  obtain ⟨hal, ⟨⟨ms, ck, h1, h2, h3⟩, _⟩, _⟩ := hI.obj id _ he
  have hal' : (AObj.map es').al (dm s.get) = true := by
    rw [dm_get hw] at hal ⊢
    exact mapPut_al hkal (al_strip hxal) es es' hal hf
  rcases mapPut_R hcmp hk x.strip (R_strip hx) es 0 hf h2 h3 with ⟨h4, h5⟩ | ⟨j, y, m, h4, h5, h6, h7, h8⟩
  · refine ⟨undef, _, σ, Step.setMap (ms' := ms.push ⟨uk, ux, ck⟩) (ck' := ck + 1) hI he (fun j => get_set' hw he j) hal' h1 ?_ ?_, R_undef σ, .inr ⟨rfl, run_nu ?_⟩⟩
    · simpa using (h5 ck).1
    · simpa using (h5 ck).2
    · simp [Instr.mapUpdate, run_und ht, MapKept.run_getObj_map h1, hck, MapKept.run_findKey hd h4, MapKept.run_setObj_map _ h1]
  · rw [Nat.zero_add] at h4
    refine ⟨undef, _, σ, Step.setMap (ms' := ms.modify j fun e => { e with key := uk, val := ux }) (ck' := ck) hI he (fun j => get_set' hw he j) hal' h1 ?_ ?_, R_undef σ, .inr ⟨rfl, run_nu ?_⟩⟩
    · simpa using h7
    · simpa using h8
    · have h5' : ms[j]? = some m := by simpa using h5
      simp [Instr.mapUpdate, run_und ht, MapKept.run_getObj_map h1, hck, MapKept.run_findKey hd h4, MapKept.run_setObj_map _ h1, h5', Instr.keyThatStays, h6]

theorem mkmap_left (hw : Whole s) (hI : Inv X σ s.get w) {t : TypeId} : Left X σ s w (.map s.next) (s.new (.map [])) ((do pure (Next.value (← Instr.makeMap t none)) : Sem Next).run P w) := by
  refine ⟨.map (some w.heap.size), w.alloc (.map #[] 0), σ.setφ s.next w.heap.size, Step.newObj hI (next_none hw) _ _ (new_get s _) rfl (by simp) ?_, by simp [R, Gh.setφ], .inl (run_nv ?_)⟩
  · simp only [ObjOk]
    have e : (σ.setφ s.next w.heap.size).φ s.next = w.heap.size := by simp [Gh.setφ]
    rw [e]
    exact ⟨⟨#[], 0, heap_alloc_new w _, by simp [Rs], by simp [Rs]⟩, fun q v h => noG_new hI q v h⟩
  · simp [Instr.makeMap]
end
end Fw
