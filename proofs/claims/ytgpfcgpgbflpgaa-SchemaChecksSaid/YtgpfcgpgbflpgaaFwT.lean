/- Every operation. -/
import Derived.Test.YtgpfcgpgbflpgaaFwS4
namespace Fw
open Go Go.RowKit

section
variable {P : Program} {X : Bs} {cx : Cx} {callee : Callee} {σ : Gh} {ρ : Env} {a : Act} {w w' : World} {s s' : St} {v : AV} {K : Act → World → Prop} {Q : Exit → Act → World → Prop}

theorem LeftG.wp {g g' : Hp} {ob : Oper} (h : LeftG X σ g w v g' ((execOp a.eval ob).run P w)) {a' : Act} (hK : ∀ σ' u w', Step X σ g w σ' g' w' → R σ' v u → K (a'.put ob.dst u) w') : ob.upon P a' K Q ((execOp a.eval ob).run P w) := by
  obtain ⟨u, w', σ', h1, h2, h3 | ⟨rfl, h3⟩⟩ := h
  · rw [h3]; exact hK σ' u w' h1 h2
  · rw [h3]; exact hK σ' _ w' h1 h2

theorem args_map (a : Act) (xs : Array Operand) : (xs.map a.eval).toList = xs.toList.map a.eval := by simp

theorem call_sound (hX : cx.gl = X.gl) (hGl : cx.GlOk) (hc : CallOk P X callee) (hw : Whole s) (hρ : alAll (below s.next) ρ = true) (hI : Inv X σ s.get w) (hE : EnvOk σ ρ a) {d : Option Tmp} {ty : TypeId} {ps : String} {af : Array Edge} {gd : Option (Nat × Bool)} {c : Call} {f : Operand} (hf : c.callee = .value f) {fx : IX} {xs : List IX}
    (h1 : cX f = some fx) (h2 : cXs c.args.toList = some xs) (hs1 : fx.shut = true) (hs2 : xs.all IX.shut = true) (he : evOp cx callee ρ s (.call fx xs) = some (v, s'))
    {a' : Act} (hK : ∀ σ' u w', Step X σ s.get w σ' s'.get w' → R σ' v u → K (a'.put d u) w') : Oper.upon P ⟨d, .call c, ty, ps, af, gd⟩ a' K Q ((execOp a.eval ⟨d, .call c, ty, ps, af, gd⟩).run P w) := by
  have hG := hI.Gls hX
  simp only [evOp] at he
  split at he
  · rename_i g p q hfe
    simp only [Option.bind_eq_some_iff] at he; obtain ⟨vs, h3, h4⟩ := he
    have hfR := ev_R hG hE h1 hfe
    simp only [R] at hfR; obtain ⟨xp, xq, hfu, hp, hq⟩ := hfR
    have hargs := evs_R hG hE _ h2 h3
    have hal : alAll (below s.next) (p ++ vs ++ q) = true := by
      have ha := ev_al hGl hρ hs1 hfe
      simp only [AV.al, Bool.and_eq_true] at ha
      rw [alAll_append, alAll_append, ha.1, ha.2, evs_al hGl hρ xs hs2 h3]; rfl
    have hR : Rs σ (p ++ vs ++ q) (xp.toList ++ c.args.toList.map a.eval ++ xq.toList) := Rs_append (Rs_append hp hargs) hq
    have hdo := hc g _ s v s' hw hal h4 σ w _ hI hR
    have hrun : (execOp a.eval ⟨d, .call c, ty, ps, af, gd⟩).run P w = (callFunc g (xp.toList ++ c.args.toList.map a.eval ++ xq.toList).toArray).run P w := by
      simp only [execOp, resolve, hf, hfu, Deferred.ofValue, Sem.run_bind, Sem.run_pure, Result.andThen_ok, invoke]
      congr 2
      apply Array.ext'
      simp
    rw [hrun]
    exact hdo _ a' K Q fun u w' hA => by obtain ⟨σ', h5, h6⟩ := hA; exact hK σ' u w' h5 h6
  · cases he

theorem cXs_one {xs : Array Operand} {x : IX} (h : cXs xs.toList = some [x]) : ∃ x0, xs = #[x0] ∧ cX x0 = some x := by
  obtain ⟨l⟩ := xs
  match l, h with
  | [], h => simp [cXs] at h
  | [a], h => simp [cXs, Option.bind_eq_some_iff] at h; exact ⟨a, rfl, h⟩
  | a :: b :: l, h => simp [cXs, Option.bind_eq_some_iff] at h
theorem cXs_two {xs : Array Operand} {x y : IX} (h : cXs xs.toList = some [x, y]) : ∃ x0 y0, xs = #[x0, y0] ∧ cX x0 = some x ∧ cX y0 = some y := by
  obtain ⟨l⟩ := xs
  match l, h with
  | [], h => simp [cXs] at h
  | [a], h => simp [cXs, Option.bind_eq_some_iff] at h
  | [a, b], h => simp [cXs, Option.bind_eq_some_iff] at h; exact ⟨a, b, rfl, h⟩
  | a :: b :: c :: l, h => simp [cXs, Option.bind_eq_some_iff] at h

theorem bytesOf_R : ∀ (cs : List AV) {b : List UInt8} {vs : List Value}, bytesOf cs = some b → Rs σ cs vs → ∃ ns : List Int, vs = ns.map (Value.int .u8) ∧ b = ns.map fun n => UInt8.ofNat n.toNat
  | [], b, vs, h, hR => by
    simp only [bytesOf, Option.some.injEq] at h; subst h
    simp only [Rs] at hR; subst hR
    exact ⟨[], rfl, rfl⟩
  | c :: cs, b, vs, h, hR => by
    unfold bytesOf at h
    split at h
    · rename_i h0; cases h0
    · rename_i n cs' h0
      cases h0
      simp only [Option.map_eq_some_iff] at h; obtain ⟨b', h1, rfl⟩ := h
      simp only [Rs, R] at hR; obtain ⟨_, rest, rfl, rfl, h2⟩ := hR
      obtain ⟨ns, rfl, rfl⟩ := bytesOf_R cs h1 h2
      exact ⟨n :: ns, rfl, rfl⟩
    · cases h

theorem fold_bytes : ∀ (ns : List Int) (r : ByteArray), ns.foldl (fun r n => r.push (UInt8.ofNat n.toNat)) r = ⟨r.data ++ (ns.map fun n => UInt8.ofNat n.toNat).toArray⟩
  | [], r => by simp
  | n :: ns, r => by
    simp only [List.foldl_cons]
    rw [fold_bytes ns]
    simp [ByteArray.push]

theorem b2s_left (hI : Inv X σ s.get w) {src dst e : TypeId} {x : AV} {u : Value} {b : List UInt8} (hs : P.underlying src = some (.slice e)) (hd : P.underlying dst = some .string) (he : P.underlying e = some (.int .u8)) (hx : R σ x u)
    (hc : x = .nilslice ∧ b = [] ∨ (∀ t, x ≠ .str t) ∧ x ≠ .nilslice ∧ ∃ cs, cellsOf s 1 x = some cs ∧ bytesOf cs = some b) :
    Left X σ s w (.str b) s ((do pure (Next.value (← convert src dst u)) : Sem Next).run P w) := by
  rcases hc with ⟨rfl, rfl⟩ | ⟨h1, h2, cs, h3, h4⟩
  · simp only [R] at hx; subst hx
    refine Left.same hI (run_nv (u := .string .empty) ?_) rfl
    rw [run_convert_bytes_string w src dst e _ _ _ hs he hd]; rfl
  · obtain ⟨n, hn⟩ : ∃ n, x.count = some n := by
      cases x <;> simp [cellsOf] at h3 <;> exact ⟨_, rfl⟩
    obtain ⟨h5, h6, vs, h7, h8⟩ := cellsOf_R (P := P) hI hx h3 hn
    obtain ⟨ns, rfl, rfl⟩ := bytesOf_R cs h4 h7
    have hl := Rs_length _ _ h7
    have h9 := h8 w n rfl (Nat.le_refl _)
    rw [List.take_of_length_le (by omega)] at h9
    obtain ⟨a, cap, hu⟩ : ∃ a cap, u = .slice (some a) n cap := by
      cases x <;> simp [cellsOf] at h3
      · exact absurd rfl (h1 _)
      · exact absurd rfl h2
      · simp only [R] at hx; simp only [AV.count, Option.some.injEq] at hn; subst hn
        rcases hx with ⟨b, o, cap, rfl, _⟩ | ⟨_, rfl, _, a, rfl⟩ <;> exact ⟨_, _, rfl⟩
      · simp only [R] at hx; obtain ⟨c, rfl, _⟩ := hx; simp only [AV.count, Option.some.injEq] at hn; subst hn; exact ⟨_, _, rfl⟩
    subst hu
    simp only [Builtin.firstCells, Nat.mul_one] at h9
    have h10 := run_bytesToString w a n cap ns h9
    rw [fold_bytes] at h10
    refine Left.same hI (run_nv (u := .string ⟨(ns.map fun n : Int => UInt8.ofNat n.toNat).toArray⟩) ?_) rfl
    rw [run_convert_bytes_string w src dst e _ _ _ hs he hd, h10]
    congr 3
    simp

theorem op_sound (hX : cx.gl = X.gl) (hGl : cx.GlOk) (hc : CallOk P X callee) (hw : Whole s) (hρ : alAll (below s.next) ρ = true) (hI : Inv X σ s.get w) (hE : EnvOk σ ρ a) {ob : Oper} {io : IOp} (hcO : cOp P ob.op = some io) (hsh : io.shut = true)
    (he : evOp cx callee ρ s io = some (v, s')) {a' : Act} (hK : ∀ σ' u w', Step X σ s.get w σ' s'.get w' → R σ' v u → K (a'.put ob.dst u) w') : ob.upon P a' K Q ((execOp a.eval ob).run P w) := by
  have hG := hI.Gls hX
  by_cases hpl : io.plain = true ∧ ∀ z n ps, io ≠ .bslice z n ps
  · obtain ⟨u, h1, h2⟩ := plain_R hG hE hcO hpl.1 hpl.2 he w
    have := evOp_plain_state hpl.1 he; subst this
    rw [h1]; exact hK σ u w (Step.refl hI) h2
  have hnp : ∀ (h : io.plain = true), ∃ z n ps, io = .bslice z n ps := fun h => by
    by_cases hh : ∃ z n ps, io = .bslice z n ps
    · exact hh
    · exact absurd ⟨h, fun z n ps e => hh ⟨z, n, ps, e⟩⟩ hpl
  obtain ⟨d, o, ty, ps, af, gd⟩ := ob
  dsimp only at hcO
  cases o
  case makeFunc fn first cap =>
    cases fn <;> simp only [cOp] at hcO <;> try (cases hcO; done)
    simp only [Option.bind_eq_some_iff, Option.map_eq_some_iff] at hcO; obtain ⟨x, h1, y, h2, rfl⟩ := hcO
    obtain ⟨z, n, ps, h⟩ := hnp rfl; cases h
  case makeMap t r =>
    cases r <;> simp only [cOp] at hcO <;> cases hcO
    cases he
    exact (mkmap_left hw hI (t := t)).wp hK
  case alloc t =>
    simp only [cOp, Option.map_eq_some_iff] at hcO; obtain ⟨z, h1, rfl⟩ := hcO
    cases he
    exact (alloc_left hw hI h1 hsh).wp hK
  case box t x =>
    simp only [cOp, Option.map_eq_some_iff] at hcO; obtain ⟨ix, h1, rfl⟩ := hcO
    simp only [evOp, Option.map_eq_some_iff] at he; obtain ⟨b, h2, h3⟩ := he; cases h3
    exact (box_left hw hI (ev_R hG hE h1 h2) (ev_al hGl hρ hsh h2)).wp hK
  case buildSlice t len parts =>
    simp only [cOp] at hcO
    split at hcO
    · rename_i e ht
      simp only [Option.bind_eq_some_iff] at hcO; obtain ⟨n, h1, z, h2, h3⟩ := hcO
      split at h3
      · cases h3
      · rename_i hlim
        simp only [Option.map_eq_some_iff] at h3; obtain ⟨ips, h4, rfl⟩ := h3
        simp only [evOp, Option.map_eq_some_iff] at he; obtain ⟨cs, h5, h6⟩ := he; cases h6
        simp only [IOp.shut, Bool.and_eq_true] at hsh
        exact (bslice_left hI hG hE ht h1 h2 hlim h4 h5 (by rw [dm_get hw]; exact fillA_al hGl hρ ips _ _ hsh.2 (alAll_false hsh.1) h5)).wp hK
    · cases hcO
  case load t x =>
    simp only [cOp, Option.bind_eq_some_iff, Option.map_eq_some_iff] at hcO; obtain ⟨ix, h1, g, h2, n, h3, rfl⟩ := hcO
    simp only [evOp, Option.bind_eq_some_iff, Option.map_eq_some_iff] at he; obtain ⟨r, ⟨b, h4, h5⟩, h6⟩ := he; cases h6
    exact (load_left hI h2 h3 (ev_R hG hE h1 h4) h5).wp hK
  case store t x y =>
    simp only [cOp, Option.bind_eq_some_iff, Option.map_eq_some_iff] at hcO; obtain ⟨ix, h1, iy, h2, n, h3, rfl⟩ := hcO
    simp only [evOp, Option.bind_eq_some_iff, Option.map_eq_some_iff] at he; obtain ⟨b, h4, c, h5, t', h6, h7⟩ := he; cases h7
    simp only [IOp.shut, Bool.and_eq_true] at hsh
    exact (store_left hw hI h3 (ev_R hG hE h1 h4) (ev_R hG hE h2 h5) (ev_al hGl hρ hsh.2 h5) h6).wp hK
  case lookup t m k ok =>
    simp only [cOp] at hcO
    split at hcO
    · rename_i kt et ht
      simp only [Option.bind_eq_some_iff, Option.map_eq_some_iff] at hcO; obtain ⟨kk, h1, z, h2, im, h3, ik, h4, rfl⟩ := hcO
      simp only [evOp, Option.bind_eq_some_iff, Option.map_eq_some_iff] at he; obtain ⟨m', h5, k', h6, es, h7, r, h8, h9⟩ := he; cases h9
      exact (look_left hI ht h1 h2 (ev_R hG hE h3 h5) (ev_R hG hE h4 h6) h7 h8).wp hK
    · cases hcO
  case mapUpdate t m k x =>
    simp only [cOp] at hcO
    split at hcO
    · rename_i kt et ht
      simp only [Option.bind_eq_some_iff, Option.map_eq_some_iff] at hcO; obtain ⟨kk, h1, im, h3, ik, h4, ix, h5, rfl⟩ := hcO
      simp only [evOp, Option.bind_eq_some_iff] at he; obtain ⟨m', h6, k', h7, x', h8, h9⟩ := he
      simp only [IOp.shut, Bool.and_eq_true] at hsh
      split at h9
      · rename_i id
        split at h9
        · rename_i es hes
          simp only [Option.map_eq_some_iff] at h9; obtain ⟨es', h10, h11⟩ := h9; cases h11
          exact (mupd_left hw hI ht h1 (ev_R hG hE h3 h6) (ev_R hG hE h4 h7) (ev_R hG hE h5 h8) (ev_al hGl hρ hsh.1.2 h7) (ev_al hGl hρ hsh.2 h8) hes h10).wp hK
        · cases h9
      · cases h9
    · cases hcO
  case insert t m k x =>
    simp only [cOp] at hcO
    split at hcO
    · rename_i kt et ht
      simp only [Option.bind_eq_some_iff, Option.map_eq_some_iff] at hcO; obtain ⟨kk, h1, im, h3, ik, h4, ix, h5, rfl⟩ := hcO
      simp only [evOp, Option.bind_eq_some_iff] at he; obtain ⟨m', h6, k', h7, x', h8, h9⟩ := he
      simp only [IOp.shut, Bool.and_eq_true] at hsh
      split at h9
      · rename_i id
        split at h9
        · rename_i es hes
          simp only [Option.map_eq_some_iff] at h9; obtain ⟨es', h10, h11⟩ := h9; cases h11
          exact (mupd_left hw hI ht h1 (ev_R hG hE h3 h6) (ev_R hG hE h4 h7) (ev_R hG hE h5 h8) (ev_al hGl hρ hsh.1.2 h7) (ev_al hGl hρ hsh.2 h8) hes h10).wp hK
        · cases h9
      · cases h9
    · cases hcO
  case makeSlice t l c =>
    simp only [cOp] at hcO
    split at hcO
    · rename_i e ht
      simp only [Option.bind_eq_some_iff] at hcO; obtain ⟨z, h1, n, h2, by', h3, h4⟩ := hcO
      split at h4
      · cases h4
      · rename_i h0
        simp only [Option.bind_eq_some_iff, Option.map_eq_some_iff] at h4; obtain ⟨il, h5, ic, h6, rfl⟩ := h4
        simp only [evOp, Option.bind_eq_some_iff] at he; obtain ⟨l', h7, c', h8, h9⟩ := he
        simp only [IOp.shut, Bool.and_eq_true] at hsh
        split at h9
        · rename_i l0 c0
          split at h9
          · rename_i hq
            cases h9
            exact (mkslice_left hw hI ht h2 h3 h1 hsh.1.1 (ev_R hG hE h5 h7) (ev_R hG hE h6 h8) hq.1 hq.2.1 hq.2.2 (by omega)).wp hK
          · cases h9
        · cases h9
    · cases hcO
  case convert src dst x =>
    simp only [cOp, cConv, Option.bind_eq_some_iff] at hcO; obtain ⟨ix, h1, h2⟩ := hcO
    split at h2
    · cases h2; obtain ⟨z, n, ps, h⟩ := hnp rfl; cases h
    · cases h2; obtain ⟨z, n, ps, h⟩ := hnp rfl; cases h
    · rename_i e hs hd
      split at h2
      · rename_i heu
        cases h2
        simp only [evOp] at he
        split at he
        · rename_i ht; cases he
          exact (b2s_left hI hs hd heu (ev_R hG hE h1 ht) (.inl ⟨rfl, rfl⟩)).wp hK
        · cases he
        · rename_i x' hn1 hn2 ht
          simp only [Option.map_eq_some_iff, Option.bind_eq_some_iff] at he; obtain ⟨b, ⟨cs, h3, h4⟩, h5⟩ := he; cases h5
          exact (b2s_left hI hs hd heu (ev_R hG hE h1 ht) (.inr ⟨fun t e => hn2 t (e ▸ rfl), fun e => hn1 (e ▸ rfl), cs, h3, h4⟩)).wp hK
        · cases he
      · cases h2
    · rename_i e hs hd
      split at h2
      · rename_i heu
        cases h2
        simp only [evOp] at he
        split at he
        · rename_i t ht
          cases he
          exact (s2b_left hw hI hs hd heu (ev_R hG hE h1 ht)).wp hK
        · cases he
      · cases h2
    · cases h2; obtain ⟨z, n, ps, h⟩ := hnp rfl; cases h
    · cases h2
  case call c =>
    simp only [cOp] at hcO
    split at hcO
    · rename_i f hf
      simp only [Option.bind_eq_some_iff, Option.map_eq_some_iff] at hcO; obtain ⟨fx, h1, xs, h2, rfl⟩ := hcO
      simp only [IOp.shut, Bool.and_eq_true] at hsh
      exact call_sound hX hGl hc hw hρ hI hE hf h1 h2 hsh.1 hsh.2 he hK
    · rename_i b hb
      simp only [cBuiltin, Option.bind_eq_some_iff] at hcO; obtain ⟨xs, h1, h2⟩ := hcO
      obtain ⟨cal, args, ats⟩ := c
      dsimp only at hb h1 h2
      subst hb
      have hrun : ∀ (x : Sem Value), (∀ cs, builtin b ats ty cs (args.map a.eval) = (do pure (Next.value (← x)) : Sem Next)) →
          (execOp a.eval ⟨d, .call ⟨.builtin b, args, ats⟩, ty, ps, af, gd⟩).run P w = (do pure (Next.value (← x)) : Sem Next).run P w := fun x hx => by
        simp only [execOp, resolve, Sem.run_bind, Sem.run_pure, Result.andThen_ok, invoke]
        rw [hx]
        simp only [Sem.run_bind, Sem.run_pure]
      split at h2
      · rename_i x
        have hargs := cXs_one h1
        obtain ⟨x0, rfl, hx0⟩ := hargs
        split at h2
        · cases h2; obtain ⟨z, n, ps, h⟩ := hnp rfl; cases h
        · cases h2; obtain ⟨z, n, ps, h⟩ := hnp rfl; cases h
        · rename_i kt et ht
          cases h2
          simp only [evOp, Option.bind_eq_some_iff, Option.map_eq_some_iff] at he; obtain ⟨es, ⟨m, h3, h4⟩, h5⟩ := he; cases h5
          simp only [Option.bind_eq_some_iff] at ht; obtain ⟨t, ht1, ht2⟩ := ht
          refine LeftG.wp ?_ hK
          rw [hrun (Builtin.len_ ats ty #[a.eval x0]) (fun cs => by simp [builtin])]
          exact lenm_left hI ht1 ht2 (ev_R hG hE hx0 h3) h4
        · cases h2; obtain ⟨z, n, ps, h⟩ := hnp rfl; cases h
        · cases h2
      · cases h2; obtain ⟨z, n, ps, h⟩ := hnp rfl; cases h
      · cases h2; obtain ⟨z, n, ps, h⟩ := hnp rfl; cases h
      · rename_i x y
        have hargs := cXs_two h1
        obtain ⟨x0, y0, rfl, hx0, hy0⟩ := hargs
        split at h2
        · rename_i e dd ht1 ht2
          split at h2
          · cases h2
          · rename_i hni
            simp only [Option.bind_eq_some_iff] at h2 ht1 ht2; obtain ⟨n, h3, k, h4, z, h5, h6⟩ := h2
            split at h6 <;> cases h6
            rename_i h0
            simp only [evOp, Option.bind_eq_some_iff] at he; obtain ⟨a', h7, b', h8, h9⟩ := he
            simp only [IOp.shut, Bool.and_eq_true] at hsh
            obtain ⟨t1, h10, h11⟩ := ht1
            obtain ⟨t2, h12, h13⟩ := ht2
            refine LeftG.wp ?_ hK
            rw [hrun (Builtin.append_ ats ty #[a.eval x0, a.eval y0]) (fun cs => by simp [builtin])]
            exact app_left hw hI ⟨⟨t1, h10, h11⟩, ⟨t2, dd, h12, h13, fun i e => hni i e⟩, h3, h4, ⟨z, h5⟩, fun e => h0 (.inl e), fun e => h0 (.inr e)⟩ (ev_R hG hE hx0 h7) (ev_R hG hE hy0 h8) (ev_al hGl hρ hsh.1 h7) (ev_al hGl hρ hsh.2 h8) h9
        · cases h2
      · rename_i x y
        have hargs := cXs_two h1
        obtain ⟨x0, y0, rfl, hx0, hy0⟩ := hargs
        split at h2
        · rename_i e ht
          simp only [Option.map_eq_some_iff] at h2; obtain ⟨n, h3, rfl⟩ := h2
          simp only [Option.bind_eq_some_iff] at ht; obtain ⟨t, ht1, ht2⟩ := ht
          simp only [evOp, Option.bind_eq_some_iff] at he; obtain ⟨a', h7, b', h8, h9⟩ := he
          simp only [IOp.shut, Bool.and_eq_true] at hsh
          refine LeftG.wp ?_ hK
          rw [hrun (Builtin.copy_ ats ty #[a.eval x0, a.eval y0]) (fun cs => by simp [builtin])]
          exact copy_left hw hI ht1 ht2 h3 (ev_R hG hE hx0 h7) (ev_R hG hE hy0 h8) (ev_al hGl hρ hsh.2 h8) h9
        · cases h2
      · cases h2
    · cases hcO
  all_goals simp only [cOp] at hcO
  all_goals try (cases hcO; done)
  case move x => simp only [Option.map_eq_some_iff] at hcO; obtain ⟨_, _, rfl⟩ := hcO; obtain ⟨z, n, ps, h⟩ := hnp rfl; cases h
  case assign x => simp only [Option.map_eq_some_iff] at hcO; obtain ⟨_, _, rfl⟩ := hcO; obtain ⟨z, n, ps, h⟩ := hnp rfl; cases h
  case nilCheck x => simp only [Option.map_eq_some_iff] at hcO; obtain ⟨_, _, rfl⟩ := hcO; obtain ⟨z, n, ps, h⟩ := hnp rfl; cases h
  case unOp x => simp only [Option.map_eq_some_iff] at hcO; obtain ⟨_, _, rfl⟩ := hcO; obtain ⟨z, n, ps, h⟩ := hnp rfl; cases h
  case extract x => simp only [Option.map_eq_some_iff] at hcO; obtain ⟨_, _, rfl⟩ := hcO; obtain ⟨z, n, ps, h⟩ := hnp rfl; cases h
  case pick x => simp only [Option.bind_eq_some_iff, Option.map_eq_some_iff] at hcO; obtain ⟨_, _, _, _, _, _, rfl⟩ := hcO; obtain ⟨z, n, ps, h⟩ := hnp rfl; cases h
  case build x =>
    simp only [Option.bind_eq_some_iff] at hcO; obtain ⟨_, _, h2⟩ := hcO
    split at h2
    · simp only [Option.bind_eq_some_iff, Option.map_eq_some_iff] at h2; obtain ⟨_, _, _, _, rfl⟩ := h2; obtain ⟨z, n, ps, h⟩ := hnp rfl; cases h
    · simp only [Option.bind_eq_some_iff, Option.map_eq_some_iff] at h2; obtain ⟨_, _, _, _, rfl⟩ := h2; obtain ⟨z, n, ps, h⟩ := hnp rfl; cases h
    · cases h2
  case binOp op t x y z =>
    simp only [cBin, Option.bind_eq_some_iff] at hcO; obtain ⟨_, _, _, _, h2⟩ := hcO
    split at h2
    · split at h2
      all_goals first
        | (cases h2; done)
        | (cases h2; obtain ⟨z, n, ps, h⟩ := hnp rfl; cases h; done)
        | (split at h2 <;> first | (cases h2; done) | (cases h2; obtain ⟨z, n, ps, h⟩ := hnp rfl; cases h; done) | (simp only [Option.map_eq_some_iff] at h2; obtain ⟨_, _, rfl⟩ := h2; obtain ⟨z, n, ps, h⟩ := hnp rfl; cases h; done))
    · cases h2; obtain ⟨z, n, ps, h⟩ := hnp rfl; cases h
  case slice t x lo hi m3 =>
    simp only [cSlice, Option.bind_eq_some_iff] at hcO; obtain ⟨_, _, _, _, _, _, _, _, h2⟩ := hcO
    split at h2
    · split at h2 <;> cases h2; obtain ⟨z, n, ps, h⟩ := hnp rfl; cases h
    · simp only [Option.map_eq_some_iff] at h2; obtain ⟨_, _, rfl⟩ := h2; obtain ⟨z, n, ps, h⟩ := hnp rfl; cases h
    · simp only [Option.map_eq_some_iff] at h2; obtain ⟨_, _, rfl⟩ := h2; obtain ⟨z, n, ps, h⟩ := hnp rfl; cases h
    · split at h2
      · simp only [Option.map_eq_some_iff] at h2; obtain ⟨_, _, rfl⟩ := h2; obtain ⟨z, n, ps, h⟩ := hnp rfl; cases h
      · cases h2
    · cases h2
  case fieldAddr t x i =>
    split at hcO
    · simp only [Option.bind_eq_some_iff] at hcO; obtain ⟨_, _, _, _, h2⟩ := hcO
      split at h2
      · cases h2
      · simp only [Option.map_eq_some_iff] at h2; obtain ⟨_, _, rfl⟩ := h2; obtain ⟨z, n, ps, h⟩ := hnp rfl; cases h
    · cases hcO
  case field t x i =>
    split at hcO
    · simp only [Option.bind_eq_some_iff, Option.map_eq_some_iff] at hcO; obtain ⟨_, _, _, _, _, _, _, _, rfl⟩ := hcO; obtain ⟨z, n, ps, h⟩ := hnp rfl; cases h
    · cases hcO
  case indexAddr t x i =>
    simp only [Option.bind_eq_some_iff] at hcO; obtain ⟨_, _, _, _, h2⟩ := hcO
    split at h2
    · simp only [Option.map_eq_some_iff] at h2; obtain ⟨_, _, rfl⟩ := h2; obtain ⟨z, n, ps, h⟩ := hnp rfl; cases h
    · simp only [Option.map_eq_some_iff] at h2; obtain ⟨_, _, rfl⟩ := h2; obtain ⟨z, n, ps, h⟩ := hnp rfl; cases h
    · cases h2
  case index t x i =>
    simp only [Option.bind_eq_some_iff] at hcO; obtain ⟨_, _, _, _, h2⟩ := hcO
    split at h2
    · simp only [Option.bind_eq_some_iff, Option.map_eq_some_iff] at h2; obtain ⟨_, _, _, _, rfl⟩ := h2; obtain ⟨z, n, ps, h⟩ := hnp rfl; cases h
    · cases h2; obtain ⟨z, n, ps, h⟩ := hnp rfl; cases h
    · cases h2
  case makeInterface t x =>
    split at hcO
    · cases hcO
    · simp only [Option.map_eq_some_iff] at hcO; obtain ⟨_, _, rfl⟩ := hcO; obtain ⟨z, n, ps, h⟩ := hnp rfl; cases h
    · cases hcO
end
end Fw
