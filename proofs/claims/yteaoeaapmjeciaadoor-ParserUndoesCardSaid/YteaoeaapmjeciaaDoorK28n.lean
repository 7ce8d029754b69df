/- Parts of the proof, one behind the other. -/
import Derived.Test.YteaoeaapmjeciaaDoorK28p
set_option linter.unusedSimpArgs false
set_option linter.unusedVariables false
/- Nest. -/
namespace T08
open Go Fw Go.Proofs
set_option maxRecDepth 100000
set_option maxHeartbeats 4000000
set_option linter.unusedSimpArgs false
set_option linter.unusedVariables false
theorem LeaveW_aggA {s s' : St} {cs : List AV} (h : cs.all (AV.free0 s.next) = true) (hl : s.next ≤ s'.low) (K : AV → St → Prop) : LeaveW s s' (.agg cs) K = K (.agg (cs.map AV.dr)) s := by
  have h2 : (AV.agg cs).freeA s.next = true := h
  have h3 : (AV.agg cs).drop2 s.next = (AV.agg cs).drA := (freeA_drop h2).1
  have h4 := (freeA_drop h2).2
  simp only [LeaveW, leave, h3, hl, h4, and_self, if_true]
  rfl
theorem free0_slt (b : TN) (n : Nat) (cs : List AV) (h : alAll (fun _ => false) cs = true) (L : Nat) : (slt b n cs).free0 L = true := by
  unfold slt
  split
  · rfl
  · obtain ⟨b1, b2⟩ := b
    cases b2 <;> simp [AV.free0, Own.free, ow, h]
/-- A line without kids is copied. -/
theorem c350 (l : Line) (hk : l.kids = []) (hkn : l.kn = (true, false)) (hl : l.toks.length ≤ 1000) (s : St) (K : AV → St → Prop) : CallW cx 35 [.agg (encL l)] s K = K (.agg (encL (bare clT l))) s := by
  refine CallW.eq (CallW.fn' (fn := ir35) rfl rfl (by kernel_rfl) ir35.eq_1 ?_) K
  have kc := fun st K => c36 l.tn l.toks hl st K
  have h1 : encL l = [slt l.tn l.toks.length (encTs l.toks), .bool l.head, .nilslice, .int .i64 l.pos] := by rw [encL_eq, hk, hkn]; rfl
  rw [h1, encL_bare]
  have hne : ¬ s.next + 1 = s.next := by omega
  have hne2 : ¬ s.next = s.next + 1 := by omega
  simp (config := {contextual := true, implicitDefEqProofs := false, maxSteps := 4000000}) only [go_sem, ↓reduceIte, Bool.false_eq_true, Nat.reduceEqDiff, Nat.reduceAdd, Int.reduceLE, Int.reduceLT, Int.reduceEq, Int.reduceToNat, Int.toNat_natCast, Int.cast_ofNat_Int, Int.natCast_one, Nat.reduceMod, Nat.reduceDiv, UInt8.reduceToNat, Nat.reduceLT, kc, hne, hne2]
  refine WLoop.rnd (c := _) ir35L0.eq_1 ?_
  simp (config := {contextual := true, implicitDefEqProofs := false, maxSteps := 4000000}) only [go_sem, ↓reduceIte, Bool.false_eq_true, Nat.reduceEqDiff, Nat.reduceAdd, Int.reduceLE, Int.reduceLT, Int.reduceEq, Int.reduceToNat, Int.toNat_natCast, Int.cast_ofNat_Int, Int.natCast_one, Nat.reduceMod, Nat.reduceDiv, UInt8.reduceToNat, Nat.reduceLT, show decide ((0 : Int) < 0) = false from rfl, hne, hne2]
  rw [LeaveW_aggA (by simp only [List.all_cons, List.all_nil, free0_slt _ _ _ (encTs_al _)]; rfl) (Nat.le_refl _)]
  simp only [List.map_cons, List.map_nil, dr_slt]
  trivial
/-- What Nest is handed: lines without kids and depths. -/
structure NI (acc : List (Line × Int)) : Prop where
  kids : ∀ x ∈ acc, x.1.kids = [] ∧ x.1.kn = (true, false)
  toks : ∀ x ∈ acc, x.1.toks.length ≤ 70
theorem l19a (b : TN) (acc : List (Line × Int)) (hal : acc.length ≤ 1000) (hI : NI acc) (x1 : AV) (L : Nat) (Q : Sig → FE → St → Prop) :
    ∀ (n i : Nat) (e : FE) (st : St) (v : AV), i + n = acc.length → G2 50 4 0 0 L st v .nilslice (encLs ((acc.take i).map fun x => bare clT x.1)) i [] 0 → (i ≠ 0 → ∃ t, tokOf v = some t) → (i = 0 → v = .nilslice) → e 1 = x1 → e 6 = v → e 18 = slt b acc.length (encLs (acc.map Prod.fst)) → e 19 = .int .i64 (acc.length : Int) → e 20 = .int .i64 (i : Int) →
    (∀ e' st' v', G2 50 4 0 0 L st' v' .nilslice (encLs (acc.map fun x => bare clT x.1)) acc.length [] 0 → (acc.length ≠ 0 → ∃ t, tokOf v' = some t) → (acc.length = 0 → v' = .nilslice) → e' 1 = x1 → e' 6 = v' → Q (.exit 0) e' st') → WLoop cx ir19L0 e st Q
  | 0, i, e, st, v, hi, hG, hsh, hsf, h1, h6, h18, h19, h20, hQ => by
    refine WLoop.rnd (c := _) ir19L0.eq_1 ?_
    have hd : decide ((i : Int) < (acc.length : Int)) = false := decide_eq_false (by omega)
    have hia : i = acc.length := by omega
    rw [hia, List.take_length] at hG
    rw [hia] at hsh hsf
    simp (config := {contextual := true, implicitDefEqProofs := false, maxSteps := 4000000}) only [go_sem, ↓reduceIte, Bool.false_eq_true, Nat.reduceEqDiff, Nat.reduceAdd, Int.reduceLE, Int.reduceLT, Int.reduceEq, Int.reduceToNat, Int.toNat_natCast, Int.cast_ofNat_Int, Int.natCast_one, Nat.reduceMod, Nat.reduceDiv, UInt8.reduceToNat, Nat.reduceLT, h18, h19, h20, hd]
    exact hQ _ _ v hG hsh hsf h1 h6
  | n + 1, i, e, st, v, hi, hG, hsh, hsf, h1, h6, h18, h19, h20, hQ => by
    refine WLoop.rnd (c := _) ir19L0.eq_1 ?_
    have hlt : i < acc.length := by omega
    have hd : decide ((i : Int) < (acc.length : Int)) = true := decide_eq_true (by omega)
    have b1 : (0 : Int) ≤ (i : Int) ∧ (i : Int) < (acc.length : Int) := by omega
    have w1 := wrap_one (i := i) (by omega)
    have hm := List.getElem_mem hlt
    obtain ⟨hk1, hk2⟩ := hI.kids _ hm
    have ht70 := hI.toks _ hm
    have htk : (acc.take (i + 1)).map (fun x => bare clT x.1) = (acc.take i).map (fun x => bare clT x.1) ++ [bare clT acc[i].1] := by
      rw [List.take_add_one, List.getElem?_eq_getElem hlt, List.map_append]; rfl
    have s1 : sub (encLs (acc.map Prod.fst)) (i * 4) 4 = some [slt acc[i].1.tn acc[i].1.toks.length (encTs acc[i].1.toks), .bool acc[i].1.head, .nilslice, .int .i64 acc[i].1.pos] := by
      have := sub_line (ls := acc.map Prod.fst) (i := i) (by simpa using hlt)
      rw [List.getElem_map] at this
      rw [this, hk1, hk2]; rfl
    have kc := fun st K => c350 acc[i].1 hk1 hk2 (by omega) st K
    rw [show encL acc[i].1 = [slt acc[i].1.tn acc[i].1.toks.length (encTs acc[i].1.toks), .bool acc[i].1.head, .nilslice, .int .i64 acc[i].1.pos] by rw [encL_eq, hk1, hk2]; rfl] at kc
    obtain ⟨l, hl⟩ : ∃ l, acc[i].1 = l := ⟨_, rfl⟩
    rw [hl] at s1 kc htk
    have hlown := hG.lown
    have hlow := hG.low
    have hmin : min (min st.low st.next) st.next = st.low := by omega
    have hmin2 : min st.low st.next = st.low := by omega
    have hG2 := hG.alloc (.cells (some 50) [slt l.tn l.toks.length (encTs l.toks), .bool l.head, .nilslice, .int .i64 l.pos])
    obtain ⟨v', st', ap, G', lw, _, ps, tk, nx⟩ := hG2.app1 (bytes := 64) (k := 1) (y := .slice (encL (bare clT l)) 1 .full) (new := encL (bare clT l)) (by simp [cellsOf, encL_length]) rfl (encL_one _) (by rw [encL_length]) (Nat.le_trans (show (i + 1) * 64 ≤ 10000000 by omega) (by decide))
    rw [encL_strip, show encLs ((acc.take i).map fun x => bare clT x.1) ++ encL (bare clT l) = encLs ((acc.take (i + 1)).map fun x => bare clT x.1) by rw [htk, encLs_append]; simp [encLs]] at G'
    have hst : (encL (bare clT l)).map AV.strip = encL (bare clT l) := encL_strip _
    have hbl := encL_bare clT l
    rw [hbl] at ap kc
    simp (config := {contextual := true, implicitDefEqProofs := false, maxSteps := 4000000}) only [go_sem, ↓reduceIte, Bool.false_eq_true, Nat.reduceEqDiff, Nat.reduceAdd, Int.reduceLE, Int.reduceLT, Int.reduceEq, Int.reduceToNat, Int.toNat_natCast, Int.cast_ofNat_Int, Int.natCast_one, Nat.reduceMod, Nat.reduceDiv, UInt8.reduceToNat, Nat.reduceLT, h6, h18, h19, h20, hd, b1, s1, kc, w1, hmin, hmin2, ap]
    exact l19a b acc hal hI x1 L Q n (i + 1) _ st' v' (by omega) G' (fun _ => tk (by decide)) (fun h => by omega) h1 rfl h18 h19 rfl hQ
end T08

/- Nest: the depths fit; what it answers. -/
namespace T08
open Go Fw Go.Proofs
set_option maxRecDepth 100000
set_option maxHeartbeats 4000000
set_option linter.unusedSimpArgs false
set_option linter.unusedVariables false
theorem l19b (b : TN) (acc : List (Line × Int)) (hal : acc.length ≤ 1000) (h6 : ∀ x ∈ acc, 0 ≤ x.2 ∧ x.2 ≤ 6) (hfst : ∀ h : 0 < acc.length, acc[0].2 = 0) (hpair : ∀ (j : Nat) (h : j + 1 < acc.length), acc[j + 1].2 ≤ acc[j].2 ∨ (acc[j + 1].2 = acc[j].2 + 1 ∧ acc[j].1.head = true)) (v : AV) (o : Own) (hv : v = .slice (encLs (acc.map fun x => bare clT x.1)) acc.length o) (x1 : AV) (hx1 : x1 = slt b acc.length (encI (acc.map Prod.snd))) (st : St) (Q : Sig → FE → St → Prop) :
    ∀ (n i : Nat) (e : FE), i + n = acc.length → e 1 = x1 → e 6 = v → e 34 = x1 → e 35 = .int .i64 (acc.length : Int) → e 36 = .int .i64 (i : Int) → (∀ e', e' 1 = x1 → e' 6 = v → Q (.exit 2) e' st) → WLoop cx ir19L1 e st Q
  | 0, i, e, hi, h1, h6v, h34, h35, h36, hQ => by
    refine WLoop.rnd (c := _) ir19L1.eq_1 ?_
    have hd : decide ((i : Int) < (acc.length : Int)) = false := decide_eq_false (by omega)
    simp (config := {contextual := true, implicitDefEqProofs := false, maxSteps := 4000000}) only [go_sem, ↓reduceIte, Bool.false_eq_true, Nat.reduceEqDiff, Nat.reduceAdd, Int.reduceLE, Int.reduceLT, Int.reduceEq, Int.reduceToNat, Int.toNat_natCast, Int.cast_ofNat_Int, Int.natCast_one, Nat.reduceMod, Nat.reduceDiv, UInt8.reduceToNat, Nat.reduceLT, h35, h36, hd]
    exact hQ _ h1 h6v
  | n + 1, i, e, hi, h1, h6v, h34, h35, h36, hQ => by
    refine WLoop.rnd (c := _) ir19L1.eq_1 ?_
    have hlt : i < acc.length := by omega
    have hd : decide ((i : Int) < (acc.length : Int)) = true := decide_eq_true (by omega)
    have b1 : (0 : Int) ≤ (i : Int) ∧ (i : Int) < (acc.length : Int) := by omega
    have w1 := wrap_one (i := i) (by omega)
    have hdi := h6 _ (List.getElem_mem hlt)
    have s1 : sub (encI (acc.map Prod.snd)) i 1 = some [.int .i64 acc[i].2] := by
      have := sub_int (l := acc.map Prod.snd) (i := i) (by rw [List.length_map]; exact hlt)
      rw [this, List.getElem_map]
    have d1 : decide (acc[i].2 < 0) = false := decide_eq_false (by omega)
    have d2 : decide (6 < acc[i].2) = false := decide_eq_false (by omega)
    have ih := fun e a1 a6 a34 a35 a36 => l19b b acc hal h6 hfst hpair v o hv x1 hx1 st Q n (i + 1) e (by omega) a1 a6 a34 a35 a36 hQ
    have h34' := h34
    have h1' := h1
    have h6' := h6v
    rw [hx1] at h34' h1'
    rw [hv] at h6'
    by_cases h0 : i = 0
    · subst h0
      have hz := hfst hlt
      have kf := fun st K => c27n acc[0].2 0 st K
      rw [hz] at kf s1 d1 d2
      have kf' : ∀ st K, CallW cx 27 [.int .i64 0, .nilptr, .int .i64 0] st K = K (.bool true) st := kf
      clear kf
      have b0 : (0 : Int) < (acc.length : Int) := by omega
      have hd0 : decide ((0 : Int) < (acc.length : Int)) = true := decide_eq_true b0
      simp (config := {contextual := true, implicitDefEqProofs := false, maxSteps := 4000000}) only [go_sem, ↓reduceIte, Bool.false_eq_true, Nat.reduceEqDiff, Nat.reduceAdd, Int.reduceLE, Int.reduceLT, Int.reduceEq, Int.reduceToNat, Int.toNat_natCast, Int.cast_ofNat_Int, Int.natCast_one, Nat.reduceMod, Nat.reduceDiv, UInt8.reduceToNat, Nat.reduceLT, h1', h6', h34', h35, h36, hd0, b0, hd, b1, Nat_mul_one, s1, d1, d2, kf', w1, show decide ((0 : Int) < 0) = false from rfl, show decide ((6 : Int) < 0) = false from rfl]
      refine ih _ ?_ ?_ ?_ ?_ ?_
      · exact h1
      · exact h6v
      · exact h34
      · exact h35
      · rfl
    · obtain ⟨j, rfl⟩ : ∃ j, i = j + 1 := ⟨i - 1, by omega⟩
      have hp := hpair j hlt
      have hjl : j < acc.length := by omega
      have hdj := h6 _ (List.getElem_mem hjl)
      have s4 : sub (encLs (acc.map fun x => bare clT x.1)) (j * 4 + 1) 1 = some [.bool acc[j].1.head] := by
        have := sub_lhead (ls := acc.map fun x => bare clT x.1) (i := j) (by rw [List.length_map]; exact hjl)
        rw [this, List.getElem_map]; rfl
      have s5 : sub (encI (acc.map Prod.snd)) j 1 = some [.int .i64 acc[j].2] := by
        have := sub_int (l := acc.map Prod.snd) (i := j) (by rw [List.length_map]; exact hjl)
        rw [this, List.getElem_map]
      have kf := fun st K => c27 acc[j + 1].2 acc[j].2 (by omega) (by omega) (encLs (acc.map fun x => bare clT x.1)) (j * 4) acc[j].1.head s4 st K
      have hfit : (decide (acc[j + 1].2 ≤ acc[j].2) || (decide (acc[j + 1].2 = acc[j].2 + 1) && acc[j].1.head)) = true := by
        rcases hp with h | ⟨h, h'⟩
        · rw [decide_eq_true h]; rfl
        · rw [decide_eq_true h, h']; simp
      rw [hfit] at kf
      have w5 : IntKind.i64.wrap (((j + 1 : Nat) : Int) - 1) = (j : Int) := by rw [wrap_i64 (by omega) (by omega)]; omega
      have b5 : (0 : Int) ≤ (j : Int) ∧ (j : Int) < (acc.length : Int) := by omega
      have d5 : decide ((0 : Int) < ((j + 1 : Nat) : Int)) = true := decide_eq_true (by omega)
      generalize acc[j + 1].2 = di at *
      generalize acc[j].2 = dj at *
      simp (config := {contextual := true, implicitDefEqProofs := false, maxSteps := 4000000}) only [go_sem, ↓reduceIte, Bool.false_eq_true, Nat.reduceEqDiff, Nat.reduceAdd, Int.reduceLE, Int.reduceLT, Int.reduceEq, Int.reduceToNat, Int.toNat_natCast, Int.cast_ofNat_Int, Int.natCast_one, Nat.reduceMod, Nat.reduceDiv, UInt8.reduceToNat, Nat.reduceLT, h1', h6', h34', h35, h36, hd, b1, b5, Nat_mul_one, s1, s5, d1, d2, d5, kf, w1, w5]
      exact ih _ h1 h6v h34 h35 rfl
theorem c19 (acc : List (Line × Int)) (hal : acc.length ≤ 900) (hI : NI acc) (h6 : ∀ x ∈ acc, 0 ≤ x.2 ∧ x.2 ≤ 6) (hfst : ∀ h : 0 < acc.length, acc[0].2 = 0) (hpair : ∀ (j : Nat) (h : j + 1 < acc.length), acc[j + 1].2 ≤ acc[j].2 ∨ (acc[j + 1].2 = acc[j].2 + 1 ∧ acc[j].1.head = true)) (s : St) (K : AV → St → Prop) :
    CallW cx 19 [slt (true, false) acc.length (encLs (acc.map Prod.fst)), slt (true, false) acc.length (encI (acc.map Prod.snd))] s K = K (.tuple [bldV 0 (acc.map fun x => (bare clT x.1, x.2)), .int .i64 0]) s := by
  refine CallW.eq (CallW.fn' (fn := ir19) rfl rfl (by kernel_rfl) ir19.eq_1 ?_) K
  have z1 : ∀ u : Int, decide (u ≠ u) = false := fun u => by simp
  simp (config := {contextual := true, implicitDefEqProofs := false, maxSteps := 4000000}) only [go_sem, ↓reduceIte, Bool.false_eq_true, Nat.reduceEqDiff, Nat.reduceAdd, Int.reduceLE, Int.reduceLT, Int.reduceEq, Int.reduceToNat, Int.toNat_natCast, Int.cast_ofNat_Int, Int.natCast_one, Nat.reduceMod, Nat.reduceDiv, UInt8.reduceToNat, Nat.reduceLT, z1]
  refine l19a (true, false) acc (by omega) hI _ s.next _ acc.length 0 _ { heap := s.heap, next := s.next, low := s.next } .nilslice (by omega) ⟨Gr.nil, Gr.nil, fun t h => (by cases h), fun t h => (by cases h), fun t h => (by cases h), Nat.le_refl _, Nat.le_refl _⟩ (fun h => absurd rfl h) (fun _ => rfl) rfl rfl rfl rfl rfl ?_
  intro e' st' v' hG hsh hsf h1 h6v
  have hm1 : (acc.map fun x => (bare clT x.1, x.2)).map Prod.fst = acc.map fun x => bare clT x.1 := by rw [List.map_map]; rfl
  have hm2 : (acc.map fun x => (bare clT x.1, x.2)).map Prod.snd = acc.map Prod.snd := by rw [List.map_map]; rfl
  have hlv : ∀ K : AV → St → Prop, LeaveW s st' (.tuple [bldV 0 (acc.map fun x => (bare clT x.1, x.2)), .int .i64 0]) K = K (.tuple [bldV 0 (acc.map fun x => (bare clT x.1, x.2)), .int .i64 0]) s := by
    intro K
    unfold bldV
    rw [LeaveW_tfree (by simp only [List.all_cons, List.all_nil, free_slt _ _ _ (encLs_al _)]; rfl) hG.low]
    simp only [List.map_cons, List.map_nil, dr_slt]; rfl
  have h1 : e' 1 = slt (true, false) acc.length (encI (acc.map Prod.snd)) := h1
  by_cases h0 : acc.length = 0
  · have hv := hsf h0
    have ha : acc = [] := List.eq_nil_of_length_eq_zero h0
    subst ha
    rw [hv] at h6v
    have h1 : e' 1 = .nilslice := h1
    have hlv : ∀ K : AV → St → Prop, LeaveW s st' (.tuple [.nilslice, .int .i64 0]) K = K (.tuple [.nilslice, .int .i64 0]) s := hlv
    simp (config := {contextual := true, implicitDefEqProofs := false, maxSteps := 4000000}) only [go_sem, ↓reduceIte, Bool.false_eq_true, Nat.reduceEqDiff, Nat.reduceAdd, Int.reduceLE, Int.reduceLT, Int.reduceEq, Int.reduceToNat, Int.toNat_natCast, Int.cast_ofNat_Int, Int.natCast_one, Nat.reduceMod, Nat.reduceDiv, UInt8.reduceToNat, Nat.reduceLT, h1, h6v]
    refine WLoop.rnd (c := _) ir19L1.eq_1 ?_
    simp (config := {contextual := true, implicitDefEqProofs := false, maxSteps := 4000000}) only [go_sem, ↓reduceIte, Bool.false_eq_true, Nat.reduceEqDiff, Nat.reduceAdd, Int.reduceLE, Int.reduceLT, Int.reduceEq, Int.reduceToNat, Int.toNat_natCast, Int.cast_ofNat_Int, Int.natCast_one, Nat.reduceMod, Nat.reduceDiv, UInt8.reduceToNat, Nat.reduceLT, h1, h6v, show decide ((0 : Int) < 0) = false from rfl, c28n, hlv]
    rfl
  · obtain ⟨t, ht⟩ := hsh h0
    have hv := tok_shape hG.a ht
    simp (config := {contextual := true, implicitDefEqProofs := false, maxSteps := 4000000}) only [go_sem, ↓reduceIte, Bool.false_eq_true, Nat.reduceEqDiff, Nat.reduceAdd, Int.reduceLE, Int.reduceLT, Int.reduceEq, Int.reduceToNat, Int.toNat_natCast, Int.cast_ofNat_Int, Int.natCast_one, Nat.reduceMod, Nat.reduceDiv, UInt8.reduceToNat, Nat.reduceLT, h1, h6v]
    refine l19b (true, false) acc (by omega) h6 hfst hpair v' _ hv _ rfl _ _ acc.length 0 _ (by omega) h1 h6v rfl rfl rfl ?_
    intro e1 a1 a6
    rw [hv] at a6
    have kb := fun o1 o2 st K => c28 acc.length (acc.map fun x => (bare clT x.1, x.2)) (by rw [List.length_map]; exact Nat.le_refl _) o1 o2 0 st K (by decide) (by rw [List.length_map]; omega)
    rw [hm1, hm2, List.length_map] at kb
    have hs : slt (true, false) acc.length (encI (acc.map Prod.snd)) = .slice (encI (acc.map Prod.snd)) acc.length .no := by
      unfold slt
      rw [if_neg (fun hh => h0 hh.2)]; rfl
    rw [hs] at a1
    simp (config := {contextual := true, implicitDefEqProofs := false, maxSteps := 4000000}) only [go_sem, ↓reduceIte, Bool.false_eq_true, Nat.reduceEqDiff, Nat.reduceAdd, Int.reduceLE, Int.reduceLT, Int.reduceEq, Int.reduceToNat, Int.toNat_natCast, Int.cast_ofNat_Int, Int.natCast_one, Nat.reduceMod, Nat.reduceDiv, UInt8.reduceToNat, Nat.reduceLT, a1, a6, kb, hlv]
end T08

/- ParserUndoes returns true for all sources. -/
namespace T08
open Go Fw Go.Proofs
set_option maxRecDepth 100000
set_option maxHeartbeats 4000000
set_option linter.unusedSimpArgs false
set_option linter.unusedVariables false
theorem parseL_err : ∀ (rs : List (List UInt8)) (i : Nat) (acc : List (Line × Int)) (er ln cl : Int), parseL rs i acc = .inr (er, ln, cl) → er ≠ 0
  | [], i, acc, er, ln, cl, h => by simp [parseL] at h
  | r :: rs, i, acc, er, ln, cl, h => by
    simp only [parseL] at h
    split at h
    · rename_i h0
      cases h
      exact h0
    split at h
    · exact parseL_err rs (i + 1) acc er ln cl h
    split at h
    · cases h; decide
    · exact parseL_err rs (i + 1) _ er ln cl h
theorem parse_err (a : List UInt8) {er ln cl : Int} (h : parseB a = .inr (er, ln, cl)) : er ≠ 0 := by
  unfold parseB at h
  split at h
  · cases h; decide
  · exact parseL_err _ _ _ _ _ _ h
/-- Lines of the same tokens, heading and place. -/
def alike (p : Bool) (a b : Line) : Prop := a.toks = b.toks ∧ a.head = b.head ∧ (p = true → a.pos = b.pos)
theorem same_alike {p : Bool} {a b : Line} (h : alike p a b) (hk : sameLs p a.kids b.kids = true) : sameL p a b = true := by
  rw [sameL_eq, h.1, h.2.1, sameTs_refl, hk]
  cases p with
  | false => simp
  | true => simp [h.2.2 rfl]
theorem bld_map (f : Line → Line) (hf : ∀ l ks, setK (f l) ks = setK (f l) ks) : ∀ (k : Nat) (b : Int) (xs : List (Line × Int)), deepN b (xs.map fun x => (f x.1, x.2)) = deepN b xs
  | k, b, [] => rfl
  | k, b, x :: xs => by
    simp only [List.map_cons, deepN]
    rw [bld_map f hf k b xs]
theorem same_bld (p : Bool) (f : Line × Int → Line) (hf : ∀ x, alike p (f x) x.1) : ∀ (k : Nat) (b : Int) (xs : List (Line × Int)), sameLs p (bld k b (xs.map fun x => (f x, x.2))) (bld k b xs) = true
  | 0, b, xs => by simp [bld, sameLs]
  | k + 1, b, [] => by simp [bld, sameLs]
  | k + 1, b, x :: xs => by
    have hd : ∀ ys : List (Line × Int), deepN b (ys.map fun x => (f x, x.2)) = deepN b ys := by
      intro ys
      induction ys with
      | nil => rfl
      | cons y ys ih => simp only [List.map_cons, deepN, ih]
    simp only [List.map_cons, bld, sameLs, hd]
    rw [← List.map_take, ← List.map_drop, same_bld p f hf k b (xs.drop (deepN b xs)), Bool.and_true]
    refine same_alike ?_ ?_
    · obtain ⟨h1, h2, h3⟩ := hf x
      exact ⟨h1, h2, h3⟩
    · rw [kids_setK, kids_setK]
      exact same_bld p f hf k (b + 1) (xs.take (deepN b xs))
theorem same_bare2 (acc : List (Line × Int)) : sameLs true (acc.map fun x => bare clT (bare clT x.1)) (acc.map fun x => bare clT x.1) = true := by
  induction acc with
  | nil => rfl
  | cons x xs ih =>
    simp only [List.map_cons, sameLs, ih, Bool.and_true]
    exact same_alike ⟨rfl, rfl, fun _ => rfl⟩ rfl
theorem few_map (f : Line → Line) (acc : List (Line × Int)) (hf : ∀ x ∈ acc, (f x.1).toks = x.1.toks ∧ (f x.1).kids = []) (h : ∀ x ∈ acc, x.1.toks.length ≤ 70 ∧ ∀ t ∈ x.1.toks, t.t.length ≤ 2000) : fewLs (acc.map fun x => f x.1) := by
  induction acc with
  | nil => trivial
  | cons x xs ih =>
    simp only [List.map_cons, fewLs, fewL_eq]
    obtain ⟨h1, h2⟩ := hf x (by simp)
    rw [h1, h2]
    exact ⟨⟨(h x (by simp)).1, (h x (by simp)).2, trivial⟩, ih (fun y hy => hf y (by simp [hy])) (fun y hy => h y (by simp [hy]))⟩
theorem cnt_map (f : Line → Line) (acc : List (Line × Int)) (hf : ∀ x ∈ acc, (f x.1).kids = []) : cntLs (acc.map fun x => f x.1) = acc.length := by
  induction acc with
  | nil => rfl
  | cons x xs ih =>
    simp only [List.map_cons, cntLs, cntL_eq, List.length_cons]
    rw [hf x (by simp), ih (fun y hy => hf y (by simp [hy]))]
    simp only [cntLs]
    omega
theorem steps_map (f : Line × Int → Line) : ∀ (xs : List (Line × Int)) (d : Int), steps d xs → steps d (xs.map fun x => (f x, x.2))
  | [], _, _ => trivial
  | x :: xs, d, h => ⟨h.1, steps_map f xs x.2 h.2⟩
theorem nice_map (f : Line × Int → Line) {b : Int} {xs : List (Line × Int)} (h : nice b xs) : nice b (xs.map fun x => (f x, x.2)) := by
  refine ⟨fun x hx => ?_, steps_map f xs _ h.2⟩
  obtain ⟨y, hy, rfl⟩ := List.mem_map.1 hx
  exact h.1 y hy
theorem law7 (a : List UInt8) : CallW cx 7 [.str a] { heap := [], next := 0, low := 0 } fun v _ => v = .bool true := by
  refine CallW.fn' (fn := ir7) rfl rfl (by kernel_rfl) ir7.eq_1 ?_
  by_cases h1 : 1500 < a.length
  · have d1 : decide ((1500 : Int) < (a.length : Int)) = true := decide_eq_true (by omega)
    simp (config := {contextual := true, implicitDefEqProofs := false, maxSteps := 4000000}) only [go_sem, ↓reduceIte, Bool.false_eq_true, Nat.reduceEqDiff, Nat.reduceAdd, Int.reduceLE, Int.reduceLT, Int.reduceEq, Int.reduceToNat, Int.toNat_natCast, Int.cast_ofNat_Int, Int.natCast_one, Nat.reduceMod, Nat.reduceDiv, UInt8.reduceToNat, Nat.reduceLT, c9, d1]
  have d1 : decide ((1500 : Int) < (a.length : Int)) = false := decide_eq_false (by omega)
  have k1 := fun st K => c16 a st K
  cases hp : parseB a with
  | inr x =>
    obtain ⟨er, ln, cl⟩ := x
    have her : er ≠ 0 := parse_err a hp
    rw [hp] at k1
    have k1' : ∀ st K, CallW cx 16 [.str a] st K = K (.tuple [.nilslice, .agg [.int .i64 er, .int .i64 ln, .int .i64 cl]]) st := k1
    have d2 : decide (er ≠ 0) = true := decide_eq_true her
    clear k1
    simp (config := {contextual := true, implicitDefEqProofs := false, maxSteps := 4000000}) only [go_sem, ↓reduceIte, Bool.false_eq_true, Nat.reduceEqDiff, Nat.reduceAdd, Int.reduceLE, Int.reduceLT, Int.reduceEq, Int.reduceToNat, Int.toNat_natCast, Int.cast_ofNat_Int, Int.natCast_one, Nat.reduceMod, Nat.reduceDiv, UInt8.reduceToNat, Nat.reduceLT, c9, d1, k1', d2, show decide ((0 : Int) = 0) = true from rfl]
  | inl acc =>
    have hP := parsed hp
    rw [hp] at k1
    have hal : acc.length ≤ 751 := by have := hP.len; omega
    have hcn := cnt_bld acc.length 0 acc (Nat.le_refl _) hP.nice
    obtain ⟨fl1, fl2⟩ := flat_bld clT acc.length 0 acc (Nat.le_refl _) hP.nice
    have hfT := few_bld acc.length 0 acc hP.few
    have hdep := dep_bld acc.length 0 acc (Nat.le_refl _) hP.nice (fun x hx => (hP.six x hx).2)
    have k3 := fun st K => c10 (bld acc.length 0 acc) hfT (by omega) (true, false) st K
    rw [hcn, fl1, fl2] at k3
    have k1' : ∀ st K, CallW cx 16 [.str a] st K = K (.tuple [slt (true, false) (bld acc.length 0 acc).length (encLs (bld acc.length 0 acc)), .agg [.int .i64 0, .int .i64 0, .int .i64 0]]) st := k1
    clear k1
    have d2 : decide ((0 : Int) ≠ 0) = false := rfl
    -- what was flattened
    obtain ⟨xs, hxs⟩ : ∃ xs : List (Line × Int), xs = acc.map fun x => (bare clT x.1, x.2) := ⟨_, rfl⟩
    have hm1 : xs.map Prod.fst = acc.map fun x => bare clT x.1 := by rw [hxs, List.map_map]; rfl
    have hm2 : xs.map Prod.snd = acc.map Prod.snd := by rw [hxs, List.map_map]; rfl
    have hlen : xs.length = acc.length := by rw [hxs, List.length_map]
    have hget : ∀ (j : Nat) (h : j < xs.length), xs[j].2 = (acc[j]'(by omega)).2 ∧ xs[j].1.head = (acc[j]'(by omega)).1.head := by
      intro j h
      subst hxs
      rw [List.getElem_map]
      exact ⟨rfl, rfl⟩
    have hfst : ∀ h : 0 < acc.length, acc[0].2 = 0 := by
      intro h
      obtain ⟨x, l, hx⟩ : ∃ x l, acc = x :: l := by
        cases acc with
        | nil => simp at h
        | cons x l => exact ⟨x, l, rfl⟩
      have hn := hP.nice
      subst hx
      have h2 := hn.1 x (by simp)
      have h3 := hn.2.1
      show x.2 = 0
      omega
    have k4 := fun st K => c19 xs (by omega) ⟨fun x hx => by
      rw [hxs] at hx
      obtain ⟨y, _, rfl⟩ := List.mem_map.1 hx
      exact ⟨rfl, rfl⟩, fun x hx => by
      rw [hxs] at hx
      obtain ⟨y, hy, rfl⟩ := List.mem_map.1 hx
      exact (hP.few y hy).1⟩ (fun x hx => by
      rw [hxs] at hx
      obtain ⟨y, hy, rfl⟩ := List.mem_map.1 hx
      exact hP.six y hy) (fun h => by rw [(hget 0 h).1]; exact hfst (by omega)) (fun j h => by
      rw [(hget (j + 1) h).1, (hget j (by omega)).1, (hget j (by omega)).2]
      exact hP.pair j (by omega)) st K
    rw [hm1, hm2, hlen] at k4
    have hxs2 : (xs.map fun x => (bare clT x.1, x.2)) = acc.map fun x => (bare clT (bare clT x.1), x.2) := by rw [hxs, List.map_map]; rfl
    rw [hxs2] at k4
    obtain ⟨ys, hys⟩ : ∃ ys : List (Line × Int), ys = acc.map fun x => (bare clT (bare clT x.1), x.2) := ⟨_, rfl⟩
    rw [← hys] at k4
    have hyl : ys.length = acc.length := by rw [hys, List.length_map]
    have hyn : nice 0 ys := by rw [hys]; exact nice_map (fun x => bare clT (bare clT x.1)) hP.nice
    have hyf : ∀ x ∈ ys, x.1.toks.length ≤ 70 ∧ ∀ t ∈ x.1.toks, t.t.length ≤ 2000 := fun x hx => by
      rw [hys] at hx
      obtain ⟨y, hy, rfl⟩ := List.mem_map.1 hx
      exact hP.few y hy
    have hfY := few_bld ys.length 0 ys hyf
    have hcY := cnt_bld ys.length 0 ys (Nat.le_refl _) hyn
    obtain ⟨gl1, gl2⟩ := flat_bld clT ys.length 0 ys (Nat.le_refl _) hyn
    have k5 := fun st K => c10 (bld ys.length 0 ys) hfY (by omega) (true, false) st K
    rw [hcY, gl1, gl2, hyl] at k5
    have hsm : sameLs true (bld acc.length 0 ys) (bld acc.length 0 acc) = true := by
      rw [hys]
      exact same_bld true (fun x => bare clT (bare clT x.1)) (fun x => ⟨rfl, rfl, fun _ => rfl⟩) acc.length 0 acc
    have hy1 : (ys.map fun x => bare clT x.1) = acc.map fun x => bare clT (bare clT (bare clT x.1)) := by rw [hys, List.map_map]; rfl
    have hy2 : ys.map Prod.snd = acc.map Prod.snd := by rw [hys, List.map_map]; rfl
    rw [hy1, hy2] at k5
    have hs2 : sameLs true (acc.map fun x => bare clT (bare clT (bare clT x.1))) (acc.map fun x => bare clT x.1) = true := by
      clear hal hcn fl1 fl2 hfT hdep k3 k1' k4 hxs hys k5 hsm hy1 hy2 gl1 gl2 hcY hfY hyf hyn hyl hxs2 hfst hget hlen hm1 hm2 hP hp
      induction acc with
      | nil => rfl
      | cons x l ih =>
        simp only [List.map_cons, sameLs, ih, Bool.and_true]
        exact same_alike ⟨rfl, rfl, fun _ => rfl⟩ rfl
    unfold bldV at k4
    rw [hyl] at k4 hfY hcY
    have k6 := fun st K => c12 true (bld acc.length 0 ys) hfY (by omega) (true, false) (true, false) (bld acc.length 0 acc) st K
    rw [hsm] at k6
    have k7 := fun st K => c12 true (acc.map fun x => bare clT (bare clT (bare clT x.1))) (few_map (fun l => bare clT (bare clT (bare clT l))) acc (fun x _ => ⟨rfl, rfl⟩) hP.few) (by rw [cnt_map (fun l => bare clT (bare clT (bare clT l))) acc (fun x _ => rfl)]; omega) (true, false) (true, false) (acc.map fun x => bare clT x.1) st K
    rw [hs2, List.length_map, List.length_map] at k7
    have k8 := fun st K => c13 (true, false) (true, false) (acc.map Prod.snd) (acc.map Prod.snd) (by rw [List.length_map]; omega) st K
    rw [decide_eq_true rfl, List.length_map] at k8
    have k9 := fun st K => c20 (bld acc.length 0 acc) (by omega) (true, false) st K
    have k10 := fun st K => c21 (bld acc.length 0 acc) (by omega) (true, false) st K
    rw [hcn] at k10
    have d7 : decide ((depLs (bld acc.length 0 acc) : Int) ≤ 7) = true := decide_eq_true (by split at hdep <;> omega)
    have z1 : decide ((acc.length : Int) = (acc.length : Int)) = true := by simp
    clear hsm hs2 hfY hcY gl1 gl2 hfT hdep fl1 fl2 hcn hxs hys hm1 hm2 hget hfst hxs2 hyf hyn hy1 hy2
    generalize bld acc.length 0 acc = T at *
    generalize bld acc.length 0 ys = Y at *
    simp (config := {contextual := true, implicitDefEqProofs := false, maxSteps := 4000000}) only [go_sem, ↓reduceIte, Bool.false_eq_true, Nat.reduceEqDiff, Nat.reduceAdd, Int.reduceLE, Int.reduceLT, Int.reduceEq, Int.reduceToNat, Int.toNat_natCast, Int.cast_ofNat_Int, Int.natCast_one, Nat.reduceMod, Nat.reduceDiv, UInt8.reduceToNat, Nat.reduceLT, c9, d1, k1', k3, k4, k5, k6, k7, k8, k9, k10, d2, d7, z1, show decide ((0 : Int) = 0) = true from rfl]
theorem hlaw7 (as0 : List AV) (h : TyArgs Tryd.prog Tryd.f7.params.toList as0) : ∃ k s', callF cx k 7 as0 st0 = some (.bool true, s') := by
  obtain ⟨a1, r1, rfl, h1, h6⟩ : ∃ a1 r1, as0 = a1 :: r1 ∧ TyArg Tryd.prog 9 a1 ∧ r1 = [] := h
  subst h6
  obtain ⟨s, rfl, _⟩ := TyArg_string Tryd.underlying9 h1
  obtain ⟨k', v, s', h9, rfl⟩ := law7 s
  exact ⟨k', s', h9⟩
end T08
