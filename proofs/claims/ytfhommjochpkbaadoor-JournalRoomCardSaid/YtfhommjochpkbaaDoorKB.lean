/- Parts of the proof, one behind the other. -/
import Derived.Test.YtfhommjochpkbaaDoorKA
import Derived.Test.YtfhommjochpkbaaDoorFwX
set_option linter.unusedSimpArgs false
set_option linter.unusedVariables false
set_option linter.unusedSectionVars false

/- What stands at the begin of sectors: the program's reading. -/
namespace T43
open Go Fw Go.Proofs
set_option maxRecDepth 100000
set_option maxHeartbeats 8000000
set_option linter.unusedSimpArgs false
set_option linter.unusedVariables false
/-- As the program reads: digits in either case, then the frame is laid again. -/
def recG (secs : List Bs8) (l : Nat) : Bs8 := ((secs.take (szB l)).flatten.drop 28).take l
def parseG (secs : List Bs8) : Nat × Bs8 × Nat × Int :=
  match secs with
  | [] => (0, [], 0, eNone)
  | f :: t =>
    if f = zero32 then (0, [], 0, eNone)
    else if f.length ≠ 32 then (0, [], 0, eBad)
    else match hexG (f.take 8) 0, hexG ((f.drop 8).take 4) 0 with
      | some n, some l =>
        if 4096 ≤ n ∨ 1024 < l ∨ (f :: t).length < szB l then (0, [], 0, eBad)
        else if frameB n (recG (f :: t) l) = (f :: t).take (szB l) then (n, recG (f :: t) l, szB l, 0)
        else (0, [], 0, eBad)
      | _, _ => (0, [], 0, eBad)
theorem parseG_eq (secs : List Bs8) : parseG secs = parseB secs := by
  cases secs with
  | nil => rfl
  | cons f t =>
    unfold parseG parseB
    dsimp only
    by_cases h1 : f = zero32
    · rw [if_pos h1, if_pos h1]
    rw [if_neg h1, if_neg h1]
    by_cases h2 : f.length ≠ 32
    · rw [if_pos h2, if_pos h2]
    rw [if_neg h2, if_neg h2]
    -- a frame's own numerals are in lower case
    have low : ∀ n l r, frameB n r = (f :: t).take (szB l) → f.take 8 = hexB n 8 ∧ (f.drop 8).take 4 = hexB r.length 4 := by
      intro n l r h
      obtain ⟨u, hu⟩ := frameB_cons n r
      have hp := szB_pos l
      obtain ⟨k, hk⟩ : ∃ k, szB l = k + 1 := ⟨szB l - 1, by omega⟩
      rw [hu, hk, List.take_succ_cons] at h
      obtain ⟨rfl, _⟩ := List.cons.inj h
      exact ⟨(take_head n r).1, (take_head n r).2.1⟩
    cases g1 : hexG (f.take 8) 0 with
    | none =>
      have : hexV (f.take 8) 0 = none := by
        cases h : hexV (f.take 8) 0 with
        | none => rfl
        | some v => rw [hexV_G _ _ _ h] at g1; cases g1
      rw [this]
    | some n =>
      cases g2 : hexG ((f.drop 8).take 4) 0 with
      | none =>
        have : hexV ((f.drop 8).take 4) 0 = none := by
          cases h : hexV ((f.drop 8).take 4) 0 with
          | none => rfl
          | some v => rw [hexV_G _ _ _ h] at g2; cases g2
        rw [this]
        cases hexV (f.take 8) 0 <;> rfl
      | some l =>
        simp only
        have hbad : (hexV (f.take 8) 0 = none ∨ hexV ((f.drop 8).take 4) 0 = none) → (if 4096 ≤ n ∨ 1024 < l ∨ (f :: t).length < szB l then ((0 : Nat), ([] : Bs8), (0 : Nat), eBad) else if frameB n (recG (f :: t) l) = (f :: t).take (szB l) then (n, recG (f :: t) l, szB l, 0) else (0, [], 0, eBad)) = (0, [], 0, eBad) := by
          intro h
          split
          · rfl
          split
          · rename_i h5
            obtain ⟨h6, h7⟩ := low n l _ h5
            rcases h with h | h
            · rw [h6, hexV_hexB] at h; cases h
            · rw [h7, hexV_hexB] at h; cases h
          · rfl
        cases v1 : hexV (f.take 8) 0 with
        | none => simp only; exact hbad (.inl v1)
        | some n' =>
          cases v2 : hexV ((f.drop 8).take 4) 0 with
          | none => simp only; exact hbad (.inr v2)
          | some l' =>
            have e1 := hexV_G _ _ _ v1
            have e2 := hexV_G _ _ _ v2
            rw [g1] at e1; rw [g2] at e2
            cases e1; cases e2
            simp only [recG]
            by_cases h : 4096 ≤ n ∨ 1024 < l ∨ (f :: t).length < szB l
            · rw [if_pos h, if_pos (by omega)]
            · rw [if_neg h, if_neg (by omega)]; rfl
def parT (x : Nat × Bs8 × Nat × Int) : AV := .tuple [.int .i64 (x.1 : Int), .str x.2.1, .int .i64 (x.2.2.1 : Int), .int .i64 x.2.2.2]
theorem c49 (s : St) (K : AV → St → Prop) : CallW cx 49 [] s K = K (.tuple [.int .i64 0, .str [], .int .i64 0, .int .i64 14]) s := by
  refine CallW.eq (CallW.fn' (fn := ir49) rfl rfl (by kernel_rfl) ir49.eq_1 ?_) K
  simp (config := {contextual := true, implicitDefEqProofs := false, maxSteps := 4000000}) only [go_sem, ↓reduceIte, Bool.false_eq_true, Nat.reduceEqDiff, Nat.reduceAdd, Int.reduceLE, Int.reduceLT, Int.reduceEq, Int.reduceToNat, Int.toNat_natCast, Int.cast_ofNat_Int, Int.natCast_one, Nat.reduceMod, Nat.reduceDiv, UInt8.reduceToNat, Nat.reduceLT]
theorem neq_str {a b : Bs8} : (a = b → evBin .neq (.str a) (.str b) = some (.bool false)) ∧ (a ≠ b → evBin .neq (.str a) (.str b) = some (.bool true)) := by
  refine ⟨fun h => ?_, fun h => ?_⟩
  · show some (AV.bool (!(a == b))) = _
    rw [beq_iff_eq.2 h]; rfl
  · show some (AV.bool (!(a == b))) = _
    rw [beq_eq_false_iff_ne.2 h]; rfl
theorem l26 (xs fs : List Bs8) (v w : AV) (h : List (Nat × AObj)) (nx lo : Nat) (st : St) (hst : st = { heap := h, next := nx, low := lo }) (hv : RowS st v xs) (hw : RowS st w fs) (hl : fs.length ≤ xs.length) (hn : fs.length ≤ 1000) (A B C : AV) (Q : Sig → FE → St → Prop) : ∀ (n i : Nat) (e : FE), i + n = fs.length → e 0 = v → e 117 = w → e 118 = .int .i64 (fs.length : Int) → e 119 = .int .i64 (i : Int) → e 6 = .func 49 [] [] → e 8 = A → e 12 = B → e 14 = C →
    (∀ e', (∀ j, i ≤ j → j < fs.length → xs.getD j [] = fs.getD j []) → e' 8 = A → e' 12 = B → e' 14 = C → Q (.exit 0) e' { heap := h, next := nx, low := lo }) →
    (∀ e' j, j < fs.length → xs.getD j [] ≠ fs.getD j [] → e' 2 = .int .i64 0 → e' 3 = .str [] → e' 4 = .int .i64 0 → e' 5 = .int .i64 14 → Q .ret e' { heap := h, next := nx, low := lo }) → WLoop cx ir26L0 e { heap := h, next := nx, low := lo } Q
  | 0, i, e, hi, h0, h117, h118, h119, h6, h8, h12, h14, hQ, hR => by
    refine WLoop.rnd (c := _) ir26L0.eq_1 ?_
    have d1 : decide ((i : Int) < (fs.length : Int)) = false := decide_eq_false (by omega)
    simp (config := {contextual := true, implicitDefEqProofs := false, maxSteps := 4000000}) only [go_sem, ↓reduceIte, Bool.false_eq_true, Nat.reduceEqDiff, Nat.reduceAdd, Int.reduceLE, Int.reduceLT, Int.reduceEq, Int.reduceToNat, Int.toNat_natCast, Int.cast_ofNat_Int, Int.natCast_one, Nat.reduceMod, Nat.reduceDiv, UInt8.reduceToNat, Nat.reduceLT, h0, h117, h118, h119, d1]
    exact hQ _ (fun j h1 h2 => by omega) h8 h12 h14
  | n + 1, i, e, hi, h0, h117, h118, h119, h6, h8, h12, h14, hQ, hR => by
    refine WLoop.rnd (c := _) ir26L0.eq_1 ?_
    have d1 : decide ((i : Int) < (fs.length : Int)) = true := decide_eq_true (by omega)
    have hwr := wrap_one (i := i) (by omega)
    obtain ⟨p, p1, p2, _⟩ := hv.at (i := i) (by omega)
    obtain ⟨q, q1, q2, _⟩ := hw.at (i := i) (by omega)
    have p2 := p2 lo
    have q2 := q2 lo
    subst hst
    dsimp only at p2 q2
    by_cases hx : xs.getD i [] = fs.getD i []
    · have c1 := neq_str.1 hx
      simp (config := {contextual := true, implicitDefEqProofs := false, maxSteps := 4000000}) only [go_sem, ↓reduceIte, Bool.false_eq_true, Nat.reduceEqDiff, Nat.reduceAdd, Int.reduceLE, Int.reduceLT, Int.reduceEq, Int.reduceToNat, Int.toNat_natCast, Int.cast_ofNat_Int, Int.natCast_one, Nat.reduceMod, Nat.reduceDiv, UInt8.reduceToNat, Nat.reduceLT, h0, h117, h118, h119, h6, d1, q1, q2, p1, p2, c1, hwr]
      refine l26 xs fs v w h nx lo _ rfl hv hw hl hn A B C Q n (i + 1) _ (by omega) h0 h117 h118 rfl h6 h8 h12 h14 (fun e' h1 h2 h3 h4 => hQ e' (fun j h5 h6 => ?_) h2 h3 h4) hR
      by_cases hj : j = i
      · rw [hj]; exact hx
      · exact h1 j (by omega) h6
    · have c1 := neq_str.2 hx
      simp (config := {contextual := true, implicitDefEqProofs := false, maxSteps := 4000000}) only [go_sem, ↓reduceIte, Bool.false_eq_true, Nat.reduceEqDiff, Nat.reduceAdd, Int.reduceLE, Int.reduceLT, Int.reduceEq, Int.reduceToNat, Int.toNat_natCast, Int.cast_ofNat_Int, Int.natCast_one, Nat.reduceMod, Nat.reduceDiv, UInt8.reduceToNat, Nat.reduceLT, h0, h117, h118, h119, h6, d1, q1, q2, p1, p2, c1, c49]
      exact hR _ i (by omega) hx rfl rfl rfl rfl
theorem flat_le : ∀ (xs : List Bs8) (B : Nat), (∀ x ∈ xs, x.length ≤ B) → xs.flatten.length ≤ xs.length * B
  | [], B, _ => by simp
  | x :: xs, B, h => by
    have := flat_le xs B (fun y hy => h y (by simp [hy]))
    have := h x (by simp)
    rw [List.flatten_cons, List.length_append, List.length_cons, Nat.succ_mul]; omega
theorem parse_gen (xs : List Bs8) (v : AV) (s : St) (hv : RowS s v xs) (hx : xs.length ≤ 100000) (hl : ∀ l, hexG (((xs.headD []).drop 8).take 4) 0 = some l → l ≤ 1024 → szB l ≤ xs.length → (xs.take (szB l)).flatten.length ≤ 140737488355328) (K : AV → St → Prop) : CallW cx 26 [v] s K = K (parT (parseB xs)) s := by
  rw [← parseG_eq]
  refine CallW.eq (CallW.fn' (fn := ir26) rfl rfl (by kernel_rfl) ir26.eq_1 ?_) K
  have hlen := hv.lenv
  have z1 : decide ((0 : Int) = 0) = true := rfl
  cases xs with
  | nil =>
    simp only [List.length_nil, Int.natCast_zero, Int.cast_ofNat_Int] at hlen
    unfold parseG
    simp (config := {contextual := true, implicitDefEqProofs := false, maxSteps := 4000000}) only [go_sem, ↓reduceIte, Bool.false_eq_true, Nat.reduceEqDiff, Nat.reduceAdd, Int.reduceLE, Int.reduceLT, Int.reduceEq, Int.reduceToNat, Int.toNat_natCast, Int.cast_ofNat_Int, Int.natCast_one, Nat.reduceMod, Nat.reduceDiv, UInt8.reduceToNat, Nat.reduceLT, hlen, z1]
    rfl
  | cons f t =>
    have n0 : decide (((f :: t).length : Int) = 0) = false := decide_eq_false (by simp only [List.length_cons]; omega)
    obtain ⟨p, p1, p2, _⟩ := hv.at (i := 0) (by simp)
    have p2 := p2 s.next
    simp only [Int.natCast_zero, Int.cast_ofNat_Int, List.getD_cons_zero] at p1 p2
    rw [List.headD_cons] at hl
    unfold parseG
    dsimp only
    obtain ⟨m, hm⟩ : ∃ m, (f :: t).length = m := ⟨_, rfl⟩
    rw [hm] at hlen n0 hx ⊢
    by_cases hz : f = zero32
    · have kb := fun st K => c48 f (by rw [hz]; simp [zero32]) st K
      have e1 : decide ((f.length : Int) = 32) = true := decide_eq_true (by rw [hz]; rfl)
      have e2 : decide (Lib.trimB f 0 = []) = true := decide_eq_true ((blank32 (by rw [hz]; rfl)).2 hz)
      rw [if_pos hz]
      simp (config := {contextual := true, implicitDefEqProofs := false, maxSteps := 4000000}) only [go_sem, ↓reduceIte, Bool.false_eq_true, Nat.reduceEqDiff, Nat.reduceAdd, Int.reduceLE, Int.reduceLT, Int.reduceEq, Int.reduceToNat, Int.toNat_natCast, Int.cast_ofNat_Int, Int.natCast_one, Nat.reduceMod, Nat.reduceDiv, UInt8.reduceToNat, Nat.reduceLT, hlen, n0, p1, p2, kb, e1, e2]
      rfl
    rw [if_neg hz]
    by_cases h32 : f.length ≠ 32
    · have e1 : decide ((f.length : Int) = 32) = false := decide_eq_false (by omega)
      have e3 : decide ((f.length : Int) ≠ 32) = true := decide_eq_true (by omega)
      rw [if_pos h32]
      simp (config := {contextual := true, implicitDefEqProofs := false, maxSteps := 4000000}) only [go_sem, ↓reduceIte, Bool.false_eq_true, Nat.reduceEqDiff, Nat.reduceAdd, Int.reduceLE, Int.reduceLT, Int.reduceEq, Int.reduceToNat, Int.toNat_natCast, Int.cast_ofNat_Int, Int.natCast_one, Nat.reduceMod, Nat.reduceDiv, UInt8.reduceToNat, Nat.reduceLT, hlen, n0, p1, p2, e1, e3, c49]
      rfl
    rw [if_neg h32]
    have h32 : f.length = 32 := Classical.not_not.1 h32
    have kb := fun st K => c48 f (by omega) st K
    have e1 : decide ((f.length : Int) = 32) = true := decide_eq_true (by omega)
    have e2 : decide (Lib.trimB f 0 = []) = false := decide_eq_false (fun h => hz ((blank32 h32).1 h))
    have e3 : decide ((f.length : Int) ≠ 32) = false := decide_eq_false (by omega)
    have s1 : (8 : Int) ≤ (f.length : Int) := by omega
    have s2 : slOk f.length (8 : Int) (12 : Int) := ⟨by omega, by omega, by omega⟩
    have u1 : cut f (0 : Int) (8 : Int) = f.take 8 := rfl
    have u2 : cut f (8 : Int) (12 : Int) = (f.drop 8).take 4 := rfl
    have l1 : (f.take 8).length = 8 := by rw [List.length_take]; omega
    have l2 : ((f.drop 8).take 4).length = 4 := by rw [List.length_take, List.length_drop]; omega
    have k1 := fun st K => c50 (f.take 8) (fun h => by rw [h] at l1; cases l1) 32 (.inr rfl) (by omega) st K
    have k2 := fun st K => c50 ((f.drop 8).take 4) (fun h => by rw [h] at l2; cases l2) 16 (.inl rfl) (by omega) st K
    unfold numP at k1 k2
    simp only [Int.cast_ofNat_Int] at k1 k2
    have q0 : evEq .iface .niliface .niliface = some true := rfl
    have q1 : evEq .iface .anyiface .niliface = some false := rfl
    cases g1 : hexG (f.take 8) 0 with
    | none =>
      rw [g1] at k1
      simp only at k1
      cases g2 : hexG ((f.drop 8).take 4) 0 with
      | none =>
        rw [g2] at k2
        simp only at k2
        simp (config := {contextual := true, implicitDefEqProofs := false, maxSteps := 4000000}) only [go_sem, ↓reduceIte, Bool.false_eq_true, Nat.reduceEqDiff, Nat.reduceAdd, Int.reduceLE, Int.reduceLT, Int.reduceEq, Int.reduceToNat, Int.toNat_natCast, Int.cast_ofNat_Int, Int.natCast_one, Nat.reduceMod, Nat.reduceDiv, UInt8.reduceToNat, Nat.reduceLT, hlen, n0, p1, p2, kb, e1, e2, e3, s1, s2, u1, u2, k1, k2, q0, q1, c49]
        rfl
      | some l =>
        rw [g2] at k2
        simp only at k2
        simp (config := {contextual := true, implicitDefEqProofs := false, maxSteps := 4000000}) only [go_sem, ↓reduceIte, Bool.false_eq_true, Nat.reduceEqDiff, Nat.reduceAdd, Int.reduceLE, Int.reduceLT, Int.reduceEq, Int.reduceToNat, Int.toNat_natCast, Int.cast_ofNat_Int, Int.natCast_one, Nat.reduceMod, Nat.reduceDiv, UInt8.reduceToNat, Nat.reduceLT, hlen, n0, p1, p2, kb, e1, e2, e3, s1, s2, u1, u2, k1, k2, q0, q1, c49]
        rfl
    | some n =>
      rw [g1] at k1
      simp only at k1
      cases g2 : hexG ((f.drop 8).take 4) 0 with
      | none =>
        rw [g2] at k2
        simp only at k2
        simp (config := {contextual := true, implicitDefEqProofs := false, maxSteps := 4000000}) only [go_sem, ↓reduceIte, Bool.false_eq_true, Nat.reduceEqDiff, Nat.reduceAdd, Int.reduceLE, Int.reduceLT, Int.reduceEq, Int.reduceToNat, Int.toNat_natCast, Int.cast_ofNat_Int, Int.natCast_one, Nat.reduceMod, Nat.reduceDiv, UInt8.reduceToNat, Nat.reduceLT, hlen, n0, p1, p2, kb, e1, e2, e3, s1, s2, u1, u2, k1, k2, q0, q1, c49]
        rfl
      | some l =>
        rw [g2] at k2
        simp only at k2
        dsimp only
        by_cases h1 : 4096 ≤ n
        · have d1 : decide ((4096 : Int) ≤ (n : Int)) = true := decide_eq_true (by omega)
          rw [if_pos (.inl h1)]
          simp (config := {contextual := true, implicitDefEqProofs := false, maxSteps := 4000000}) only [go_sem, ↓reduceIte, Bool.false_eq_true, Nat.reduceEqDiff, Nat.reduceAdd, Int.reduceLE, Int.reduceLT, Int.reduceEq, Int.reduceToNat, Int.toNat_natCast, Int.cast_ofNat_Int, Int.natCast_one, Nat.reduceMod, Nat.reduceDiv, UInt8.reduceToNat, Nat.reduceLT, hlen, n0, p1, p2, kb, e1, e2, e3, s1, s2, u1, u2, k1, k2, q0, q1, d1, c49]
          rfl
        have d1 : decide ((4096 : Int) ≤ (n : Int)) = false := decide_eq_false (by omega)
        by_cases h2 : 1024 < l
        · have d2 : decide ((1024 : Int) < (l : Int)) = true := decide_eq_true (by omega)
          rw [if_pos (.inr (.inl h2))]
          simp (config := {contextual := true, implicitDefEqProofs := false, maxSteps := 4000000}) only [go_sem, ↓reduceIte, Bool.false_eq_true, Nat.reduceEqDiff, Nat.reduceAdd, Int.reduceLE, Int.reduceLT, Int.reduceEq, Int.reduceToNat, Int.toNat_natCast, Int.cast_ofNat_Int, Int.natCast_one, Nat.reduceMod, Nat.reduceDiv, UInt8.reduceToNat, Nat.reduceLT, hlen, n0, p1, p2, kb, e1, e2, e3, s1, s2, u1, u2, k1, k2, q0, q1, d1, d2, c49]
          rfl
        have d2 : decide ((1024 : Int) < (l : Int)) = false := decide_eq_false (by omega)
        have w1 : IntKind.i64.wrap (l : Int) = (l : Int) := wrap_i64 (by omega) (by omega)
        have w2 : IntKind.i64.wrap (n : Int) = (n : Int) := wrap_i64 (by omega) (by omega)
        have k3 := fun st K => c45 l (by omega) st K
        have hz2 := szB_le l
        by_cases h3 : m < szB l
        · have d3 : decide ((m : Int) < (szB l : Int)) = true := decide_eq_true (by omega)
          rw [if_pos (.inr (.inr h3))]
          simp (config := {contextual := true, implicitDefEqProofs := false, maxSteps := 4000000}) only [go_sem, ↓reduceIte, Bool.false_eq_true, Nat.reduceEqDiff, Nat.reduceAdd, Int.reduceLE, Int.reduceLT, Int.reduceEq, Int.reduceToNat, Int.toNat_natCast, Int.cast_ofNat_Int, Int.natCast_one, Nat.reduceMod, Nat.reduceDiv, UInt8.reduceToNat, Nat.reduceLT, hlen, n0, p1, p2, kb, e1, e2, e3, s1, s2, u1, u2, k1, k2, q0, q1, d1, d2, w1, k3, d3, c49]
          rfl
        have d3 : decide ((m : Int) < (szB l : Int)) = false := decide_eq_false (by omega)
        rw [if_neg (by omega)]
        have hp := szB_pos l
        obtain ⟨v', a1, hv'⟩ := hv.take (k := szB l) (by omega) (by omega)
        have htl : ((f :: t).take (szB l)).length = szB l := by rw [List.length_take]; omega
        have hfl := hl l g2 (by omega) (by omega)
        have kj := fun K => RowS.join (st := { heap := s.heap, next := s.next, low := s.next }) (v := v') hv' (by rw [htl]; omega) (by omega) K
        have w3 : IntKind.i64.wrap ((szB l : Int) * 32) = ((szB l * 32 : Nat) : Int) := by rw [wrap_i64 (by omega) (by omega)]; omega
        obtain ⟨J, hJ⟩ : ∃ J, ((f :: t).take (szB l)).flatten = J := ⟨_, rfl⟩
        rw [hJ] at kj hfl
        by_cases h4 : J.length ≠ szB l * 32
        · have d4 : decide ((J.length : Int) ≠ ((szB l * 32 : Nat) : Int)) = true := decide_eq_true (by omega)
          rw [if_neg (fun h => by
            have := congrArg (fun x => (List.flatten x).length) h
            simp only [frameB_flat, frameAll_len, hJ] at this
            have h7 : (recG (f :: t) l).length ≤ l := by unfold recG; rw [List.length_take]; omega
            have h8 : szB (recG (f :: t) l).length = szB l := by
              have := congrArg List.length h
              rw [frameB_len, htl] at this; exact this
            omega)]
          simp (config := {contextual := true, implicitDefEqProofs := false, maxSteps := 4000000}) only [go_sem, ↓reduceIte, Bool.false_eq_true, Nat.reduceEqDiff, Nat.reduceAdd, Int.reduceLE, Int.reduceLT, Int.reduceEq, Int.reduceToNat, Int.toNat_natCast, Int.cast_ofNat_Int, Int.natCast_one, Nat.reduceMod, Nat.reduceDiv, UInt8.reduceToNat, Nat.reduceLT, hlen, n0, p1, p2, kb, e1, e2, e3, s1, s2, u1, u2, k1, k2, q0, q1, d1, d2, w1, k3, d3, a1, kj, w3, d4, c49]
          rfl
        have h4 : J.length = szB l * 32 := Classical.not_not.1 h4
        have d4 : decide ((J.length : Int) ≠ ((szB l * 32 : Nat) : Int)) = false := decide_eq_false (by omega)
        have w4 : IntKind.i64.wrap (28 + (l : Int)) = ((28 + l : Nat) : Int) := by rw [wrap_i64 (by omega) (by omega)]; omega
        have s3 : slOk J.length (28 : Int) ((28 + l : Nat) : Int) := ⟨by omega, by omega, by omega⟩
        have hr : recG (f :: t) l = (J.drop 28).take l := by unfold recG; rw [hJ]
        have u3 : cut J (28 : Int) ((28 + l : Nat) : Int) = recG (f :: t) l := by
          rw [hr]; unfold cut
          rw [Int.toNat_natCast, show ((28 : Int)).toNat = 28 from rfl, show 28 + l - 28 = l by omega]
        have hrl : (recG (f :: t) l).length = l := by rw [hr, List.length_take, List.length_drop]; omega
        obtain ⟨r, hrr⟩ : ∃ r, recG (f :: t) l = r := ⟨_, rfl⟩
        rw [hrr] at u3 hrl ⊢
        have k4 := fun st K => c24 n r (by omega) (by omega) st K
        rw [hrl] at k4
        have hfb := frameB_len n r
        rw [hrl] at hfb
        simp (config := {contextual := true, implicitDefEqProofs := false, maxSteps := 4000000}) only [go_sem, ↓reduceIte, Bool.false_eq_true, Nat.reduceEqDiff, Nat.reduceAdd, Int.reduceLE, Int.reduceLT, Int.reduceEq, Int.reduceToNat, Int.toNat_natCast, Int.cast_ofNat_Int, Int.natCast_one, Nat.reduceMod, Nat.reduceDiv, UInt8.reduceToNat, Nat.reduceLT, hlen, n0, p1, p2, kb, e1, e2, e3, s1, s2, u1, u2, k1, k2, q0, q1, d1, d2, w1, w2, k3, d3, a1, kj, w3, d4, w4, s3, u3, k4]
        have hfl2 : (frameB n r).length = szB l := hfb
        refine l26 (f :: t) (frameB n r) v (.mslice s.next 0 (szB l) none) _ _ _ _ rfl (hv.keep (by simp) ?_) (.inr (.inr ⟨s.next, none, [], by rw [hfb], ?_, by simp⟩)) (by rw [hfb, hm]; omega) (by rw [hfb]; omega) (.int .u64 (n : Int)) (.int .i64 (szB l : Int)) (.str r) _ (frameB n r).length 0 _ (by omega) rfl rfl (by rw [hfb]; rfl) rfl rfl rfl rfl rfl ?_ ?_
        · intro i hi
          simp only [Fw.look]
          rw [if_neg (by omega)]
        · simp only [Fw.look, if_true, List.append_nil]
        · intro e' hall h8 h12 h14
          have heq : frameB n r = (f :: t).take (szB l) := by
            apply List.ext_getElem
            · rw [hfb, htl]
            · intro j h5 h6
              have := hall j (Nat.zero_le _) h5
              rw [List.getElem_take]
              rw [List.getD_eq_getElem?_getD, List.getD_eq_getElem?_getD, List.getElem?_eq_getElem h5, List.getElem?_eq_getElem (by rw [hm]; omega)] at this
              simpa using this.symm
          rw [if_pos heq]
          simp (config := {contextual := true, implicitDefEqProofs := false, maxSteps := 4000000}) only [go_sem, ↓reduceIte, Bool.false_eq_true, Nat.reduceEqDiff, Nat.reduceAdd, Int.reduceLE, Int.reduceLT, Int.reduceEq, Int.reduceToNat, Int.toNat_natCast, Int.cast_ofNat_Int, Int.natCast_one, Nat.reduceMod, Nat.reduceDiv, UInt8.reduceToNat, Nat.reduceLT, h8, h12, h14, w2]
          rfl
        · intro e' j hj hne h2 h3 h4 h5
          rw [if_neg (fun heq => hne (by
            rw [heq, List.getD_eq_getElem?_getD, List.getD_eq_getElem?_getD, List.getElem?_take, if_pos (by omega)]))]
          simp (config := {contextual := true, implicitDefEqProofs := false, maxSteps := 4000000}) only [go_sem, ↓reduceIte, Bool.false_eq_true, Nat.reduceEqDiff, Nat.reduceAdd, Int.reduceLE, Int.reduceLT, Int.reduceEq, Int.reduceToNat, Int.toNat_natCast, Int.cast_ofNat_Int, Int.natCast_one, Nat.reduceMod, Nat.reduceDiv, UInt8.reduceToNat, Nat.reduceLT, h2, h3, h4, h5]
          rfl
theorem c26 (xs : List Bs8) (v : AV) (s : St) (hv : RowS s v xs) (hx : xs.length ≤ 100000) (hl : ∀ x ∈ xs, x.length ≤ 1000000) (K : AV → St → Prop) : CallW cx 26 [v] s K = K (parT (parseB xs)) s := by
  refine parse_gen xs v s hv hx (fun l _ h2 h3 => ?_) K
  have hfl := flat_le (xs.take (szB l)) 1000000 (fun x hx => hl x (List.mem_of_mem_take hx))
  have hz := szB_le l
  rw [List.length_take] at hfl
  have : min (szB l) xs.length * 1000000 ≤ 33 * 1000000 := Nat.mul_le_mul_right _ (by omega)
  omega
end T43


/- What stands at the begin of sectors: the reference's reading. -/
namespace T43
open Go Fw Go.Proofs
set_option maxRecDepth 100000
set_option maxHeartbeats 8000000
set_option linter.unusedSimpArgs false
set_option linter.unusedVariables false
end T43


/- How the disks lie in memory. -/
namespace T43
open Go Fw Go.Proofs
set_option maxRecDepth 100000
set_option maxHeartbeats 8000000
set_option linter.unusedSimpArgs false
set_option linter.unusedVariables false
def encN (l : List Bs8) : List AV := (l.map byteCells).flatten
def encB (l : List Bool) : List AV := l.map AV.bool
theorem bc_len (x : Bs8) : (byteCells x).length = x.length := by simp [byteCells]
theorem encN_cons (x : Bs8) (l : List Bs8) : encN (x :: l) = byteCells x ++ encN l := rfl
theorem encN_len : ∀ (l : List Bs8), (∀ x ∈ l, x.length = 32) → (encN l).length = l.length * 32
  | [], _ => rfl
  | x :: l, h => by
    rw [encN_cons, List.length_append, bc_len, h x (by simp), encN_len l (fun y hy => h y (by simp [hy])), List.length_cons]; omega
theorem encN_drop : ∀ (l : List Bs8) (i : Nat), (∀ x ∈ l, x.length = 32) → (encN l).drop (i * 32) = encN (l.drop i)
  | l, 0, _ => by simp
  | [], i + 1, _ => by simp [encN]
  | x :: l, i + 1, h => by
    have hx : (byteCells x).length = 32 := by rw [bc_len]; exact h x (by simp)
    rw [encN_cons, List.drop_append, List.drop_eq_nil_of_le (by omega), List.nil_append, hx, show (i + 1) * 32 - 32 = i * 32 by omega, List.drop_succ_cons]
    exact encN_drop l i (fun y hy => h y (by simp [hy]))
theorem encN_take : ∀ (l : List Bs8) (i : Nat), (∀ x ∈ l, x.length = 32) → (encN l).take (i * 32) = encN (l.take i)
  | l, 0, _ => by simp [encN]
  | [], i + 1, _ => by simp [encN]
  | x :: l, i + 1, h => by
    have hx : (byteCells x).length = 32 := by rw [bc_len]; exact h x (by simp)
    rw [encN_cons, List.take_append, List.take_of_length_le (by omega), hx, show (i + 1) * 32 - 32 = i * 32 by omega, List.take_succ_cons, encN_cons, encN_take l i (fun y hy => h y (by simp [hy]))]
theorem encN_app (l m : List Bs8) : encN (l ++ m) = encN l ++ encN m := by simp [encN]
theorem getD_mem {l : List Bs8} {i : Nat} (h : i < l.length) : l.getD i [] ∈ l := by
  rw [List.getD_eq_getElem?_getD, List.getElem?_eq_getElem h]; exact List.getElem_mem h
theorem drop_cons {l : List Bs8} {i : Nat} (h : i < l.length) : l.drop i = l.getD i [] :: l.drop (i + 1) := by
  rw [List.drop_eq_getElem_cons h]; simp [List.getD, h]
theorem encN_sub {l : List Bs8} {i : Nat} (hl : ∀ x ∈ l, x.length = 32) (h : i < l.length) : sub (encN l) (i * 32) 32 = some (byteCells (l.getD i [])) := by
  unfold sub
  have h1 := encN_len l hl
  have h2 : (l.getD i []).length = 32 := hl _ (getD_mem h)
  rw [if_pos (by omega), encN_drop l i hl, drop_cons h, encN_cons, List.take_append_of_le_length (by rw [bc_len]; omega), List.take_of_length_le (by rw [bc_len]; omega)]
theorem set_split {l : List Bs8} {i : Nat} (h : i < l.length) (x : Bs8) : l.set i x = l.take i ++ x :: l.drop (i + 1) := by
  rw [List.set_eq_take_append_cons_drop, if_pos h]
theorem encN_patch {l : List Bs8} {i : Nat} {x : Bs8} (hl : ∀ x ∈ l, x.length = 32) (h : i < l.length) (hx : x.length = 32) : patch (encN l) (i * 32) (byteCells x) = some (encN (l.set i x)) := by
  unfold patch
  have h1 := encN_len l hl
  have h3 : (byteCells x).length = 32 := by rw [bc_len]; exact hx
  rw [if_pos (by omega), encN_take l i hl, h3, show i * 32 + 32 = (i + 1) * 32 by omega, encN_drop l (i + 1) hl, set_split h, encN_app, encN_cons, List.append_assoc]
theorem encN_all {l m : List Bs8} (hl : ∀ x ∈ l, x.length = 32) (hm : ∀ x ∈ m, x.length = 32) (h : l.length = m.length) : patch (encN l) 0 (encN m) = some (encN m) := by
  unfold patch
  have h1 := encN_len l hl
  have h2 := encN_len m hm
  rw [if_pos (by omega), List.take_zero, List.nil_append, List.drop_eq_nil_of_le (by omega), List.append_nil]
theorem bytes_bc : ∀ (x : Bs8), bytesOf (byteCells x) = some x
  | [] => rfl
  | b :: x => by
    rw [show byteCells (b :: x) = AV.int .u8 ((b.toNat : Nat) : Int) :: byteCells x from rfl, show bytesOf (AV.int .u8 ((b.toNat : Nat) : Int) :: byteCells x) = (bytesOf (byteCells x)).map (UInt8.ofNat ((b.toNat : Nat) : Int).toNat :: ·) from rfl, bytes_bc x]
    simp
theorem bc_one (x : Bs8) : (byteCells x).all AV.one = true := List.all_eq_true.2 fun a ha => by
  obtain ⟨b, _, rfl⟩ := List.mem_map.1 ha; rfl
theorem encN_one (l : List Bs8) : (encN l).all AV.one = true := by
  induction l with
  | nil => rfl
  | cons x l ih => rw [encN_cons, List.all_append, bc_one, ih]; rfl
theorem encB_sub {l : List Bool} {i : Nat} (h : i < l.length) : sub (encB l) i 1 = some [.bool (l.getD i false)] := by
  rw [sub_one (by simp [encB]; exact h)]
  simp [encB, List.getD, h]
theorem encB_patch {l : List Bool} {i : Nat} (h : i < l.length) (b : Bool) : patch (encB l) i [.bool b] = some (encB (l.set i b)) := by
  rw [patch_one (by simp [encB]; exact h)]
  simp [encB, List.map_set]
theorem encS_sub {l : List Bs8} {i : Nat} (h : i < l.length) : sub (encS l) i 1 = some [.str (l.getD i [])] := by
  rw [sub_one (by simp [encS]; exact h)]
  simp [encS, List.getD, h]
/-- What lies elsewhere stays; blocks from L on at most were written. -/
structure Upd (S : Nat → Prop) (h : List (Nat × AObj)) (nx lo : Nat) (h' : List (Nat × AObj)) (nx' lo' : Nat) : Prop where
  next : nx ≤ nx'
  keep : ∀ i, ¬ S i → i < nx → Fw.look i h' = Fw.look i h
  low : ∀ L, L ≤ lo → L ≤ nx → (∀ i, S i → L ≤ i) → L ≤ lo'
theorem Upd.refl (S : Nat → Prop) (h : List (Nat × AObj)) (nx lo : Nat) : Upd S h nx lo h nx lo := ⟨Nat.le_refl _, fun _ _ _ => rfl, fun _ h _ _ => h⟩
theorem Upd.trans {S : Nat → Prop} {h h' h2 : List (Nat × AObj)} {nx nx' n2 lo lo' l2 : Nat} (a : Upd S h nx lo h' nx' lo') (b : Upd S h' nx' lo' h2 n2 l2) : Upd S h nx lo h2 n2 l2 :=
  ⟨Nat.le_trans a.next b.next, fun i hi hn => by rw [b.keep i hi (by have := a.next; omega), a.keep i hi hn], fun L h1 h2 h3 => b.low L (a.low L h1 h2 h3) (by have := a.next; omega) h3⟩
theorem Upd.trans2 {S T : Nat → Prop} {h h' h2 : List (Nat × AObj)} {nx nx' n2 lo lo' l2 : Nat} (a : Upd S h nx lo h' nx' lo') (b : Upd T h' nx' lo' h2 n2 l2) (hT : ∀ i, T i → S i ∨ nx ≤ i) : Upd S h nx lo h2 n2 l2 :=
  ⟨Nat.le_trans a.next b.next, fun i hi hn => by rw [b.keep i (fun ht => (hT i ht).elim hi (fun h => by omega)) (by have := a.next; omega), a.keep i hi hn], fun L h1 h2 h3 => b.low L (a.low L h1 h2 h3) (by have := a.next; omega) fun i ht => (hT i ht).elim (h3 i) (fun h => by omega)⟩
theorem Upd.mono {S T : Nat → Prop} (hST : ∀ i, S i → T i) {h h' : List (Nat × AObj)} {nx nx' lo lo' : Nat} (a : Upd S h nx lo h' nx' lo') : Upd T h nx lo h' nx' lo' :=
  ⟨a.next, fun i hi hn => a.keep i (fun hs => hi (hST i hs)) hn, fun L h1 h2 h3 => a.low L h1 h2 fun i hi => h3 i (hST i hi)⟩
theorem Upd.put {S : Nat → Prop} {h : List (Nat × AObj)} {nx lo C : Nat} {o : AObj} (hC : S C) : Upd S h nx lo (Fw.put C o h) nx (min lo C) :=
  ⟨Nat.le_refl _, fun i hi _ => look_put_ne (fun e => hi (by rw [e]; exact hC)), fun L h1 _ h3 => Nat.le_min.2 ⟨h1, h3 C hC⟩⟩
theorem Upd.leave {S : Nat → Prop} {h h' : List (Nat × AObj)} {nx nx' lo l' : Nat} (a : Upd S h nx nx h' nx' l') : Upd S h nx lo h' nx' (min lo l') :=
  ⟨a.next, a.keep, fun L h1 h2 h3 => Nat.le_min.2 ⟨h1, a.low L h2 h2 h3⟩⟩
/-- The program's disk. -/
structure PD (D A B C n : Nat) (d : DK) (h : List (Nat × AObj)) (nx : Nat) : Prop where
  hd : Fw.look D h = some (.cells (some 71) [.mslice A 0 n (some n), .mslice B 0 n (some n), .mslice C 0 n (some n)])
  ha : Fw.look A h = some (.cells none (encN d.now))
  hb : Fw.look B h = some (.cells none (encN d.dur))
  hc : Fw.look C h = some (.cells none (encB d.drt))
  ne : D ≠ A ∧ D ≠ B ∧ D ≠ C ∧ A ≠ B ∧ A ≠ C ∧ B ≠ C
  lt : D < nx ∧ A < nx ∧ B < nx ∧ C < nx
  ok : DKok d n
  hn : n ≤ 4096
theorem PD.keep {D A B C n : Nat} {d : DK} {h h' : List (Nat × AObj)} {nx nx' : Nat} (p : PD D A B C n d h nx) (hn : nx ≤ nx') (hk : ∀ i, i < nx → Fw.look i h' = Fw.look i h) : PD D A B C n d h' nx' :=
  ⟨by rw [hk D p.lt.1]; exact p.hd, by rw [hk A p.lt.2.1]; exact p.ha, by rw [hk B p.lt.2.2.1]; exact p.hb, by rw [hk C p.lt.2.2.2]; exact p.hc, p.ne, ⟨by have := p.lt.1; omega, by have := p.lt.2.1; omega, by have := p.lt.2.2.1; omega, by have := p.lt.2.2.2; omega⟩, p.ok, p.hn⟩
theorem PD.setA {D A B C n : Nat} {d : DK} {h : List (Nat × AObj)} {nx : Nat} (p : PD D A B C n d h nx) (l : List Bs8) (ok : DKok ⟨l, d.dur, d.drt⟩ n) : PD D A B C n ⟨l, d.dur, d.drt⟩ (Fw.put A (.cells none (encN l)) h) nx :=
  ⟨by rw [look_put_ne p.ne.1]; exact p.hd, look_put_self p.ha, by rw [look_put_ne p.ne.2.2.2.1.symm]; exact p.hb, by rw [look_put_ne p.ne.2.2.2.2.1.symm]; exact p.hc, p.ne, p.lt, ok, p.hn⟩
theorem PD.setB {D A B C n : Nat} {d : DK} {h : List (Nat × AObj)} {nx : Nat} (p : PD D A B C n d h nx) (l : List Bs8) (ok : DKok ⟨d.now, l, d.drt⟩ n) : PD D A B C n ⟨d.now, l, d.drt⟩ (Fw.put B (.cells none (encN l)) h) nx :=
  ⟨by rw [look_put_ne p.ne.2.1]; exact p.hd, by rw [look_put_ne p.ne.2.2.2.1]; exact p.ha, look_put_self p.hb, by rw [look_put_ne p.ne.2.2.2.2.2.symm]; exact p.hc, p.ne, p.lt, ok, p.hn⟩
theorem PD.setC {D A B C n : Nat} {d : DK} {h : List (Nat × AObj)} {nx : Nat} (p : PD D A B C n d h nx) (l : List Bool) (ok : DKok ⟨d.now, d.dur, l⟩ n) : PD D A B C n ⟨d.now, d.dur, l⟩ (Fw.put C (.cells none (encB l)) h) nx :=
  ⟨by rw [look_put_ne p.ne.2.2.1]; exact p.hd, by rw [look_put_ne p.ne.2.2.2.2.1]; exact p.ha, by rw [look_put_ne p.ne.2.2.2.2.2]; exact p.hb, look_put_self p.hc, p.ne, p.lt, ok, p.hn⟩
/-- The reference's disk. -/
structure RD (D A B C n : Nat) (d : DK) (h : List (Nat × AObj)) (nx : Nat) : Prop where
  hd : Fw.look D h = some (.cells (some 45) [.mslice A 0 n none, .mslice B 0 n none, .mslice C 0 n none])
  ha : Fw.look A h = some (.cells none (encS d.now))
  hb : Fw.look B h = some (.cells none (encS d.dur))
  hc : Fw.look C h = some (.cells none (encB d.drt))
  ne : D ≠ A ∧ D ≠ B ∧ D ≠ C ∧ A ≠ B ∧ A ≠ C ∧ B ≠ C
  lt : D < nx ∧ A < nx ∧ B < nx ∧ C < nx
  ok : DKok d n
  hn : n ≤ 4096
theorem RD.keep {D A B C n : Nat} {d : DK} {h h' : List (Nat × AObj)} {nx nx' : Nat} (p : RD D A B C n d h nx) (hn : nx ≤ nx') (hk : ∀ i, i < nx → Fw.look i h' = Fw.look i h) : RD D A B C n d h' nx' :=
  ⟨by rw [hk D p.lt.1]; exact p.hd, by rw [hk A p.lt.2.1]; exact p.ha, by rw [hk B p.lt.2.2.1]; exact p.hb, by rw [hk C p.lt.2.2.2]; exact p.hc, p.ne, ⟨by have := p.lt.1; omega, by have := p.lt.2.1; omega, by have := p.lt.2.2.1; omega, by have := p.lt.2.2.2; omega⟩, p.ok, p.hn⟩
theorem RD.setA {D A B C n : Nat} {d : DK} {h : List (Nat × AObj)} {nx : Nat} (p : RD D A B C n d h nx) (l : List Bs8) (ok : DKok ⟨l, d.dur, d.drt⟩ n) : RD D A B C n ⟨l, d.dur, d.drt⟩ (Fw.put A (.cells none (encS l)) h) nx :=
  ⟨by rw [look_put_ne p.ne.1]; exact p.hd, look_put_self p.ha, by rw [look_put_ne p.ne.2.2.2.1.symm]; exact p.hb, by rw [look_put_ne p.ne.2.2.2.2.1.symm]; exact p.hc, p.ne, p.lt, ok, p.hn⟩
theorem RD.setB {D A B C n : Nat} {d : DK} {h : List (Nat × AObj)} {nx : Nat} (p : RD D A B C n d h nx) (l : List Bs8) (ok : DKok ⟨d.now, l, d.drt⟩ n) : RD D A B C n ⟨d.now, l, d.drt⟩ (Fw.put B (.cells none (encS l)) h) nx :=
  ⟨by rw [look_put_ne p.ne.2.1]; exact p.hd, by rw [look_put_ne p.ne.2.2.2.1]; exact p.ha, look_put_self p.hb, by rw [look_put_ne p.ne.2.2.2.2.2.symm]; exact p.hc, p.ne, p.lt, ok, p.hn⟩
theorem RD.setC {D A B C n : Nat} {d : DK} {h : List (Nat × AObj)} {nx : Nat} (p : RD D A B C n d h nx) (l : List Bool) (ok : DKok ⟨d.now, d.dur, l⟩ n) : RD D A B C n ⟨d.now, d.dur, l⟩ (Fw.put C (.cells none (encB l)) h) nx :=
  ⟨by rw [look_put_ne p.ne.2.2.1]; exact p.hd, by rw [look_put_ne p.ne.2.2.2.2.1]; exact p.ha, by rw [look_put_ne p.ne.2.2.2.2.2]; exact p.hb, look_put_self p.hc, p.ne, p.lt, ok, p.hn⟩
theorem LeaveW_wr {s s' : St} {v : AV} (hd : v.drop2 s.next = v) (hl : s'.low < s.next) (K : AV → St → Prop) : LeaveW s s' v K = K v { heap := s'.heap, next := s'.next, low := min s.low s'.low } := by
  simp only [LeaveW, leave, hd]
  rw [if_neg (by omega)]
end T43


/- The program's disk. -/
namespace T43
open Go Fw Go.Proofs
set_option maxRecDepth 100000
set_option maxHeartbeats 8000000
set_option linter.unusedSimpArgs false
set_option linter.unusedVariables false
section
variable {D A B C n : Nat} {d : DK} {h : List (Nat × AObj)} {nx lo : Nat}
theorem c41 (p : PD D A B C n d h nx) (i : Int) (K : AV → St → Prop) : CallW cx 41 [.ptr D 0, .int .i64 i] { heap := h, next := nx, low := lo } K = K (.bool (decide (0 ≤ i) && decide (i < (n : Int)))) { heap := h, next := nx, low := lo } := by
  refine CallW.eq (CallW.fn' (fn := ir41) rfl rfl (by kernel_rfl) ir41.eq_1 ?_) K
  have hd := p.hd
  cases d1 : decide (0 ≤ i)
  · simp (config := {contextual := true, implicitDefEqProofs := false, maxSteps := 4000000}) only [go_sem, ↓reduceIte, Bool.false_eq_true, Nat.reduceEqDiff, Nat.reduceAdd, Int.reduceLE, Int.reduceLT, Int.reduceEq, Int.reduceToNat, Int.toNat_natCast, Int.cast_ofNat_Int, Int.natCast_one, Nat.reduceMod, Nat.reduceDiv, UInt8.reduceToNat, Nat.reduceLT, hd, d1, Bool.false_and]
  · simp (config := {contextual := true, implicitDefEqProofs := false, maxSteps := 4000000}) only [go_sem, ↓reduceIte, Bool.false_eq_true, Nat.reduceEqDiff, Nat.reduceAdd, Int.reduceLE, Int.reduceLT, Int.reduceEq, Int.reduceToNat, Int.toNat_natCast, Int.cast_ofNat_Int, Int.natCast_one, Nat.reduceMod, Nat.reduceDiv, UInt8.reduceToNat, Nat.reduceLT, hd, d1, Bool.true_and]
theorem c23 (p : PD D A B C n d h nx) (K : AV → St → Prop) : CallW cx 23 [.ptr D 0] { heap := h, next := nx, low := lo } K = K (.int .i64 (n : Int)) { heap := h, next := nx, low := lo } := by
  refine CallW.eq (CallW.fn' (fn := ir23) rfl rfl (by kernel_rfl) ir23.eq_1 ?_) K
  have hd := p.hd
  simp (config := {contextual := true, implicitDefEqProofs := false, maxSteps := 4000000}) only [go_sem, ↓reduceIte, Bool.false_eq_true, Nat.reduceEqDiff, Nat.reduceAdd, Int.reduceLE, Int.reduceLT, Int.reduceEq, Int.reduceToNat, Int.toNat_natCast, Int.cast_ofNat_Int, Int.natCast_one, Nat.reduceMod, Nat.reduceDiv, UInt8.reduceToNat, Nat.reduceLT, hd]
def wrS (A C : Nat) (i : Nat) : Prop := i = A ∨ i = C
theorem write_ok (p : PD D A B C n d h nx) (i : Int) (x : Bs8) (hx : x.length < 9223372036854775807) : ∃ h' nx' lo', (∀ K, CallW cx 13 [.ptr D 0, .int .i64 i, .str x] { heap := h, next := nx, low := lo } K = K (.int .i64 (d.writeE i x)) { heap := h', next := nx', low := lo' }) ∧ PD D A B C n (d.write i x) h' nx' ∧ Upd (wrS A C) h nx lo h' nx' lo' ∧ (d.writeE i x = 0 → lo' < nx) := by
  have main : CallW cx 13 [.ptr D 0, .int .i64 i, .str x] { heap := h, next := nx, low := lo } (fun v s' => v = .int .i64 (d.writeE i x) ∧ PD D A B C n (d.write i x) s'.heap s'.next ∧ Upd (wrS A C) h nx lo s'.heap s'.next s'.low ∧ (d.writeE i x = 0 → s'.low < nx)) := by
    refine CallW.fn' (fn := ir13) rfl rfl (by kernel_rfl) ir13.eq_1 ?_
    have hd := p.hd
    have ha := p.ha
    have hc := p.hc
    have kh := fun lo K => c41 (lo := lo) p i K
    have ok := p.ok
    by_cases hi : i < 0 ∨ (n : Int) ≤ i
    · have d1 : (decide (0 ≤ i) && decide (i < (n : Int))) = false := by simp; omega
      have e1 : d.writeE i x = 6 := by unfold DK.writeE; rw [ok.l1, if_pos hi]
      have e2 : d.write i x = d := by unfold DK.write; rw [e1, if_neg (by decide)]
      rw [e1, e2]
      simp (config := {contextual := true, implicitDefEqProofs := false, maxSteps := 4000000}) only [go_sem, ↓reduceIte, Bool.false_eq_true, Nat.reduceEqDiff, Nat.reduceAdd, Int.reduceLE, Int.reduceLT, Int.reduceEq, Int.reduceToNat, Int.toNat_natCast, Int.cast_ofNat_Int, Int.natCast_one, Nat.reduceMod, Nat.reduceDiv, UInt8.reduceToNat, Nat.reduceLT, kh, d1, Bool.not_false]
      exact ⟨p, Upd.refl _ _ _ _, fun hc => absurd hc (by decide)⟩
    have d1 : (decide (0 ≤ i) && decide (i < (n : Int))) = true := by simp; omega
    by_cases h32 : x.length ≠ 32
    · have d2 : decide ((x.length : Int) ≠ 32) = true := decide_eq_true (by omega)
      have e1 : d.writeE i x = 1 := by unfold DK.writeE; rw [ok.l1, if_neg hi, if_pos h32]
      have e2 : d.write i x = d := by unfold DK.write; rw [e1, if_neg (by decide)]
      rw [e1, e2]
      simp (config := {contextual := true, implicitDefEqProofs := false, maxSteps := 4000000}) only [go_sem, ↓reduceIte, Bool.false_eq_true, Nat.reduceEqDiff, Nat.reduceAdd, Int.reduceLE, Int.reduceLT, Int.reduceEq, Int.reduceToNat, Int.toNat_natCast, Int.cast_ofNat_Int, Int.natCast_one, Nat.reduceMod, Nat.reduceDiv, UInt8.reduceToNat, Nat.reduceLT, kh, d1, Bool.not_true, d2]
      exact ⟨p, Upd.refl _ _ _ _, fun hc => absurd hc (by decide)⟩
    have h32 : x.length = 32 := Classical.not_not.1 h32
    have d2 : decide ((x.length : Int) ≠ 32) = false := decide_eq_false (by omega)
    have e1 : d.writeE i x = 0 := by unfold DK.writeE; rw [ok.l1, if_neg hi, if_neg (by omega)]
    have e2 : d.write i x = d.put i.toNat x := by unfold DK.write; rw [e1, if_pos rfl]
    rw [e1, e2]
    obtain ⟨k, rfl⟩ : ∃ k : Nat, i = (k : Int) := ⟨i.toNat, by omega⟩
    rw [Int.toNat_natCast]
    have hk : k < n := by omega
    have b1 : (0 : Int) ≤ (k : Int) ∧ (k : Int) < (n : Int) := by omega
    have b2 : (k : Int) < (n : Int) := by omega
    have s1 : sliceArr 1 32 (.ptr A (k * 32)) none none none = some (.mslice A (k * 32) 32 (some 32)) := rfl
    have pa := encN_patch (l := d.now) (i := k) (x := x) ok.b1 (by rw [ok.l1]; exact hk) h32
    have pc := encB_patch (l := d.drt) (i := k) (by rw [ok.l3]; exact hk) true
    have c1 : ∀ lo, copyA { heap := h, next := nx, low := lo } 1 (.mslice A (k * 32) 32 (some 32)) (.str x) = some (.int .i64 32, { heap := Fw.put A (.cells none (encN (d.now.set k x))) h, next := nx, low := min lo A }) := by
      intro lo
      have t1 : (byteCells x).take (min 32 32 * 1) = byteCells x := List.take_of_length_le (by rw [bc_len]; omega)
      simp only [copyA, AV.count, cellsOf, if_true, St.get, ha, bc_one, Bool.true_eq_false, if_false, h32, t1, pa, Option.map_some, St.set]
      rfl
    have hc2 : Fw.look C (Fw.put A (.cells none (encN (d.now.set k x))) h) = some (.cells none (encB d.drt)) := by rw [look_put_ne (fun e => p.ne.2.2.2.2.1 e.symm)]; exact hc
    have hd2 : Fw.look D (Fw.put A (.cells none (encN (d.now.set k x))) h) = some (.cells (some 71) [.mslice A 0 n (some n), .mslice B 0 n (some n), .mslice C 0 n (some n)]) := by rw [look_put_ne p.ne.1]; exact hd
    simp (config := {contextual := true, implicitDefEqProofs := false, maxSteps := 4000000}) only [go_sem, ↓reduceIte, Bool.false_eq_true, Nat.reduceEqDiff, Nat.reduceAdd, Int.reduceLE, Int.reduceLT, Int.reduceEq, Int.reduceToNat, Int.toNat_natCast, Int.cast_ofNat_Int, Int.natCast_one, Nat.reduceMod, Nat.reduceDiv, UInt8.reduceToNat, Nat.reduceLT, kh, d1, Bool.not_true, d2, hd, iaddrA, b1, b2, s1, c1, hd2, hc2, Nat_mul_one, pc]
    rw [LeaveW_wr rfl (by show min (min nx A) C < nx; have := p.lt; omega)]
    have okA : DKok ⟨d.now.set k x, d.dur, d.drt⟩ n := ⟨by simp [ok.l1], ok.l2, ok.l3, fun y hy => (mem_set hy).elim (ok.b1 y) (fun e => by rw [e]; exact h32), ok.b2⟩
    refine ⟨rfl, ?_, ?_, fun _ => by show min lo (min (min nx A) C) < nx; have := p.lt; omega⟩
    · exact (p.setA (d.now.set k x) okA).setC (d.drt.set k true) ⟨okA.l1, okA.l2, by simp [ok.l3], okA.b1, okA.b2⟩
    · exact Upd.leave ((Upd.put (.inl rfl)).trans (Upd.put (.inr rfl)))
  obtain ⟨k, v, ⟨h', nx', lo'⟩, h1, rfl, h2, h3⟩ := main
  exact ⟨h', nx', lo', fun K => CallW.eq ⟨k, _, _, h1, rfl, rfl⟩ K, h2, h3⟩
end
end T43


/- The program's disk: settling, reading, making. -/
namespace T43
open Go Fw Go.Proofs
set_option maxRecDepth 100000
set_option maxHeartbeats 8000000
set_option linter.unusedSimpArgs false
set_option linter.unusedVariables false
theorem flat_false : ∀ n, (List.replicate n [AV.bool false]).flatten = encB (List.replicate n false)
  | 0 => rfl
  | n + 1 => by rw [List.replicate_succ, List.flatten_cons, flat_false n]; rfl
theorem encB_len (l : List Bool) : (encB l).length = l.length := by simp [encB]
section
variable {D A B C n : Nat} {d : DK} {h : List (Nat × AObj)} {nx lo : Nat}
def syS (B C : Nat) (i : Nat) : Prop := i = B ∨ i = C
theorem settle_ok (p : PD D A B C n d h nx) (hn1 : 1 ≤ n) : ∃ h' nx' lo', (∀ K, CallW cx 42 [.ptr D 0] { heap := h, next := nx, low := lo } K = K (.tuple []) { heap := h', next := nx', low := lo' }) ∧ PD D A B C n d.sync h' nx' ∧ Upd (syS B C) h nx lo h' nx' lo' ∧ lo' < nx := by
  have main : CallW cx 42 [.ptr D 0] { heap := h, next := nx, low := lo } (fun v s' => v = .tuple [] ∧ PD D A B C n d.sync s'.heap s'.next ∧ Upd (syS B C) h nx lo s'.heap s'.next s'.low ∧ s'.low < nx) := by
    refine CallW.fn' (fn := ir42) rfl rfl (by kernel_rfl) ir42.eq_1 ?_
    have hd := p.hd
    have ha := p.ha
    have hb := p.hb
    have hc := p.hc
    have ok := p.ok
    have l1 := encN_len d.now ok.b1
    have l2 := encN_len d.dur ok.b2
    rw [ok.l1] at l1
    rw [ok.l2] at l2
    have pb := encN_all (l := d.dur) (m := d.now) ok.b2 ok.b1 (by rw [ok.l1, ok.l2])
    have c1 : ∀ lo, copyA { heap := h, next := nx, low := lo } 32 (.mslice B 0 n (some n)) (.mslice A 0 n (some n)) = some (.int .i64 (n : Int), { heap := Fw.put B (.cells none (encN d.now)) h, next := nx, low := min lo B }) := by
      intro lo
      have t1 : (encN d.now).take (n * 32) = encN d.now := List.take_of_length_le (by omega)
      simp only [copyA, AV.count, cellsOf, St.get, ha, sub_all l1, hb, encN_one, Bool.true_eq_false, if_false, Nat.min_self, t1, pb, Option.map_some, St.set]
    have hc2 : Fw.look C (Fw.put B (.cells none (encN d.now)) h) = some (.cells none (encB d.drt)) := by rw [look_put_ne p.ne.2.2.2.2.2.symm]; exact hc
    have hd2 : Fw.look D (Fw.put B (.cells none (encN d.now)) h) = some (.cells (some 71) [.mslice A 0 n (some n), .mslice B 0 n (some n), .mslice C 0 n (some n)]) := by rw [look_put_ne p.ne.2.1]; exact hd
    have c2 : ∀ lo, clearA { heap := Fw.put B (.cells none (encN d.now)) h, next := nx, low := lo } [.bool false] (.mslice C 0 n (some n)) = some (AV.undef, { heap := Fw.put C (.cells none (encB (List.replicate n false))) (Fw.put B (.cells none (encN d.now)) h), next := nx, low := min lo C }) := by
      intro lo
      have pc : patch (encB d.drt) 0 (encB (List.replicate n false)) = some (encB (List.replicate n false)) := by
        unfold patch
        rw [if_pos (by rw [encB_len, encB_len, ok.l3, List.length_replicate]; omega), List.take_zero, List.nil_append, List.drop_eq_nil_of_le (by rw [encB_len, encB_len, ok.l3, List.length_replicate]; omega), List.append_nil]
      simp only [clearA, show ¬ n = 0 by omega, if_false, St.get, hc2, List.all_cons, AV.one, List.all_nil, Bool.and_self, Bool.true_eq_false, flat_false, pc, Option.map_some, St.set]
    have hBn : decide (min nx B = nx) = false := decide_eq_false (by have := p.lt; omega)
    simp (config := {contextual := true, implicitDefEqProofs := false, maxSteps := 4000000}) only [go_sem, ↓reduceIte, Bool.false_eq_true, Nat.reduceEqDiff, Nat.reduceAdd, Int.reduceLE, Int.reduceLT, Int.reduceEq, Int.reduceToNat, Int.toNat_natCast, Int.cast_ofNat_Int, Int.natCast_one, Nat.reduceMod, Nat.reduceDiv, UInt8.reduceToNat, Nat.reduceLT, hd, c1, hd2, c2, hBn]
    rw [show min nx (min nx B) = min nx B by omega]
    rw [LeaveW_wr rfl (by show min (min nx B) C < nx; have := p.lt; omega)]
    have okB : DKok ⟨d.now, d.now, d.drt⟩ n := ⟨ok.l1, ok.l1, ok.l3, ok.b1, ok.b1⟩
    refine ⟨rfl, ?_, ?_, ?_⟩
    · have := ok.sync
      unfold DK.sync at this ⊢
      rw [ok.l1] at this ⊢
      exact (p.setB d.now okB).setC (List.replicate n false) this
    · exact Upd.leave ((Upd.put (.inl rfl)).trans (Upd.put (.inr rfl)))
    · show min lo (min (min nx B) C) < nx
      have := p.lt; omega
  obtain ⟨k, v, ⟨h', nx', lo'⟩, h1, rfl, h2, h3⟩ := main
  exact ⟨h', nx', lo', fun K => CallW.eq ⟨k, _, _, h1, rfl, rfl⟩ K, h2, h3⟩
theorem sync_ok (p : PD D A B C n d h nx) (hn1 : 1 ≤ n) : ∃ h' nx' lo', (∀ K, CallW cx 15 [.ptr D 0] { heap := h, next := nx, low := lo } K = K (.int .i64 0) { heap := h', next := nx', low := lo' }) ∧ PD D A B C n d.sync h' nx' ∧ Upd (syS B C) h nx lo h' nx' lo' ∧ lo' < nx := by
  have main : CallW cx 15 [.ptr D 0] { heap := h, next := nx, low := lo } (fun v s' => v = .int .i64 0 ∧ PD D A B C n d.sync s'.heap s'.next ∧ Upd (syS B C) h nx lo s'.heap s'.next s'.low ∧ s'.low < nx) := by
    refine CallW.fn' (fn := ir15) rfl rfl (by kernel_rfl) ir15.eq_1 ?_
    obtain ⟨h', nx', lo', k1, k2, k3, k4⟩ := settle_ok (lo := nx) p hn1
    simp (config := {contextual := true, implicitDefEqProofs := false, maxSteps := 4000000}) only [go_sem, ↓reduceIte, Bool.false_eq_true, Nat.reduceEqDiff, Nat.reduceAdd, Int.reduceLE, Int.reduceLT, Int.reduceEq, Int.reduceToNat, Int.toNat_natCast, Int.cast_ofNat_Int, Int.natCast_one, Nat.reduceMod, Nat.reduceDiv, UInt8.reduceToNat, Nat.reduceLT, k1]
    rw [LeaveW_wr rfl k4]
    exact ⟨rfl, k2, Upd.leave k3, by show min lo lo' < nx; omega⟩
  obtain ⟨k, v, ⟨h', nx', lo'⟩, h1, rfl, h2, h3⟩ := main
  exact ⟨h', nx', lo', fun K => CallW.eq ⟨k, _, _, h1, rfl, rfl⟩ K, h2, h3⟩
def readT (d : DK) (i : Int) : AV := if i < 0 ∨ (d.now.length : Int) ≤ i then .tuple [.str [], .int .i64 6] else .tuple [.str (d.now.getD i.toNat []), .int .i64 0]
theorem c22 (p : PD D A B C n d h nx) (i : Int) (K : AV → St → Prop) : CallW cx 22 [.ptr D 0, .int .i64 i] { heap := h, next := nx, low := lo } K = K (readT d i) { heap := h, next := nx, low := lo } := by
  refine CallW.eq (CallW.fn' (fn := ir22) rfl rfl (by kernel_rfl) ir22.eq_1 ?_) K
  have hd := p.hd
  have ha := p.ha
  have ok := p.ok
  have kh := fun lo K => c41 (lo := lo) p i K
  unfold readT
  rw [ok.l1]
  by_cases hi : i < 0 ∨ (n : Int) ≤ i
  · have d1 : (decide (0 ≤ i) && decide (i < (n : Int))) = false := by simp; omega
    rw [if_pos hi]
    simp (config := {contextual := true, implicitDefEqProofs := false, maxSteps := 4000000}) only [go_sem, ↓reduceIte, Bool.false_eq_true, Nat.reduceEqDiff, Nat.reduceAdd, Int.reduceLE, Int.reduceLT, Int.reduceEq, Int.reduceToNat, Int.toNat_natCast, Int.cast_ofNat_Int, Int.natCast_one, Nat.reduceMod, Nat.reduceDiv, UInt8.reduceToNat, Nat.reduceLT, kh, d1, Bool.not_false]
  have d1 : (decide (0 ≤ i) && decide (i < (n : Int))) = true := by simp; omega
  rw [if_neg hi]
  obtain ⟨k, rfl⟩ : ∃ k : Nat, i = (k : Int) := ⟨i.toNat, by omega⟩
  rw [Int.toNat_natCast]
  have b1 : (0 : Int) ≤ (k : Int) ∧ (k : Int) < (n : Int) := by omega
  have b2 : (k : Int) < (n : Int) := by omega
  have s1 : sliceArr 1 32 (.ptr A (k * 32)) none none none = some (.mslice A (k * 32) 32 (some 32)) := rfl
  have b3 : ∀ lo, b2sA { heap := h, next := nx, low := lo } (.mslice A (k * 32) 32 (some 32)) = some (.str (d.now.getD k [])) := fun lo => b2s_m ha (encN_sub ok.b1 (by rw [ok.l1]; omega)) (bytes_bc _)
  simp (config := {contextual := true, implicitDefEqProofs := false, maxSteps := 4000000}) only [go_sem, ↓reduceIte, Bool.false_eq_true, Nat.reduceEqDiff, Nat.reduceAdd, Int.reduceLE, Int.reduceLT, Int.reduceEq, Int.reduceToNat, Int.toNat_natCast, Int.cast_ofNat_Int, Int.natCast_one, Nat.reduceMod, Nat.reduceDiv, UInt8.reduceToNat, Nat.reduceLT, kh, d1, Bool.not_true, hd, iaddrA, b1, b2, s1, b3]
theorem make_zero (n : Nat) : (List.replicate n (List.replicate 32 (AV.int .u8 0))).flatten = encN (List.replicate n zero32) := by
  induction n with
  | zero => rfl
  | succ n ih => rw [List.replicate_succ, List.flatten_cons, ih]; rfl
theorem newd_ok (h : List (Nat × AObj)) (nx lo n : Nat) (h1 : 1 ≤ n) (h2 : n ≤ 4096) : ∃ h' nx', (∀ K, CallW cx 11 [.int .i64 (n : Int)] { heap := h, next := nx, low := lo } K = K (.tuple [.ptr (nx + 3) 0, .int .i64 0]) { heap := h', next := nx', low := min lo nx }) ∧ PD (nx + 3) nx (nx + 1) (nx + 2) n (DK.new n) h' nx' ∧ nx' = nx + 4 ∧ (∀ i, i < nx → Fw.look i h' = Fw.look i h) := by
  refine ⟨(nx + 3, .cells (some 71) [.mslice nx 0 n (some n), .mslice (nx + 1) 0 n (some n), .mslice (nx + 2) 0 n (some n)]) :: (nx + 2, .cells none (encB (List.replicate n false))) :: (nx + 1, .cells none (encN (List.replicate n zero32))) :: (nx, .cells none (encN (List.replicate n zero32))) :: h, nx + 4, fun K => ?_, ?_, rfl, fun i hi => by simp only [Fw.look]; rw [if_neg (by omega), if_neg (by omega), if_neg (by omega), if_neg (by omega)]⟩
  · refine CallW.eq (CallW.fn' (fn := ir11) rfl rfl (by kernel_rfl) ir11.eq_1 ?_) K
    have d1 : decide ((n : Int) < 1) = false := decide_eq_false (by omega)
    have d2 : decide ((4096 : Int) < (n : Int)) = false := decide_eq_false (by omega)
    have m1 : ∀ (st : St), mkslA st 32 (List.replicate 32 (.int .u8 0)) (.int .i64 (n : Int)) (.int .i64 (n : Int)) = some (.mslice st.next 0 n (some n), { heap := (st.next, .cells none (encN (List.replicate n zero32))) :: st.heap, next := st.next + 1, low := st.low }) := by
      intro st
      simp only [mkslA]
      rw [if_pos (by refine ⟨by omega, by omega, ?_⟩; unfold room; omega), Int.toNat_natCast, make_zero]
      rfl
    have m2 : ∀ (st : St), mkslA st 1 [.bool false] (.int .i64 (n : Int)) (.int .i64 (n : Int)) = some (.mslice st.next 0 n (some n), { heap := (st.next, .cells none (encB (List.replicate n false))) :: st.heap, next := st.next + 1, low := st.low }) := by
      intro st
      simp only [mkslA]
      rw [if_pos (by refine ⟨by omega, by omega, ?_⟩; unfold room; omega), Int.toNat_natCast, flat_false]
      rfl
    have e32 : ∀ x : AV, List.replicate 32 x = [x, x, x, x, x, x, x, x, x, x, x, x, x, x, x, x, x, x, x, x, x, x, x, x, x, x, x, x, x, x, x, x] := fun x => rfl
    rw [e32] at m1
    simp (config := {contextual := true, implicitDefEqProofs := false, maxSteps := 4000000}) only [go_sem, ↓reduceIte, Bool.false_eq_true, Nat.reduceEqDiff, Nat.reduceAdd, Int.reduceLE, Int.reduceLT, Int.reduceEq, Int.reduceToNat, Int.toNat_natCast, Int.cast_ofNat_Int, Int.natCast_one, Nat.reduceMod, Nat.reduceDiv, UInt8.reduceToNat, Nat.reduceLT, d1, d2, m1, m2]
    rw [LeaveW_new rfl (by simp [AV.al, alAll, below])]
    exact ⟨rfl, rfl⟩
  · exact ⟨by simp [Fw.look], by simp only [Fw.look]; rw [if_neg (by omega), if_neg (by omega), if_neg (by omega)]; simp only [if_true]; rfl, by simp only [Fw.look]; rw [if_neg (by omega), if_neg (by omega)]; simp only [if_true]; rfl, by simp only [Fw.look]; rw [if_neg (by omega)]; simp only [if_true]; rfl, by omega, by omega, DKok.new n, h2⟩
end
end T43


/- The program's disk: which sectors are dirty. -/
namespace T43
open Go Fw Go.Proofs
set_option maxRecDepth 100000
set_option maxHeartbeats 8000000
set_option linter.unusedSimpArgs false
set_option linter.unusedVariables false
def encI (l : List Nat) : List AV := l.map fun (i : Nat) => AV.int .i64 (i : Int)
theorem encI_al (l : List Nat) : alAll (fun _ => false) (encI l) = true := (alAll_iff _).2 fun a ha => by
  obtain ⟨x, _, rfl⟩ := List.mem_map.1 ha; rfl
/-- Where a growing list of numbers stands, beside objects that stay. -/
structure DY (st0 : St) (L : Nat) (st : St) (v : AV) (acc : List Nat) : Prop where
  gr : Gr 3 1 st v (encI acc) acc.length
  tk : ∀ x, tokOf v = some x → L ≤ x
  old : ∀ i, i < L → Fw.look i st.heap = Fw.look i st0.heap
  low : L ≤ st.low
  next : L ≤ st.next
  nf : v = .nilslice ∨ v ≠ .nilslice
theorem DY.app {st0 st : St} {L : Nat} {v : AV} {acc : List Nat} (h : DY st0 L st v acc) (n : Nat) (hlen : acc.length ≤ 1000000) :
    ∃ v' h' nx' lo', appendA st 3 1 8 v (.slice [.int .i64 (n : Int)] 1 .full) = some (v', { heap := h', next := nx', low := lo' }) ∧ DY st0 L { heap := h', next := nx', low := lo' } v' (acc ++ [n]) := by
  obtain ⟨v', st', h1, h2, h3, h4, h5, h6, h7⟩ := h.gr.app (bytes := 8) (y := .slice [.int .i64 (n : Int)] 1 .full) (new := [.int .i64 (n : Int)]) (m := 1) rfl rfl rfl rfl (by unfold room; omega)
  obtain ⟨h', nx', lo'⟩ := st'
  refine ⟨v', h', nx', lo', h1, ?_, ?_, ?_, h5 L h.low fun x hx => h.tk x hx, Nat.le_trans h.next h3.1, ?_⟩
  · have e : encI acc ++ ([AV.int .i64 (n : Int)].map AV.strip) = encI (acc ++ [n]) := by simp [encI, AV.strip]
    rw [e] at h2
    rw [List.length_append]; exact h2
  · intro x hx
    rcases h4 x hx with h8 | h8
    · exact h.tk x h8
    · exact Nat.le_trans h.next h8
  · intro i hi
    rw [← h.old i hi]
    exact h3.2 i (Nat.lt_of_lt_of_le hi h.next) (fun hc => absurd (h.tk i hc) (by omega))
  · by_cases hv : v' = .nilslice
    · exact .inl hv
    · exact .inr hv
/-- A list of numbers handed back. -/
def RowI (v : AV) (l : List Nat) : Prop := (v = .nilslice ∧ l = []) ∨ ∃ o : Own, (o = .no ∨ o = .full) ∧ v = .slice (encI l) l.length o
theorem DY.back {st0 st : St} {v : AV} {acc : List Nat} (h : DY st0 st0.next st v acc) : ∃ w, RowI w acc ∧ ∀ K, LeaveW st0 st v K = K w st0 := by
  obtain ⟨o, ho, hdr⟩ := h.gr.dr_slice
  have hfree := h.gr.free (L := st0.next) (fun x hx => h.tk x hx) (encI_al _)
  have hnt : ∀ vs, v ≠ .tuple vs := by
    intro vs hv
    rcases h.gr with ⟨h, _⟩ | ⟨h, _⟩ | ⟨_, h, _⟩ <;> rw [hv] at h <;> cases h
  refine ⟨v.dr, ?_, fun K => LeaveW_free hfree h.low hnt K⟩
  rcases hdr with h9 | ⟨h9, _, h10⟩
  · exact .inr ⟨o, ho, h9⟩
  · refine .inl ⟨h9, ?_⟩
    cases acc with
    | nil => rfl
    | cons a l => simp [encI] at h10
theorem posL_drop {l : List Bool} {i : Nat} (h : i < l.length) : posL i (l.drop i) = (if l.getD i false then [i] else []) ++ posL (i + 1) (l.drop (i + 1)) := by
  rw [List.drop_eq_getElem_cons h]
  simp only [posL, List.getD_eq_getElem?_getD, List.getElem?_eq_getElem h, Option.getD_some]
  split <;> simp
theorem l20 (C n : Nat) (cc : Option Nat) (drt : List Bool) (hl : drt.length = n) (hn : n ≤ 4096) (st0 : St) (hC : C < st0.next) (hc : Fw.look C st0.heap = some (.cells none (encB drt))) (Q : Sig → FE → St → Prop) : ∀ (m i : Nat) (acc : List Nat) (v : AV) (e : FE) (h : List (Nat × AObj)) (nx lo : Nat), i + m = n → acc.length ≤ i → DY st0 st0.next { heap := h, next := nx, low := lo } v acc → e 3 = v → e 9 = .mslice C 0 n cc → e 10 = .int .i64 (n : Int) → e 11 = .int .i64 (i : Int) →
    (∀ e' h' nx' lo' v', DY st0 st0.next { heap := h', next := nx', low := lo' } v' (acc ++ posL i (drt.drop i)) → e' 3 = v' → Q (.exit 0) e' { heap := h', next := nx', low := lo' }) → WLoop cx ir20L0 e { heap := h, next := nx, low := lo } Q
  | 0, i, acc, v, e, h, nx, lo, hi, ha, hD, h3, h9, h10, h11, hQ => by
    refine WLoop.rnd (c := _) ir20L0.eq_1 ?_
    have d1 : decide ((i : Int) < (n : Int)) = false := decide_eq_false (by omega)
    simp (config := {contextual := true, implicitDefEqProofs := false, maxSteps := 4000000}) only [go_sem, ↓reduceIte, Bool.false_eq_true, Nat.reduceEqDiff, Nat.reduceAdd, Int.reduceLE, Int.reduceLT, Int.reduceEq, Int.reduceToNat, Int.toNat_natCast, Int.cast_ofNat_Int, Int.natCast_one, Nat.reduceMod, Nat.reduceDiv, UInt8.reduceToNat, Nat.reduceLT, h3, h9, h10, h11, d1]
    refine hQ _ _ _ _ v ?_ h3
    rw [List.drop_eq_nil_of_le (by omega), show posL i [] = [] from rfl, List.append_nil]; exact hD
  | m + 1, i, acc, v, e, h, nx, lo, hi, ha, hD, h3, h9, h10, h11, hQ => by
    refine WLoop.rnd (c := _) ir20L0.eq_1 ?_
    have d1 : decide ((i : Int) < (n : Int)) = true := decide_eq_true (by omega)
    have w := wrap_one (i := i) (by omega)
    have b1 : (0 : Int) ≤ (i : Int) ∧ (i : Int) < (n : Int) := by omega
    have b2 : (i : Int) < (n : Int) := by omega
    have hlc : Fw.look C h = some (.cells none (encB drt)) := by rw [← hc]; exact hD.old C hC
    have hs := encB_sub (l := drt) (i := i) (by omega)
    rw [posL_drop (by omega)] at hQ
    cases hb : drt.getD i false
    · rw [hb] at hs hQ
      simp only [Bool.false_eq_true, if_false, List.nil_append] at hQ
      simp (config := {contextual := true, implicitDefEqProofs := false, maxSteps := 4000000}) only [go_sem, ↓reduceIte, Bool.false_eq_true, Nat.reduceEqDiff, Nat.reduceAdd, Int.reduceLE, Int.reduceLT, Int.reduceEq, Int.reduceToNat, Int.toNat_natCast, Int.cast_ofNat_Int, Int.natCast_one, Nat.reduceMod, Nat.reduceDiv, UInt8.reduceToNat, Nat.reduceLT, h3, h9, h10, h11, d1, iaddrA, b1, b2, Nat_mul_one, hlc, hs, w]
      exact l20 C n cc drt hl hn st0 hC hc Q m (i + 1) acc v _ h nx lo (by omega) (by omega) hD h3 h9 h10 rfl hQ
    · rw [hb] at hs hQ
      simp only [if_true] at hQ
      obtain ⟨v', h', nx', lo', a1, hD'⟩ := hD.app i (by omega)
      simp (config := {contextual := true, implicitDefEqProofs := false, maxSteps := 4000000}) only [go_sem, ↓reduceIte, Bool.false_eq_true, Nat.reduceEqDiff, Nat.reduceAdd, Int.reduceLE, Int.reduceLT, Int.reduceEq, Int.reduceToNat, Int.toNat_natCast, Int.cast_ofNat_Int, Int.natCast_one, Nat.reduceMod, Nat.reduceDiv, UInt8.reduceToNat, Nat.reduceLT, h3, h9, h10, h11, d1, iaddrA, b1, b2, Nat_mul_one, hlc, hs, a1, w]
      refine l20 C n cc drt hl hn st0 hC hc Q m (i + 1) (acc ++ [i]) v' _ h' nx' lo' (by omega) (by rw [List.length_append, List.length_singleton]; omega) hD' rfl h9 h10 rfl ?_
      rw [List.append_assoc]; exact hQ
theorem dirty_ok {D A B C n : Nat} {d : DK} {h : List (Nat × AObj)} {nx lo : Nat} (p : PD D A B C n d h nx) : ∃ w, RowI w d.dirty ∧ ∀ K, CallW cx 20 [.ptr D 0] { heap := h, next := nx, low := lo } K = K w { heap := h, next := nx, low := lo } := by
  have main : CallW cx 20 [.ptr D 0] { heap := h, next := nx, low := lo } (fun v s' => RowI v d.dirty ∧ s' = { heap := h, next := nx, low := lo }) := by
    refine CallW.fn' (fn := ir20) rfl rfl (by kernel_rfl) ir20.eq_1 ?_
    have hd := p.hd
    simp (config := {contextual := true, implicitDefEqProofs := false, maxSteps := 4000000}) only [go_sem, ↓reduceIte, Bool.false_eq_true, Nat.reduceEqDiff, Nat.reduceAdd, Int.reduceLE, Int.reduceLT, Int.reduceEq, Int.reduceToNat, Int.toNat_natCast, Int.cast_ofNat_Int, Int.natCast_one, Nat.reduceMod, Nat.reduceDiv, UInt8.reduceToNat, Nat.reduceLT, hd]
    refine l20 C n (some n) d.drt p.ok.l3 p.hn { heap := h, next := nx, low := lo } p.lt.2.2.2 p.hc _ n 0 [] .nilslice _ h nx nx (by omega) (Nat.le_refl _) ⟨Gr.nil, (fun x hx => by cases hx), (fun _ _ => rfl), Nat.le_refl _, Nat.le_refl _, .inl rfl⟩ rfl rfl rfl rfl ?_
    intro e' h' nx' lo' v' hD h3
    rw [List.drop_zero, List.nil_append] at hD
    obtain ⟨w, hw, hl⟩ := DY.back hD
    simp (config := {contextual := true, implicitDefEqProofs := false, maxSteps := 4000000}) only [go_sem, ↓reduceIte, Bool.false_eq_true, Nat.reduceEqDiff, Nat.reduceAdd, Int.reduceLE, Int.reduceLT, Int.reduceEq, Int.reduceToNat, Int.toNat_natCast, Int.cast_ofNat_Int, Int.natCast_one, Nat.reduceMod, Nat.reduceDiv, UInt8.reduceToNat, Nat.reduceLT, h3]
    rw [hl]
    exact ⟨hw, rfl⟩
  obtain ⟨k, v, s', h1, h2, rfl⟩ := main
  exact ⟨v, h2, fun K => CallW.eq ⟨k, _, _, h1, rfl, rfl⟩ K⟩
end T43


/- The program's disk: a crash. -/
namespace T43
open Go Fw Go.Proofs
set_option maxRecDepth 100000
set_option maxHeartbeats 8000000
set_option linter.unusedSimpArgs false
set_option linter.unusedVariables false
def encZ (l : List Int) : List AV := l.map (AV.int .i64)
/-- A list of numbers that is given. -/
def RowZ (v : AV) (l : List Int) : Prop := (v = .nilslice ∧ l = []) ∨ ∃ o : Own, v = .slice (encZ l) l.length o
theorem RowZ.lenv {v : AV} {l : List Int} (h : RowZ v l) : lenvA v = some (.int .i64 (l.length : Int)) := by
  rcases h with ⟨rfl, rfl⟩ | ⟨o, rfl⟩ <;> rfl
theorem RowZ.at {v : AV} {l : List Int} (h : RowZ v l) {i : Nat} (hi : i < l.length) : ∃ p, iaddrA 1 none v (i : Int) = some p ∧ (∀ st, loadA st false 1 p = some (.int .i64 (l.getD i 0))) ∧ deedOf p = none := by
  rcases h with ⟨rfl, rfl⟩ | ⟨o, rfl⟩
  · simp at hi
  · refine ⟨.vptr (encZ l) i, ?_, fun st => ?_, rfl⟩
    · simp only [iaddrA]; rw [if_pos (by omega)]; simp
    · have : sub (encZ l) i 1 = some [.int .i64 (l.getD i 0)] := by
        rw [sub_one (by simp [encZ]; exact hi)]
        simp [encZ, List.getD, hi]
      simp only [loadA, this, Option.bind_some, ofCells, Bool.false_eq_true, if_false]
theorem RowI.z {v : AV} {l : List Nat} (h : RowI v l) : RowZ v (l.map fun (i : Nat) => (i : Int)) := by
  rcases h with ⟨rfl, rfl⟩ | ⟨o, _, rfl⟩
  · exact .inl ⟨rfl, rfl⟩
  · refine .inr ⟨o, ?_⟩
    simp [encI, encZ]
def clrL (n : Nat) : List Int → List Bool → List Bool
  | [], l => l
  | k :: ks, l => clrL n ks (if 0 ≤ k ∧ k < (n : Int) then l.set k.toNat false else l)
theorem clrL_get (n : Nat) : ∀ (ks : List Int) (l : List Bool) (i : Nat), i < n → l.length = n → (clrL n ks l).getD i false = lostB ks i (l.getD i false)
  | [], l, i, h1, h2 => by simp [clrL, lostB]
  | k :: ks, l, i, h1, h2 => by
    simp only [clrL]
    rw [clrL_get n ks _ i h1 (by split <;> simp [h2])]
    unfold lostB
    by_cases hk : 0 ≤ k ∧ k < (n : Int)
    · rw [if_pos hk]
      by_cases hi : k.toNat = i
      · subst hi
        have : ((k.toNat : Nat) : Int) = k := by omega
        have e1 : (l.set k.toNat false).getD k.toNat false = false := by
          rw [List.getD_eq_getElem?_getD, List.getElem?_set_self (by omega)]; rfl
        rw [e1, this]
        simp
      · have e1 : (l.set k.toNat false).getD i false = l.getD i false := by
          rw [List.getD_eq_getElem?_getD, List.getD_eq_getElem?_getD, List.getElem?_set_ne hi]
        rw [e1]
        have e2 : ((i : Int) == k) = false := by simp; omega
        simp only [List.contains_cons, e2, Bool.false_or]
    · rw [if_neg hk]
      have e2 : ((i : Int) == k) = false := by simp; omega
      simp only [List.contains_cons, e2, Bool.false_or]
section
variable {D A B C n : Nat}
def crS (A B C : Nat) (i : Nat) : Prop := i = A ∨ i = B ∨ i = C
theorem l017 (v : AV) (ks : List Int) (hv : RowZ v ks) (hks : ks.length ≤ 9223372036854775806) (hn1 : 1 ≤ n) (Q : Sig → FE → St → Prop) : ∀ (m i : Nat) (d : DK) (e : FE) (h : List (Nat × AObj)) (nx lo : Nat), i + m = ks.length → PD D A B C n d h nx → e 0 = .ptr D 0 → e 8 = v → e 9 = .int .i64 (ks.length : Int) → e 10 = .int .i64 (i : Int) →
    (∀ e' h' lo', PD D A B C n ⟨d.now, d.dur, clrL n (ks.drop i) d.drt⟩ h' nx → Upd (crS A B C) h nx lo h' nx lo' → e' 0 = .ptr D 0 → Q (.exit 0) e' { heap := h', next := nx, low := lo' }) → WLoop cx ir17L0 e { heap := h, next := nx, low := lo } Q
  | 0, i, d, e, h, nx, lo, hi, p, h0, h8, h9, h10, hQ => by
    refine WLoop.rnd (c := _) ir17L0.eq_1 ?_
    have d1 : decide ((i : Int) < (ks.length : Int)) = false := decide_eq_false (by omega)
    simp (config := {contextual := true, implicitDefEqProofs := false, maxSteps := 4000000}) only [go_sem, ↓reduceIte, Bool.false_eq_true, Nat.reduceEqDiff, Nat.reduceAdd, Int.reduceLE, Int.reduceLT, Int.reduceEq, Int.reduceToNat, Int.toNat_natCast, Int.cast_ofNat_Int, Int.natCast_one, Nat.reduceMod, Nat.reduceDiv, UInt8.reduceToNat, Nat.reduceLT, h0, h8, h9, h10, d1]
    refine hQ _ _ _ ?_ (Upd.refl _ _ _ _) h0
    rw [List.drop_eq_nil_of_le (by omega)]; exact p
  | m + 1, i, d, e, h, nx, lo, hi, p, h0, h8, h9, h10, hQ => by
    refine WLoop.rnd (c := _) ir17L0.eq_1 ?_
    have d1 : decide ((i : Int) < (ks.length : Int)) = true := decide_eq_true (by omega)
    have w := wrap_one (i := i) (by omega)
    obtain ⟨q, q1, q2, _⟩ := hv.at (i := i) (by omega)
    have hdr : ks.drop i = ks.getD i 0 :: ks.drop (i + 1) := by
      rw [List.drop_eq_getElem_cons (by omega)]; simp [List.getD, show i < ks.length by omega]
    rw [hdr] at hQ
    obtain ⟨k, hk⟩ : ∃ k, ks.getD i 0 = k := ⟨_, rfl⟩
    rw [hk] at hQ q2
    simp only [clrL] at hQ
    have kh := fun lo K => c41 (lo := lo) p k K
    have hd := p.hd
    have hc := p.hc
    have ok := p.ok
    by_cases hb : 0 ≤ k ∧ k < (n : Int)
    · have d2 : (decide (0 ≤ k) && decide (k < (n : Int))) = true := by simp [hb]
      rw [if_pos hb] at hQ
      obtain ⟨j, rfl⟩ : ∃ j : Nat, k = (j : Int) := ⟨k.toNat, by omega⟩
      rw [Int.toNat_natCast] at hQ
      have b1 : (0 : Int) ≤ (j : Int) ∧ (j : Int) < (n : Int) := by omega
      have b2 : (j : Int) < (n : Int) := by omega
      have pc := encB_patch (l := d.drt) (i := j) (by rw [ok.l3]; omega) false
      simp (config := {contextual := true, implicitDefEqProofs := false, maxSteps := 4000000}) only [go_sem, ↓reduceIte, Bool.false_eq_true, Nat.reduceEqDiff, Nat.reduceAdd, Int.reduceLE, Int.reduceLT, Int.reduceEq, Int.reduceToNat, Int.toNat_natCast, Int.cast_ofNat_Int, Int.natCast_one, Nat.reduceMod, Nat.reduceDiv, UInt8.reduceToNat, Nat.reduceLT, h0, h8, h9, h10, d1, q1, q2, kh, d2, hd, oget_iaddr_mslice, b1, b2, Nat_mul_one, hc, pc, w]
      refine l017 v ks hv hks hn1 Q m (i + 1) ⟨d.now, d.dur, d.drt.set j false⟩ _ _ _ _ (by omega) (p.setC _ ⟨ok.l1, ok.l2, by simp [ok.l3], ok.b1, ok.b2⟩) h0 h8 h9 rfl ?_
      intro e' h' lo' g1 g2 g3
      exact hQ e' h' lo' g1 ((Upd.put (.inr (.inr rfl))).trans g2) g3
    · have d2 : (decide (0 ≤ k) && decide (k < (n : Int))) = false := by simp; omega
      rw [if_neg hb] at hQ
      simp (config := {contextual := true, implicitDefEqProofs := false, maxSteps := 4000000}) only [go_sem, ↓reduceIte, Bool.false_eq_true, Nat.reduceEqDiff, Nat.reduceAdd, Int.reduceLE, Int.reduceLT, Int.reduceEq, Int.reduceToNat, Int.toNat_natCast, Int.cast_ofNat_Int, Int.natCast_one, Nat.reduceMod, Nat.reduceDiv, UInt8.reduceToNat, Nat.reduceLT, h0, h8, h9, h10, d1, q1, q2, kh, d2, w]
      exact l017 v ks hv hks hn1 Q m (i + 1) d _ h nx lo (by omega) p h0 h8 h9 rfl hQ
end
/-- The contents while the lost sectors are laid back. -/
def backL (R now : List Bs8) (i : Nat) : List Bs8 := R.take i ++ now.drop i
theorem backL_len {R now : List Bs8} {i : Nat} (h : R.length = now.length) (hi : i ≤ now.length) : (backL R now i).length = now.length := by
  unfold backL; rw [List.length_append, List.length_take, List.length_drop]; omega
theorem backL_32 {R now : List Bs8} {i : Nat} (h1 : ∀ x ∈ R, x.length = 32) (h2 : ∀ x ∈ now, x.length = 32) : ∀ x ∈ backL R now i, x.length = 32 := by
  intro x hx
  rcases List.mem_append.1 hx with hx | hx
  · exact h1 x (List.mem_of_mem_take hx)
  · exact h2 x (List.mem_of_mem_drop hx)
theorem backL_step {R now : List Bs8} {i : Nat} (h : R.length = now.length) (hi : i < now.length) : backL R now (i + 1) = (backL R now i).set i (R.getD i []) ∧ (R.getD i [] = now.getD i [] → backL R now (i + 1) = backL R now i) := by
  have e : backL R now (i + 1) = R.take i ++ (R.getD i [] :: now.drop (i + 1)) := by
    unfold backL
    rw [List.take_add_one, List.getElem?_eq_getElem (by omega), List.append_assoc]
    simp [List.getD, show i < R.length by omega]
  have l : (R.take i).length = i := by rw [List.length_take]; omega
  refine ⟨?_, fun hr => ?_⟩
  · rw [e]
    unfold backL
    rw [drop_cons hi, List.set_append, if_neg (by omega), l, Nat.sub_self, List.set_cons_zero]
  · rw [e, hr]
    unfold backL
    rw [drop_cons hi]
section
variable {D A B C n : Nat}
theorem l117 (R now : List Bs8) (dur : List Bs8) (drt : List Bool) (hR : R.length = n) (hnow : now.length = n) (hR2 : ∀ x ∈ R, x.length = 32) (hn2 : ∀ x ∈ now, x.length = 32) (hRi : ∀ i, i < n → R.getD i [] = if drt.getD i false then dur.getD i [] else now.getD i []) (Q : Sig → FE → St → Prop) : ∀ (m i : Nat) (e : FE) (h : List (Nat × AObj)) (nx lo : Nat), i + m = n → PD D A B C n ⟨backL R now i, dur, drt⟩ h nx → e 0 = .ptr D 0 → e 27 = .mslice C 0 n (some n) → e 28 = .int .i64 (n : Int) → e 29 = .int .i64 (i : Int) →
    (∀ e' h' lo', PD D A B C n ⟨R, dur, drt⟩ h' nx → Upd (crS A B C) h nx lo h' nx lo' → e' 0 = .ptr D 0 → Q (.exit 2) e' { heap := h', next := nx, low := lo' }) → WLoop cx ir17L1 e { heap := h, next := nx, low := lo } Q
  | 0, i, e, h, nx, lo, hi, p, h0, h27, h28, h29, hQ => by
    refine WLoop.rnd (c := _) ir17L1.eq_1 ?_
    have d1 : decide ((i : Int) < (n : Int)) = false := decide_eq_false (by omega)
    simp (config := {contextual := true, implicitDefEqProofs := false, maxSteps := 4000000}) only [go_sem, ↓reduceIte, Bool.false_eq_true, Nat.reduceEqDiff, Nat.reduceAdd, Int.reduceLE, Int.reduceLT, Int.reduceEq, Int.reduceToNat, Int.toNat_natCast, Int.cast_ofNat_Int, Int.natCast_one, Nat.reduceMod, Nat.reduceDiv, UInt8.reduceToNat, Nat.reduceLT, h0, h27, h28, h29, d1]
    refine hQ _ _ _ ?_ (Upd.refl _ _ _ _) h0
    have : backL R now i = R := by
      unfold backL; rw [List.take_of_length_le (by omega), List.drop_eq_nil_of_le (by omega), List.append_nil]
    rw [this] at p; exact p
  | m + 1, i, e, h, nx, lo, hi, p, h0, h27, h28, h29, hQ => by
    refine WLoop.rnd (c := _) ir17L1.eq_1 ?_
    have d1 : decide ((i : Int) < (n : Int)) = true := decide_eq_true (by omega)
    have hn4 := p.hn
    have w := wrap_one (i := i) (by omega)
    have hd := p.hd
    have ha := p.ha
    have hb := p.hb
    have hc := p.hc
    have ok := p.ok
    have b1 : (0 : Int) ≤ (i : Int) ∧ (i : Int) < (n : Int) := by omega
    have b2 : (i : Int) < (n : Int) := by omega
    have hs := encB_sub (l := drt) (i := i) (by rw [show drt.length = n from ok.l3]; omega)
    obtain ⟨st1, st2⟩ := backL_step (R := R) (now := now) (i := i) (by omega) (by omega)
    have hRi' := hRi i (by omega)
    cases hbit : drt.getD i false
    · rw [hbit] at hs hRi'
      simp only [Bool.false_eq_true, if_false] at hRi'
      simp (config := {contextual := true, implicitDefEqProofs := false, maxSteps := 4000000}) only [go_sem, ↓reduceIte, Bool.false_eq_true, Nat.reduceEqDiff, Nat.reduceAdd, Int.reduceLE, Int.reduceLT, Int.reduceEq, Int.reduceToNat, Int.toNat_natCast, Int.cast_ofNat_Int, Int.natCast_one, Nat.reduceMod, Nat.reduceDiv, UInt8.reduceToNat, Nat.reduceLT, h0, h27, h28, h29, d1, oget_iaddr_mslice, b1, b2, Nat_mul_one, hc, hs, w]
      exact l117 R now dur drt hR hnow hR2 hn2 hRi Q m (i + 1) _ h nx lo (by omega) (by rw [st2 hRi']; exact p) h0 h27 h28 rfl hQ
    · rw [hbit] at hs hRi'
      simp only [if_true] at hRi'
      have okb : ∀ x ∈ backL R now i, x.length = 32 := backL_32 hR2 hn2
      have lb : (backL R now i).length = n := by rw [backL_len (by omega) (by omega), hnow]
      have hdl : dur.length = n := ok.l2
      have hsb := encN_sub (l := dur) (i := i) ok.b2 (show i < dur.length by omega)
      have h32 : (dur.getD i []).length = 32 := ok.b2 _ (getD_mem (show i < dur.length by omega))
      have pa := encN_patch (l := backL R now i) (i := i) (x := dur.getD i []) okb (by omega) h32
      have hlen : (byteCells (dur.getD i [])).length = 32 := by rw [bc_len]; exact h32
      have hone := bc_one (dur.getD i [])
      rw [← hRi', ← st1] at pa
      rw [hRi'] at pa
      obtain ⟨Y, hY⟩ : ∃ Y, byteCells (dur.getD i []) = Y := ⟨_, rfl⟩
      rw [hY] at hsb pa hlen hone
      simp (config := {contextual := true, implicitDefEqProofs := false, maxSteps := 4000000}) only [go_sem, ↓reduceIte, Bool.false_eq_true, Nat.reduceEqDiff, Nat.reduceAdd, Int.reduceLE, Int.reduceLT, Int.reduceEq, Int.reduceToNat, Int.toNat_natCast, Int.cast_ofNat_Int, Int.natCast_one, Nat.reduceMod, Nat.reduceDiv, UInt8.reduceToNat, Nat.reduceLT, h0, h27, h28, h29, d1, oget_iaddr_mslice, b1, b2, Nat_mul_one, hc, hs, hd, hb, ha, hsb, pa, hlen, hone, w]
      have okN : DKok ⟨backL R now (i + 1), dur, drt⟩ n := ⟨by show (backL R now (i + 1)).length = n; rw [backL_len (by omega) (by omega), hnow], ok.l2, ok.l3, backL_32 hR2 hn2, ok.b2⟩
      refine l117 R now dur drt hR hnow hR2 hn2 hRi Q m (i + 1) _ _ nx _ (by omega) (p.setA _ okN) h0 h27 h28 rfl ?_
      intro e' h' lo' g1 g2 g3
      exact hQ e' h' lo' g1 ((Upd.put (.inl rfl)).trans g2) g3
theorem crash_ok {d : DK} {h : List (Nat × AObj)} {nx lo : Nat} (p : PD D A B C n d h nx) (hn1 : 1 ≤ n) (v : AV) (ks : List Int) (hv : RowZ v ks) (hks : ks.length ≤ 9223372036854775806) : ∃ h' nx' lo', (∀ K, CallW cx 17 [.ptr D 0, v] { heap := h, next := nx, low := lo } K = K (.tuple []) { heap := h', next := nx', low := lo' }) ∧ PD D A B C n (d.crash ks) h' nx' ∧ Upd (crS A B C) h nx lo h' nx' lo' := by
  have main : CallW cx 17 [.ptr D 0, v] { heap := h, next := nx, low := lo } (fun v s' => v = .tuple [] ∧ PD D A B C n (d.crash ks) s'.heap s'.next ∧ Upd (crS A B C) h nx lo s'.heap s'.next s'.low) := by
    refine CallW.fn' (fn := ir17) rfl rfl (by kernel_rfl) ir17.eq_1 ?_
    have hlv := hv.lenv
    simp (config := {contextual := true, implicitDefEqProofs := false, maxSteps := 4000000}) only [go_sem, ↓reduceIte, Bool.false_eq_true, Nat.reduceEqDiff, Nat.reduceAdd, Int.reduceLE, Int.reduceLT, Int.reduceEq, Int.reduceToNat, Int.toNat_natCast, Int.cast_ofNat_Int, Int.natCast_one, Nat.reduceMod, Nat.reduceDiv, UInt8.reduceToNat, Nat.reduceLT, hlv]
    refine l017 v ks hv hks hn1 _ ks.length 0 d _ h nx nx (by omega) p rfl rfl rfl rfl ?_
    intro e' h1 lo1 p1 u1 g0
    rw [List.drop_zero] at p1
    have hd := p1.hd
    have ok := p.ok
    simp (config := {contextual := true, implicitDefEqProofs := false, maxSteps := 4000000}) only [go_sem, ↓reduceIte, Bool.false_eq_true, Nat.reduceEqDiff, Nat.reduceAdd, Int.reduceLE, Int.reduceLT, Int.reduceEq, Int.reduceToNat, Int.toNat_natCast, Int.cast_ofNat_Int, Int.natCast_one, Nat.reduceMod, Nat.reduceDiv, UInt8.reduceToNat, Nat.reduceLT, g0, hd]
    have hl := crashL_len ks d.drt d.now d.dur 0 (by rw [ok.l1, ok.l3]) (by rw [ok.l2, ok.l3])
    refine l117 (A := A) (B := B) (crashL ks 0 d.drt d.now d.dur) d.now d.dur (clrL n ks d.drt) (by rw [hl, ok.l3]) ok.l1 (crashL_32 ks d.drt d.now d.dur 0 ok.b1 ok.b2) ok.b1 ?_ _ n 0 _ h1 nx lo1 (by omega) ?_ g0 rfl rfl rfl ?_
    · intro i hi
      rw [crashL_get ks d.drt d.now d.dur 0 i (by rw [ok.l1, ok.l3]) (by rw [ok.l2, ok.l3]) (by rw [ok.l3]; exact hi), clrL_get n ks d.drt i hi ok.l3, Nat.zero_add]
    · have : backL (crashL ks 0 d.drt d.now d.dur) d.now 0 = d.now := by simp [backL]
      rw [this]; exact p1
    · intro e2 h2 lo2 p2 u2 g0'
      obtain ⟨h3, nx3, lo3, k1, k2, k3, k4⟩ := settle_ok (lo := lo2) p2 hn1
      simp (config := {contextual := true, implicitDefEqProofs := false, maxSteps := 4000000}) only [go_sem, ↓reduceIte, Bool.false_eq_true, Nat.reduceEqDiff, Nat.reduceAdd, Int.reduceLE, Int.reduceLT, Int.reduceEq, Int.reduceToNat, Int.toNat_natCast, Int.cast_ofNat_Int, Int.natCast_one, Nat.reduceMod, Nat.reduceDiv, UInt8.reduceToNat, Nat.reduceLT, g0', k1]
      have hlow : lo3 < nx := k4
      rw [LeaveW_wr rfl hlow]
      refine ⟨rfl, ?_, ?_⟩
      · have e1 : DK.sync ⟨crashL ks 0 d.drt d.now d.dur, d.dur, clrL n ks d.drt⟩ = d.crash ks := by
          unfold DK.sync DK.crash
          simp only [hl, ok.l1, ok.l3]
        rw [← e1]; exact k2
      · exact Upd.leave ((u1.trans u2).trans (k3.mono fun i hi => hi.elim (fun h => .inr (.inl h)) (fun h => .inr (.inr h))))
  obtain ⟨k, v, ⟨h', nx', lo'⟩, h1, rfl, h2, h3⟩ := main
  exact ⟨h', nx', lo', fun K => CallW.eq ⟨k, _, _, h1, rfl, rfl⟩ K, h2, h3⟩
end
end T43


/- The program's journal: staging. -/
namespace T43
open Go Fw Go.Proofs
set_option maxRecDepth 100000
set_option maxHeartbeats 8000000
set_option linter.unusedSimpArgs false
set_option linter.unusedVariables false
/-- The disk while a frame is written. -/
def stP (d : DK) (f : Nat) (fs : List Bs8) (i : Nat) : DK := ⟨d.now.take f ++ fs.take i ++ d.now.drop (f + i), d.dur, d.drt.take f ++ List.replicate i true ++ d.drt.drop (f + i)⟩
theorem stP_0 (d : DK) (f : Nat) (fs : List Bs8) : stP d f fs 0 = d := by
  unfold stP
  simp
theorem stP_all (j : JN) (d : DK) (r : Bs8) : stP d j.fin (frameB j.recs.length r) (szB r.length) = stageD j d r := by
  unfold stP stageD
  have h : (frameB j.recs.length r).take (szB r.length) = frameB j.recs.length r := List.take_of_length_le (by rw [frameB_len]; exact Nat.le_refl _)
  rw [h]
theorem drop_consB {l : List Bool} {i : Nat} (h : i < l.length) : l.drop i = l.getD i false :: l.drop (i + 1) := by
  rw [List.drop_eq_getElem_cons h]; simp [List.getD, h]
theorem stP_step {d : DK} {f n i : Nat} {fs : List Bs8} (ok : DKok d n) (hf : f + fs.length ≤ n) (hi : i < fs.length) : (stP d f fs i).put (f + i) (fs.getD i []) = stP d f fs (i + 1) := by
  have l1 := ok.l1
  have l3 := ok.l3
  unfold stP DK.put
  have a1 : (d.now.take f ++ fs.take i).length = f + i := by rw [List.length_append, List.length_take, List.length_take]; omega
  have a2 : (d.drt.take f ++ List.replicate i true).length = f + i := by rw [List.length_append, List.length_take, List.length_replicate]; omega
  congr 1
  · rw [List.set_append, if_neg (by omega), a1, Nat.sub_self, drop_cons (l := d.now) (i := f + i) (by omega), List.set_cons_zero]
    have e : fs.take (i + 1) = fs.take i ++ [fs.getD i []] := by rw [List.take_add_one, List.getElem?_eq_getElem hi]; simp [List.getD, hi]
    rw [e]; simp [Nat.add_assoc]
  · rw [List.set_append, if_neg (by omega), a2, Nat.sub_self, drop_consB (l := d.drt) (i := f + i) (by omega), List.set_cons_zero, List.replicate_succ']
    simp [Nat.add_assoc]
/-- The program's journal. -/
structure PJ (J D A B C : Nat) (j : JN) (v : AV) (h : List (Nat × AObj)) (nx : Nat) : Prop where
  hj : Fw.look J h = some (.cells (some 89) [.ptr D 0, v, .int .i64 (j.dur : Int), .int .i64 (j.fin : Int)])
  gr : ∀ lo, Gr 9 1 { heap := h, next := nx, low := lo } v (encS j.recs) j.recs.length
  tk : ∀ t, tokOf v = some t → t ≠ J ∧ t ≠ D ∧ t ≠ A ∧ t ≠ B ∧ t ≠ C
  ne : J ≠ D ∧ J ≠ A ∧ J ≠ B ∧ J ≠ C
  lt : J < nx
theorem PJ.keep {J D A B C : Nat} {j : JN} {v : AV} {h h' : List (Nat × AObj)} {nx nx' lo lo' : Nat} (q : PJ J D A B C j v h nx) (u : Upd (crS A B C) h nx lo h' nx' lo') : PJ J D A B C j v h' nx' := by
  refine ⟨?_, fun l => ?_, q.tk, q.ne, Nat.lt_of_lt_of_le q.lt u.next⟩
  · rw [u.keep J (fun hc => by have := q.ne; rcases hc with hc | hc | hc <;> omega) q.lt]; exact q.hj
  · refine (q.gr lo).keep ⟨u.next, fun i hi ht => ?_⟩
    have := q.tk i ht
    exact u.keep i (fun hc => by rcases hc with hc | hc | hc <;> omega) hi
theorem PJ.setJ {J D A B C : Nat} {j : JN} {v : AV} {h : List (Nat × AObj)} {nx : Nat} (q : PJ J D A B C j v h nx) (dur fin : Nat) : PJ J D A B C ⟨j.recs, dur, fin⟩ v (Fw.put J (.cells (some 89) [.ptr D 0, v, .int .i64 (dur : Int), .int .i64 (fin : Int)]) h) nx :=
  ⟨look_put_self q.hj, fun l => (q.gr l).keep ⟨Nat.le_refl _, fun i _ ht => look_put_ne (q.tk i ht).1⟩, q.tk, q.ne, q.lt⟩
theorem PD.setJ {J D A B C n : Nat} {d : DK} {h : List (Nat × AObj)} {nx : Nat} (p : PD D A B C n d h nx) (hne : J ≠ D ∧ J ≠ A ∧ J ≠ B ∧ J ≠ C) (o : AObj) : PD D A B C n d (Fw.put J o h) nx :=
  ⟨by rw [look_put_ne hne.1.symm]; exact p.hd, by rw [look_put_ne hne.2.1.symm]; exact p.ha, by rw [look_put_ne hne.2.2.1.symm]; exact p.hb, by rw [look_put_ne hne.2.2.2.symm]; exact p.hc, p.ne, p.lt, p.ok, p.hn⟩
theorem PD.keep2 {D A B C n : Nat} {d : DK} {h h' : List (Nat × AObj)} {nx nx' : Nat} (p : PD D A B C n d h nx) (hn : nx ≤ nx') (hk : ∀ i, i = D ∨ i = A ∨ i = B ∨ i = C → Fw.look i h' = Fw.look i h) : PD D A B C n d h' nx' :=
  ⟨by rw [hk D (.inl rfl)]; exact p.hd, by rw [hk A (.inr (.inl rfl))]; exact p.ha, by rw [hk B (.inr (.inr (.inl rfl)))]; exact p.hb, by rw [hk C (.inr (.inr (.inr rfl)))]; exact p.hc, p.ne, ⟨by have := p.lt.1; omega, by have := p.lt.2.1; omega, by have := p.lt.2.2.1; omega, by have := p.lt.2.2.2; omega⟩, p.ok, p.hn⟩
theorem Gr.cell {ty esz : Nat} {st : St} {v : AV} {cs : List AV} {n : Nat} (h : Gr ty esz st v cs n) : v.cells = [v] ∧ v.one = true := by
  rcases h with ⟨rfl, _, _⟩ | ⟨rfl, _⟩ | ⟨t, rfl, _⟩ <;> exact ⟨rfl, rfl⟩
theorem room_ok {n m : Nat} (h : n + m ≤ 1000000) : (n + m) * 16 ≤ room := by unfold room; omega
theorem app_full1 (ty : Nat) (st : St) (cs : List AV) (x : Bs8) {i : Nat} (hl : cs.length = i) (hi : i ≤ 1000000) : appendA st ty 1 16 (.slice cs i .full) (.slice [.str x] 1 .full) = some (.slice (cs ++ [.str x]) (i + 1) (.tok st.next (i + 1)), { heap := (st.next, .tok ty (i + 1) 1) :: st.heap, next := st.next + 1, low := st.low }) := by
  simp only [appendA, cellsOf, AV.count, List.length_singleton, Nat.mul_one, Nat.reduceMul, if_true, List.all_cons, AV.one, List.all_nil, Bool.and_self, Bool.true_eq_false, if_false, hl, Nat.one_ne_zero, List.map_cons, List.map_nil, AV.strip, St.new]
  rw [if_pos (by unfold room; omega)]
/-- A record is put to the journal's list. -/
theorem PJ.app {J D A B C n : Nat} {d : DK} {j : JN} {v : AV} {h : List (Nat × AObj)} {nx : Nat} (p : PD D A B C n d h nx) (q : PJ J D A B C j v h nx) (hl : j.recs.length ≤ 100000) (r : Bs8) (dur fin lo : Nat) :
    ∃ v' h' nx' lo', appendA { heap := h, next := nx, low := lo } 9 1 16 v (.slice [.str r] 1 .full) = some (v', { heap := h', next := nx', low := lo' }) ∧ Fw.look J h' = some (.cells (some 89) [.ptr D 0, v, .int .i64 (j.dur : Int), .int .i64 (j.fin : Int)]) ∧
      PD D A B C n d (Fw.put J (.cells (some 89) [.ptr D 0, v', .int .i64 (dur : Int), .int .i64 (fin : Int)]) h') nx' ∧ PJ J D A B C ⟨j.recs ++ [r], dur, fin⟩ v' (Fw.put J (.cells (some 89) [.ptr D 0, v', .int .i64 (dur : Int), .int .i64 (fin : Int)]) h') nx' ∧
      Upd (fun i => tokOf v = some i) h nx lo h' nx' lo' ∧ (∀ t, tokOf v' = some t → tokOf v = some t ∨ nx ≤ t) ∧ (nx' ≠ nx ∨ lo' < nx) ∧ (∀ i, i < nx → tokOf v ≠ some i → Fw.look i h' = Fw.look i h) := by
  obtain ⟨v', ⟨h', nx', lo'⟩, h1, h2, h3, h4, h5, _, h8⟩ := (q.gr lo).app (bytes := 16) (y := .slice [.str r] 1 .full) (new := [.str r]) (m := 1) rfl rfl rfl rfl (room_ok (by omega))
  have hs : ∀ i, i < nx → tokOf v ≠ some i → Fw.look i h' = Fw.look i h := fun i hi ht => h3.2 i hi ht
  have hj' : Fw.look J h' = some (.cells (some 89) [.ptr D 0, v, .int .i64 (j.dur : Int), .int .i64 (j.fin : Int)]) := by
    rw [hs J q.lt (fun hc => (q.tk J hc).1 rfl)]; exact q.hj
  have hnx : nx ≤ nx' := h3.1
  have e : encS j.recs ++ ([AV.str r].map AV.strip) = encS (j.recs ++ [r]) := by simp [encS, AV.strip]
  rw [e] at h2
  have htk : ∀ t, tokOf v' = some t → t ≠ J ∧ t ≠ D ∧ t ≠ A ∧ t ≠ B ∧ t ≠ C := by
    intro t ht
    rcases h4 t ht with h6 | h6
    · exact q.tk t h6
    · have := q.lt; have := p.lt
      have h6 : nx ≤ t := h6
      omega
  refine ⟨v', h', nx', lo', h1, hj', ?_, ⟨look_put_self hj', fun l => ?_, htk, q.ne, Nat.lt_of_lt_of_le q.lt hnx⟩, ⟨hnx, fun i hi hn => hs i hn hi, fun L g1 g2 g3 => h5 L g1 g3⟩, h4, ?_, hs⟩
  · refine PD.setJ (p.keep2 hnx fun i hi => ?_) q.ne _
    refine hs i (by have := p.lt; rcases hi with hi | hi | hi | hi <;> omega) (fun hc => ?_)
    have := q.tk i hc
    rcases hi with hi | hi | hi | hi <;> omega
  · have h2' : Gr 9 1 { heap := h', next := nx', low := l } v' (encS (j.recs ++ [r])) (j.recs ++ [r]).length := by
      rw [List.length_append, List.length_singleton]; exact h2
    exact h2'.keep ⟨Nat.le_refl _, fun i _ ht => look_put_ne (htk i ht).1⟩
  · rcases q.gr lo with ⟨rfl, _, _⟩ | ⟨rfl, g2⟩ | ⟨t, rfl, _, g3, _⟩
    · rw [app_nil] at h1
      cases h1
      exact .inl (Nat.succ_ne_self nx)
    · rw [app_full1 9 _ _ _ (by rw [encS_len]) (by omega)] at h1
      cases h1
      exact .inl (Nat.succ_ne_self nx)
    · exact .inr (Nat.lt_of_le_of_lt (h8 (by decide) t rfl) g3)
def jnS (J A B C : Nat) (v : AV) (i : Nat) : Prop := i = J ∨ crS A B C i ∨ tokOf v = some i
section
variable {J D A B C n : Nat}
theorem l38 (fs : List Bs8) (h32 : ∀ x ∈ fs, x.length = 32) (hfl : fs.length ≤ 4096) (W : Nat) (hW : W ≠ J ∧ W ≠ D ∧ W ≠ A ∧ W ≠ B ∧ W ≠ C) (d0 : DK) (ok0 : DKok d0 n) (f0 : Nat) (hf : f0 + fs.length ≤ n) (recs : List Bs8) (dur : Nat) (v r : AV) (Q : Sig → FE → St → Prop) : ∀ (m i : Nat) (e : FE) (h : List (Nat × AObj)) (nx lo : Nat), i + m = fs.length → PD D A B C n (stP d0 f0 fs i) h nx → PJ J D A B C ⟨recs, dur, f0 + i⟩ v h nx → Fw.look W h = some (.cells none (encS fs)) → W < nx → e 0 = .ptr J 0 → e 1 = r → e 39 = .mslice W 0 fs.length none → e 40 = .int .i64 (fs.length : Int) → e 41 = .int .i64 (i : Int) →
    (∀ e' h' nx' lo', PD D A B C n (stP d0 f0 fs fs.length) h' nx' → PJ J D A B C ⟨recs, dur, f0 + fs.length⟩ v h' nx' → Upd (jnS J A B C v) h nx lo h' nx' lo' → e' 0 = .ptr J 0 → e' 1 = r → Q (.exit 0) e' { heap := h', next := nx', low := lo' }) → WLoop cx ir38L0 e { heap := h, next := nx, low := lo } Q
  | 0, i, e, h, nx, lo, hi, p, q, hw, hwn, h0, h1, h39, h40, h41, hQ => by
    refine WLoop.rnd (c := _) ir38L0.eq_1 ?_
    have d1 : decide ((i : Int) < (fs.length : Int)) = false := decide_eq_false (by omega)
    simp (config := {contextual := true, implicitDefEqProofs := false, maxSteps := 4000000}) only [go_sem, ↓reduceIte, Bool.false_eq_true, Nat.reduceEqDiff, Nat.reduceAdd, Int.reduceLE, Int.reduceLT, Int.reduceEq, Int.reduceToNat, Int.toNat_natCast, Int.cast_ofNat_Int, Int.natCast_one, Nat.reduceMod, Nat.reduceDiv, UInt8.reduceToNat, Nat.reduceLT, h0, h39, h40, h41, d1]
    obtain rfl : i = fs.length := by omega
    exact hQ _ _ _ _ p q (Upd.refl _ _ _ _) h0 h1
  | m + 1, i, e, h, nx, lo, hi, p, q, hw, hwn, h0, h1, h39, h40, h41, hQ => by
    refine WLoop.rnd (c := _) ir38L0.eq_1 ?_
    have hn4 := p.hn
    have d1 : decide ((i : Int) < (fs.length : Int)) = true := decide_eq_true (by omega)
    have w := wrap_one (i := i) (by omega)
    have hs := encS_sub (l := fs) (i := i) (by omega)
    have hj := q.hj
    have h32i : (fs.getD i []).length = 32 := h32 _ (getD_mem (by omega))
    have b1 : (0 : Int) ≤ (i : Int) ∧ (i : Int) < (fs.length : Int) := by omega
    have b2 : (i : Int) < (fs.length : Int) := by omega
    have okp := p.ok
    have e1 : (stP d0 f0 fs i).writeE ((f0 + i : Nat) : Int) (fs.getD i []) = 0 := by
      unfold DK.writeE
      rw [okp.l1, if_neg (by omega), if_neg (by omega)]
    have e2 : (stP d0 f0 fs i).write ((f0 + i : Nat) : Int) (fs.getD i []) = stP d0 f0 fs (i + 1) := by
      unfold DK.write; rw [e1, if_pos rfl, Int.toNat_natCast]; exact stP_step ok0 hf (by omega)
    obtain ⟨h', nx', lo', k1, k2, k3, k4⟩ := write_ok (lo := nx) p ((f0 + i : Nat) : Int) (fs.getD i []) (by omega)
    rw [e1] at k1 k4
    rw [e2] at k2
    have k4 := k4 rfl
    have q' := q.keep (k3.mono (T := crS A B C) fun i hi => hi.elim (fun h => .inl h) (fun h => .inr (.inr h)))
    have hj' := q'.hj
    have w2 : IntKind.i64.wrap (((f0 + i : Nat) : Int) + 1) = ((f0 + (i + 1) : Nat) : Int) := by rw [wrap_i64 (by omega) (by omega)]; omega
    have dn : decide (nx' = nx ∧ lo' = nx) = false := decide_eq_false (by omega)
    simp (config := {contextual := true, implicitDefEqProofs := false, maxSteps := 4000000}) only [go_sem, ↓reduceIte, Bool.false_eq_true, Nat.reduceEqDiff, Nat.reduceAdd, Int.reduceLE, Int.reduceLT, Int.reduceEq, Int.reduceToNat, Int.toNat_natCast, Int.cast_ofNat_Int, Int.natCast_one, Nat.reduceMod, Nat.reduceDiv, UInt8.reduceToNat, Nat.reduceLT, h0, h39, h40, h41, d1, oget_iaddr_mslice, b1, b2, Nat_mul_one, hw, hs, hj, k1, dn, hj', w2, w]
    have hcr : ∀ i, wrS A C i → crS A B C i := fun i hi => hi.elim (fun h => .inl h) (fun h => .inr (.inr h))
    have hw' : Fw.look W h' = some (.cells none (encS fs)) := by
      rw [k3.keep W (fun hc => by rcases hc with hc | hc <;> omega) hwn]; exact hw
    refine l38 fs h32 hfl W hW d0 ok0 f0 hf recs dur v r Q m (i + 1) _ _ nx' _ (by omega) (k2.setJ q.ne _) (q'.setJ dur (f0 + (i + 1))) (by rw [look_put_ne hW.1]; exact hw') (Nat.lt_of_lt_of_le hwn k3.next) h0 h1 h39 h40 rfl ?_
    intro e' h2 nx2 lo2 g1 g2 g3 g4 g5
    refine hQ e' h2 nx2 lo2 g1 g2 ?_ g4 g5
    refine Upd.trans ?_ g3
    refine Upd.trans (Upd.leave (k3.mono fun i hi => .inr (.inl (hcr i hi)))) (Upd.put (.inl rfl))
theorem stage_ok {d : DK} {j : JN} {v : AV} {h : List (Nat × AObj)} {nx lo : Nat} (p : PD D A B C n d h nx) (q : PJ J D A B C j v h nx) (hjn : JNok j d) (hn1 : 1 ≤ n) (r : Bs8) (hr : r.length < 9223372036854775807) :
    (stageE j d r ≠ 0 → ∀ K, CallW cx 38 [.ptr J 0, .str r] { heap := h, next := nx, low := lo } K = K (.int .i64 (stageE j d r)) { heap := h, next := nx, low := lo }) ∧
    (stageE j d r = 0 → ∃ h' nx' lo' v', (∀ K, CallW cx 38 [.ptr J 0, .str r] { heap := h, next := nx, low := lo } K = K (.int .i64 0) { heap := h', next := nx', low := lo' }) ∧ PD D A B C n (stageD j d r) h' nx' ∧ PJ J D A B C (stageJ j r) v' h' nx' ∧ Upd (jnS J A B C v) h nx lo h' nx' lo' ∧ lo' ≤ J ∧ (∀ t, tokOf v' = some t → tokOf v = some t ∨ nx ≤ t)) := by
  have hj := q.hj
  have ok := p.ok
  have hn4 := p.hn
  have hb := hjn.b
  have ha := hjn.a
  have l1 := ok.l1
  refine ⟨fun hne K => ?_, fun he => ?_⟩
  · refine CallW.eq (CallW.fn' (fn := ir38) rfl rfl (by kernel_rfl) ir38.eq_1 ?_) K
    unfold stageE at hne ⊢
    by_cases h1 : 1024 < r.length
    · have d1 : decide ((1024 : Int) < (r.length : Int)) = true := decide_eq_true (by omega)
      rw [if_pos h1]
      simp (config := {contextual := true, implicitDefEqProofs := false, maxSteps := 4000000}) only [go_sem, ↓reduceIte, Bool.false_eq_true, Nat.reduceEqDiff, Nat.reduceAdd, Int.reduceLE, Int.reduceLT, Int.reduceEq, Int.reduceToNat, Int.toNat_natCast, Int.cast_ofNat_Int, Int.natCast_one, Nat.reduceMod, Nat.reduceDiv, UInt8.reduceToNat, Nat.reduceLT, d1]
    have d1 : decide ((1024 : Int) < (r.length : Int)) = false := decide_eq_false (by omega)
    rw [if_neg h1] at hne ⊢
    by_cases h2 : d.now.length - j.fin < szB r.length
    · rw [if_pos h2]
      have k1 := fun st K => c45 r.length (by omega) st K
      have k2 := fun lo K => c23 (lo := lo) p K
      have w1 : IntKind.i64.wrap ((n : Int) - (j.fin : Int)) = ((n - j.fin : Nat) : Int) := by rw [wrap_i64 (by omega) (by omega)]; omega
      have d2 : decide (((n - j.fin : Nat) : Int) < (szB r.length : Int)) = true := decide_eq_true (by omega)
      simp (config := {contextual := true, implicitDefEqProofs := false, maxSteps := 4000000}) only [go_sem, ↓reduceIte, Bool.false_eq_true, Nat.reduceEqDiff, Nat.reduceAdd, Int.reduceLE, Int.reduceLT, Int.reduceEq, Int.reduceToNat, Int.toNat_natCast, Int.cast_ofNat_Int, Int.natCast_one, Nat.reduceMod, Nat.reduceDiv, UInt8.reduceToNat, Nat.reduceLT, d1, k1, hj, k2, w1, d2]
    · rw [if_neg h2] at hne; exact absurd rfl hne
  · obtain ⟨e1, e2⟩ := stageE_0 he
    have main : CallW cx 38 [.ptr J 0, .str r] { heap := h, next := nx, low := lo } (fun u s' => u = .int .i64 0 ∧ ∃ v', PD D A B C n (stageD j d r) s'.heap s'.next ∧ PJ J D A B C (stageJ j r) v' s'.heap s'.next ∧ Upd (jnS J A B C v) h nx lo s'.heap s'.next s'.low ∧ s'.low ≤ J ∧ (∀ t, tokOf v' = some t → tokOf v = some t ∨ nx ≤ t)) := by
      refine CallW.fn' (fn := ir38) rfl rfl (by kernel_rfl) ir38.eq_1 ?_
      have d1 : decide ((1024 : Int) < (r.length : Int)) = false := decide_eq_false (by omega)
      have k1 := fun st K => c45 r.length (by omega) st K
      have k2 := fun lo K => c23 (lo := lo) p K
      have w1 : IntKind.i64.wrap ((n : Int) - (j.fin : Int)) = ((n - j.fin : Nat) : Int) := by rw [wrap_i64 (by omega) (by omega)]; omega
      have d2 : decide (((n - j.fin : Nat) : Int) < (szB r.length : Int)) = false := decide_eq_false (by omega)
      have hlv := (q.gr lo).lenv
      have hp := szB_pos r.length
      have k3 := fun st K => c24 j.recs.length r (by omega) e1 st K
      have z2 : decide ((0 : Int) ≠ 0) = false := rfl
      have hfl := frameB_len j.recs.length r
      simp (config := {contextual := true, implicitDefEqProofs := false, maxSteps := 4000000}) only [go_sem, ↓reduceIte, Bool.false_eq_true, Nat.reduceEqDiff, Nat.reduceAdd, Int.reduceLE, Int.reduceLT, Int.reduceEq, Int.reduceToNat, Int.toNat_natCast, Int.cast_ofNat_Int, Int.natCast_one, Nat.reduceMod, Nat.reduceDiv, UInt8.reduceToNat, Nat.reduceLT, d1, k1, hj, k2, w1, d2, hlv, k3, z2]
      have u0 : Upd (jnS J A B C v) h nx nx ((nx, .cells none (encS (frameB j.recs.length r))) :: h) (nx + 1) nx := ⟨by omega, fun i _ hi => by simp only [Fw.look]; rw [if_neg (by omega)], fun L h1 _ _ => h1⟩
      have hkeep : ∀ i, i < nx → Fw.look i ((nx, AObj.cells none (encS (frameB j.recs.length r))) :: h) = Fw.look i h := fun i hi => by simp only [Fw.look]; rw [if_neg (by omega)]
      have p1 : PD D A B C n d ((nx, .cells none (encS (frameB j.recs.length r))) :: h) (nx + 1) := p.keep (by omega) hkeep
      have q1 : PJ J D A B C j v ((nx, .cells none (encS (frameB j.recs.length r))) :: h) (nx + 1) := q.keep (lo := nx) (lo' := nx) ⟨by omega, fun i _ hi => hkeep i hi, fun L h1 _ _ => h1⟩
      have hpl := p.lt
      have hql := q.lt
      refine l38 (frameB j.recs.length r) (frameB_32 _ _) (by omega) nx (by omega) d ok j.fin (by omega) j.recs j.dur v (.str r) _ (szB r.length) 0 _ _ (nx + 1) nx (by omega) (by rw [stP_0]; exact p1) q1 (by simp only [Fw.look, if_true]) (by omega) rfl rfl (by rw [hfl]; rfl) (by rw [hfl]; rfl) rfl ?_
      intro e' h' nx' lo' g1 g2 g3 g4 g5
      rw [hfl] at g1 g2
      rw [stP_all] at g1
      obtain ⟨v', h2, nx2, lo2, a1, a2, a3, a4, a5, a6, _, _⟩ := PJ.app g1 g2 (by simp only; omega) r j.dur (j.fin + szB r.length) lo'
      have hj2 := g2.hj
      obtain ⟨c1, c2⟩ := Gr.cell (a4.gr 0)
      simp (config := {contextual := true, implicitDefEqProofs := false, maxSteps := 4000000}) only [go_sem, ↓reduceIte, Bool.false_eq_true, Nat.reduceEqDiff, Nat.reduceAdd, Int.reduceLE, Int.reduceLT, Int.reduceEq, Int.reduceToNat, Int.toNat_natCast, Int.cast_ofNat_Int, Int.natCast_one, Nat.reduceMod, Nat.reduceDiv, UInt8.reduceToNat, Nat.reduceLT, g4, g5, hj2, a1, a2, c1, c2]
      rw [LeaveW_wr rfl (by show min lo2 J < nx; omega)]
      have hnx' : nx + 1 ≤ nx' := g3.next
      refine ⟨rfl, v', a3, a4, ?_, ?_, fun t ht => ?_⟩
      · refine Upd.leave (Upd.trans (u0.trans g3) (Upd.trans (a5.mono fun i hi => .inr (.inr hi)) (Upd.put (.inl rfl))))
      · show min lo (min lo2 J) ≤ J
        omega
      · rcases a6 t ht with h7 | h7
        · exact .inl h7
        · exact .inr (by omega)
    obtain ⟨k, u, ⟨h', nx', lo'⟩, h1, rfl, v', h2, h3, h4, h5, h6⟩ := main
    exact ⟨h', nx', lo', v', fun K => CallW.eq ⟨k, _, _, h1, rfl, rfl⟩ K, h2, h3, h4, h5, h6⟩
end
end T43


/- The program's journal: the rest but opening. -/
namespace T43
open Go Fw Go.Proofs
set_option maxRecDepth 100000
set_option maxHeartbeats 8000000
set_option linter.unusedSimpArgs false
set_option linter.unusedVariables false
section
variable {J D A B C n : Nat} {d : DK} {j : JN} {v : AV} {h : List (Nat × AObj)} {nx lo : Nat}
def syncJ (j : JN) : JN := ⟨j.recs, j.recs.length, j.fin⟩
theorem commit_ok (p : PD D A B C n d h nx) (q : PJ J D A B C j v h nx) (hn1 : 1 ≤ n) : ∃ h' nx' lo', (∀ K, CallW cx 32 [.ptr J 0] { heap := h, next := nx, low := lo } K = K (.int .i64 0) { heap := h', next := nx', low := lo' }) ∧ PD D A B C n d.sync h' nx' ∧ PJ J D A B C (syncJ j) v h' nx' ∧ Upd (jnS J A B C v) h nx lo h' nx' lo' ∧ lo' ≤ J := by
  have main : CallW cx 32 [.ptr J 0] { heap := h, next := nx, low := lo } (fun u s' => u = .int .i64 0 ∧ PD D A B C n d.sync s'.heap s'.next ∧ PJ J D A B C (syncJ j) v s'.heap s'.next ∧ Upd (jnS J A B C v) h nx lo s'.heap s'.next s'.low ∧ s'.low ≤ J) := by
    refine CallW.fn' (fn := ir32) rfl rfl (by kernel_rfl) ir32.eq_1 ?_
    have hj := q.hj
    obtain ⟨h', nx', lo', k1, k2, k3, k4⟩ := sync_ok (lo := nx) p hn1
    have q' := q.keep (k3.mono (T := crS A B C) fun i hi => hi.elim (fun h => .inr (.inl h)) (fun h => .inr (.inr h)))
    have hj' := q'.hj
    have hlv := (q'.gr 0).lenv
    simp (config := {contextual := true, implicitDefEqProofs := false, maxSteps := 4000000}) only [go_sem, ↓reduceIte, Bool.false_eq_true, Nat.reduceEqDiff, Nat.reduceAdd, Int.reduceLE, Int.reduceLT, Int.reduceEq, Int.reduceToNat, Int.toNat_natCast, Int.cast_ofNat_Int, Int.natCast_one, Nat.reduceMod, Nat.reduceDiv, UInt8.reduceToNat, Nat.reduceLT, hj, k1, hj', hlv]
    have hql := q.lt
    rw [LeaveW_wr rfl (by show min lo' J < nx; omega)]
    refine ⟨rfl, k2.setJ q.ne _, q'.setJ j.recs.length j.fin, ?_, by show min lo (min lo' J) ≤ J; omega⟩
    exact Upd.leave ((k3.mono fun i hi => .inr (.inl (hi.elim (fun h => .inr (.inl h)) (fun h => .inr (.inr h))))).trans (Upd.put (.inl rfl)))
  obtain ⟨k, u, ⟨h', nx', lo'⟩, h1, rfl, h2, h3, h4, h5⟩ := main
  exact ⟨h', nx', lo', fun K => CallW.eq ⟨k, _, _, h1, rfl, rfl⟩ K, h2, h3, h4, h5⟩
theorem c34 (q : PJ J D A B C j v h nx) (K : AV → St → Prop) : CallW cx 34 [.ptr J 0] { heap := h, next := nx, low := lo } K = K (.int .i64 (j.dur : Int)) { heap := h, next := nx, low := lo } := by
  refine CallW.eq (CallW.fn' (fn := ir34) rfl rfl (by kernel_rfl) ir34.eq_1 ?_) K
  have hj := q.hj
  simp (config := {contextual := true, implicitDefEqProofs := false, maxSteps := 4000000}) only [go_sem, ↓reduceIte, Bool.false_eq_true, Nat.reduceEqDiff, Nat.reduceAdd, Int.reduceLE, Int.reduceLT, Int.reduceEq, Int.reduceToNat, Int.toNat_natCast, Int.cast_ofNat_Int, Int.natCast_one, Nat.reduceMod, Nat.reduceDiv, UInt8.reduceToNat, Nat.reduceLT, hj]
def freeV (n fin : Nat) : Int := if n - fin = 0 then -1 else min 1024 (32 * ((n - fin : Nat) : Int) - 28)
theorem c36 (p : PD D A B C n d h nx) (q : PJ J D A B C j v h nx) (hf : j.fin ≤ n) (K : AV → St → Prop) : CallW cx 36 [.ptr J 0] { heap := h, next := nx, low := lo } K = K (.int .i64 (freeV n j.fin)) { heap := h, next := nx, low := lo } := by
  refine CallW.eq (CallW.fn' (fn := ir36) rfl rfl (by kernel_rfl) ir36.eq_1 ?_) K
  have hj := q.hj
  have hn4 := p.hn
  have k2 := fun lo K => c23 (lo := lo) p K
  have w1 : IntKind.i64.wrap ((n : Int) - (j.fin : Int)) = ((n - j.fin : Nat) : Int) := by rw [wrap_i64 (by omega) (by omega)]; omega
  obtain ⟨m, hm⟩ : ∃ m, n - j.fin = m := ⟨_, rfl⟩
  rw [hm] at w1
  unfold freeV
  rw [hm]
  by_cases h0 : m = 0
  · have d1 : decide ((m : Int) = 0) = true := decide_eq_true (by omega)
    rw [if_pos h0]
    simp (config := {contextual := true, implicitDefEqProofs := false, maxSteps := 4000000}) only [go_sem, ↓reduceIte, Bool.false_eq_true, Nat.reduceEqDiff, Nat.reduceAdd, Int.reduceLE, Int.reduceLT, Int.reduceEq, Int.reduceToNat, Int.toNat_natCast, Int.cast_ofNat_Int, Int.natCast_one, Nat.reduceMod, Nat.reduceDiv, UInt8.reduceToNat, Nat.reduceLT, hj, k2, w1, d1]
  · have d1 : decide ((m : Int) = 0) = false := decide_eq_false (by omega)
    have w2 : IntKind.i64.wrap (32 * (m : Int)) = 32 * (m : Int) := wrap_i64 (by omega) (by omega)
    have w3 : IntKind.i64.wrap (32 * (m : Int) - 28) = 32 * (m : Int) - 28 := wrap_i64 (by omega) (by omega)
    rw [if_neg h0]
    simp (config := {contextual := true, implicitDefEqProofs := false, maxSteps := 4000000}) only [go_sem, ↓reduceIte, Bool.false_eq_true, Nat.reduceEqDiff, Nat.reduceAdd, Int.reduceLE, Int.reduceLT, Int.reduceEq, Int.reduceToNat, Int.toNat_natCast, Int.cast_ofNat_Int, Int.natCast_one, Nat.reduceMod, Nat.reduceDiv, UInt8.reduceToNat, Nat.reduceLT, hj, k2, w1, d1, w2, w3]
theorem records_ok (q : PJ J D A B C j v h nx) (hl : j.recs.length ≤ 100000) : ∃ w, (w = .nilslice ∧ j.recs = [] ∨ w = .slice (encS j.recs) j.recs.length .no) ∧ ∀ K, CallW cx 33 [.ptr J 0] { heap := h, next := nx, low := lo } K = K w { heap := h, next := nx, low := lo } := by
  have hj := q.hj
  have g := q.gr nx
  have hc : cellsOf { heap := h, next := nx, low := nx } 1 v = some (encS j.recs) ∧ v.count = some j.recs.length := by
    rcases g with ⟨rfl, h1, h2⟩ | ⟨rfl, h1⟩ | ⟨t, rfl, h1, _⟩
    · rw [h1, h2]; exact ⟨rfl, rfl⟩
    · simp only [cellsOf, h1, if_true, AV.count, and_self]
    · simp only [cellsOf, h1, if_true, AV.count, and_self]
  have hst : (encS j.recs).map AV.strip = encS j.recs := by simp [encS, AV.strip]
  cases hr : j.recs with
  | nil =>
    rw [hr] at hc
    have a1 : appendA { heap := h, next := nx, low := nx } 9 1 16 .nilslice v = some (.nilslice, { heap := h, next := nx, low := nx }) := by
      unfold appendA
      rw [hc.1, hc.2]
      simp [encS]
    refine ⟨.nilslice, .inl ⟨rfl, rfl⟩, fun K => CallW.eq (CallW.fn' (fn := ir33) rfl rfl (by kernel_rfl) ir33.eq_1 ?_) K⟩
    simp (config := {contextual := true, implicitDefEqProofs := false, maxSteps := 4000000}) only [go_sem, ↓reduceIte, Bool.false_eq_true, Nat.reduceEqDiff, Nat.reduceAdd, Int.reduceLE, Int.reduceLT, Int.reduceEq, Int.reduceToNat, Int.toNat_natCast, Int.cast_ofNat_Int, Int.natCast_one, Nat.reduceMod, Nat.reduceDiv, UInt8.reduceToNat, Nat.reduceLT, hj, a1]
  | cons x l =>
    have hne : j.recs.length ≠ 0 := by rw [hr]; simp
    have a1 : appendA { heap := h, next := nx, low := nx } 9 1 16 .nilslice v = some (.slice (encS j.recs) j.recs.length (.tok nx j.recs.length), { heap := (nx, .tok 9 j.recs.length 1) :: h, next := nx + 1, low := nx }) := by
      unfold appendA
      rw [hc.1, hc.2]
      simp only [encS_one, Bool.true_eq_false, if_false, hst, hne, St.new]
      rw [if_pos (by unfold room; omega)]
    rw [← hr]
    refine ⟨.slice (encS j.recs) j.recs.length .no, .inr rfl, fun K => CallW.eq (CallW.fn' (fn := ir33) rfl rfl (by kernel_rfl) ir33.eq_1 ?_) K⟩
    simp (config := {contextual := true, implicitDefEqProofs := false, maxSteps := 4000000}) only [go_sem, ↓reduceIte, Bool.false_eq_true, Nat.reduceEqDiff, Nat.reduceAdd, Int.reduceLE, Int.reduceLT, Int.reduceEq, Int.reduceToNat, Int.toNat_natCast, Int.cast_ofNat_Int, Int.natCast_one, Nat.reduceMod, Nat.reduceDiv, UInt8.reduceToNat, Nat.reduceLT, hj, a1]
    rw [LeaveW_free (by simp [AV.free, Own.free, encS_al]) (Nat.le_refl _) (fun vs hv => by cases hv)]
    exact ⟨rfl, rfl⟩
theorem append_ok (p : PD D A B C n d h nx) (q : PJ J D A B C j v h nx) (hjn : JNok j d) (hn1 : 1 ≤ n) (r : Bs8) (hr : r.length < 9223372036854775807) :
    (stageE j d r ≠ 0 → ∀ K, CallW cx 37 [.ptr J 0, .str r] { heap := h, next := nx, low := lo } K = K (.int .i64 (stageE j d r)) { heap := h, next := nx, low := lo }) ∧
    (stageE j d r = 0 → ∃ h' nx' lo' v', (∀ K, CallW cx 37 [.ptr J 0, .str r] { heap := h, next := nx, low := lo } K = K (.int .i64 0) { heap := h', next := nx', low := lo' }) ∧ PD D A B C n (stageD j d r).sync h' nx' ∧ PJ J D A B C (syncJ (stageJ j r)) v' h' nx' ∧ Upd (jnS J A B C v) h nx lo h' nx' lo' ∧ lo' ≤ J ∧ (∀ t, tokOf v' = some t → tokOf v = some t ∨ nx ≤ t)) := by
  have z2 : decide ((0 : Int) ≠ 0) = false := rfl
  obtain ⟨s1, s2⟩ := stage_ok (lo := nx) p q hjn hn1 r hr
  refine ⟨fun hne K => ?_, fun he => ?_⟩
  · refine CallW.eq (CallW.fn' (fn := ir37) rfl rfl (by kernel_rfl) ir37.eq_1 ?_) K
    have k1 := fun K => s1 hne K
    have d1 : decide (stageE j d r ≠ 0) = true := decide_eq_true hne
    simp (config := {contextual := true, implicitDefEqProofs := false, maxSteps := 4000000}) only [go_sem, ↓reduceIte, Bool.false_eq_true, Nat.reduceEqDiff, Nat.reduceAdd, Int.reduceLE, Int.reduceLT, Int.reduceEq, Int.reduceToNat, Int.toNat_natCast, Int.cast_ofNat_Int, Int.natCast_one, Nat.reduceMod, Nat.reduceDiv, UInt8.reduceToNat, Nat.reduceLT, k1, d1]
  · obtain ⟨h1, nx1, lo1, v1, k1, k2, k3, k4, k5, k6⟩ := s2 he
    obtain ⟨h2, nx2, lo2, g1, g2, g3, g4, g5⟩ := commit_ok (lo := lo1) k2 k3 hn1
    have main : CallW cx 37 [.ptr J 0, .str r] { heap := h, next := nx, low := lo } (fun u s' => u = .int .i64 0 ∧ PD D A B C n (stageD j d r).sync s'.heap s'.next ∧ PJ J D A B C (syncJ (stageJ j r)) v1 s'.heap s'.next ∧ Upd (jnS J A B C v) h nx lo s'.heap s'.next s'.low ∧ s'.low ≤ J) := by
      refine CallW.fn' (fn := ir37) rfl rfl (by kernel_rfl) ir37.eq_1 ?_
      simp (config := {contextual := true, implicitDefEqProofs := false, maxSteps := 4000000}) only [go_sem, ↓reduceIte, Bool.false_eq_true, Nat.reduceEqDiff, Nat.reduceAdd, Int.reduceLE, Int.reduceLT, Int.reduceEq, Int.reduceToNat, Int.toNat_natCast, Int.cast_ofNat_Int, Int.natCast_one, Nat.reduceMod, Nat.reduceDiv, UInt8.reduceToNat, Nat.reduceLT, k1, z2, g1]
      have hql := q.lt
      rw [LeaveW_wr rfl (by show lo2 < nx; omega)]
      refine ⟨rfl, g2, g3, Upd.leave (k4.trans2 g4 fun i hi => ?_), by show min lo lo2 ≤ J; omega⟩
      rcases hi with hi | hi | hi
      · exact .inl (.inl hi)
      · exact .inl (.inr (.inl hi))
      · exact (k6 i hi).elim (fun h => .inl (.inr (.inr h))) .inr
    obtain ⟨k, u, ⟨h', nx', lo'⟩, m1, rfl, m2, m3, m4, m5⟩ := main
    exact ⟨h', nx', lo', v1, fun K => CallW.eq ⟨k, _, _, m1, rfl, rfl⟩ K, m2, m3, m4, m5, k6⟩
end
end T43


/- Opening: the next record. -/
namespace T43
open Go Fw Go.Proofs
set_option maxRecDepth 100000
set_option maxHeartbeats 8000000
set_option linter.unusedSimpArgs false
set_option linter.unusedVariables false
theorem put_put (i : Nat) (a b : AObj) : ∀ h : List (Nat × AObj), Fw.put i a (Fw.put i b h) = Fw.put i a h
  | [] => rfl
  | (j, p) :: h => by
    by_cases hj : j = i
    · simp [Fw.put, hj]
    · simp only [Fw.put, hj, if_false, put_put i a b h]
/-- What stands in memory while a disk is opened. -/
structure OS (D A B C n X Y J : Nat) (d : DK) (j : JN) (v : AV) (secs : List Bs8) (ow : Own) (h : List (Nat × AObj)) (nx : Nat) : Prop where
  pd : PD D A B C n d h nx
  pj : PJ J D A B C j v h nx
  hx : Fw.look X h = some (.cells (some 58) [.ptr J 0])
  hy : Fw.look Y h = some (.cells (some 42) [.slice (encS secs) secs.length ow])
  ne : X ≠ J ∧ Y ≠ J ∧ X ≠ Y ∧ X ≠ D ∧ X ≠ A ∧ X ≠ B ∧ X ≠ C ∧ Y ≠ D ∧ Y ≠ A ∧ Y ≠ B ∧ Y ≠ C
  tk : ∀ t, tokOf v = some t → t ≠ X ∧ t ≠ Y
  lt : X < nx ∧ Y < nx
section
variable {D A B C n X Y J : Nat} {d : DK} {j : JN} {v : AV} {secs : List Bs8} {ow : Own} {h : List (Nat × AObj)} {nx lo : Nat}
theorem slice_lo (hf : j.fin ≤ secs.length) : sliceA 1 (.slice (encS secs) secs.length ow) (some (.int .i64 (j.fin : Int))) none none = some (.slice (encS (secs.drop j.fin)) (secs.drop j.fin).length (if secs.length = secs.length ∧ j.fin < secs.length then ow else .no)) := by
  have hb : bounds secs.length (some (.int .i64 (j.fin : Int))) none = some (j.fin, secs.length) := by
    simp only [bounds]; rw [if_pos (by omega)]; simp
  simp only [sliceA, encS_len, Nat.mul_one, if_true, hb, Option.bind_some, List.length_drop]
  congr 2
  rw [List.take_of_length_le (by rw [List.length_drop, encS_len]; exact Nat.le_refl _)]
  simp [encS, List.map_drop]
theorem next_ok (o : OS D A B C n X Y J d j v secs ow h nx) (hf : j.fin ≤ secs.length) (hl : secs.length ≤ 4096) (h32 : ∀ x ∈ secs, x.length = 32) (hrl : j.recs.length ≤ j.fin) :
    (¬ ((parseB (secs.drop j.fin)).2.2.2 = 0 ∧ (parseB (secs.drop j.fin)).1 = j.recs.length) → ∀ K, CallW cx 53 [.ptr Y 0, .ptr X 0] { heap := h, next := nx, low := lo } K = K (.bool false) { heap := h, next := nx, low := lo }) ∧
    ((parseB (secs.drop j.fin)).2.2.2 = 0 ∧ (parseB (secs.drop j.fin)).1 = j.recs.length → ∃ h' nx' lo' v', (∀ K, CallW cx 53 [.ptr Y 0, .ptr X 0] { heap := h, next := nx, low := lo } K = K (.bool true) { heap := h', next := nx', low := lo' }) ∧
      OS D A B C n X Y J d ⟨j.recs ++ [(parseB (secs.drop j.fin)).2.1], j.dur, j.fin + (parseB (secs.drop j.fin)).2.2.1⟩ v' secs ow h' nx' ∧ Upd (jnS J A B C v) h nx lo h' nx' lo' ∧ lo' ≤ J ∧ (∀ t, tokOf v' = some t → tokOf v = some t ∨ nx ≤ t)) := by
  have hj := o.pj.hj
  have hx := o.hx
  have hy := o.hy
  have sl := slice_lo (j := j) (secs := secs) (ow := ow) hf
  have kp := fun st K => c26 (secs.drop j.fin) (.slice (encS (secs.drop j.fin)) (secs.drop j.fin).length (if secs.length = secs.length ∧ j.fin < secs.length then ow else .no)) st (.inl ⟨_, rfl⟩) (by rw [List.length_drop]; omega) (fun x hx => by rw [h32 x (List.mem_of_mem_drop hx)]; omega) K
  generalize (if secs.length = secs.length ∧ j.fin < secs.length then ow else Own.no) = ow2 at sl kp
  have hlv := (o.pj.gr 0).lenv
  obtain ⟨⟨pn, pr, pk, pe⟩, hp⟩ : ∃ p, parseB (secs.drop j.fin) = p := ⟨_, rfl⟩
  rw [hp] at kp ⊢
  simp only [parT] at kp
  dsimp only
  refine ⟨fun hno K => ?_, fun hyes => ?_⟩
  · refine CallW.eq (CallW.fn' (fn := ir53) rfl rfl (by kernel_rfl) ir53.eq_1 ?_) K
    by_cases he : pe = 0
    · have d1 : decide (pe ≠ 0) = false := decide_eq_false (by omega)
      have d2 : decide ((pn : Int) ≠ (j.recs.length : Int)) = true := decide_eq_true (fun hc => hno ⟨he, by omega⟩)
      simp (config := {contextual := true, implicitDefEqProofs := false, maxSteps := 4000000}) only [go_sem, ↓reduceIte, Bool.false_eq_true, Nat.reduceEqDiff, Nat.reduceAdd, Int.reduceLE, Int.reduceLT, Int.reduceEq, Int.reduceToNat, Int.toNat_natCast, Int.cast_ofNat_Int, Int.natCast_one, Nat.reduceMod, Nat.reduceDiv, UInt8.reduceToNat, Nat.reduceLT, hj, hx, hy, sl, kp, d1, hlv, d2]
    · have d1 : decide (pe ≠ 0) = true := decide_eq_true he
      simp (config := {contextual := true, implicitDefEqProofs := false, maxSteps := 4000000}) only [go_sem, ↓reduceIte, Bool.false_eq_true, Nat.reduceEqDiff, Nat.reduceAdd, Int.reduceLE, Int.reduceLT, Int.reduceEq, Int.reduceToNat, Int.toNat_natCast, Int.cast_ofNat_Int, Int.natCast_one, Nat.reduceMod, Nat.reduceDiv, UInt8.reduceToNat, Nat.reduceLT, hj, hx, hy, sl, kp, d1]
  · obtain ⟨rfl, rfl⟩ := hyes
    have d1 : decide ((0 : Int) ≠ 0) = false := rfl
    have d2 : decide ((j.recs.length : Int) ≠ (j.recs.length : Int)) = false := by simp
    obtain ⟨q1, q2, q3, q4, q5⟩ := parse_ok hp
    rw [List.length_drop] at q4
    have main : CallW cx 53 [.ptr Y 0, .ptr X 0] { heap := h, next := nx, low := lo } (fun u s' => u = .bool true ∧ ∃ v', OS D A B C n X Y J d ⟨j.recs ++ [pr], j.dur, j.fin + pk⟩ v' secs ow s'.heap s'.next ∧ Upd (jnS J A B C v) h nx lo s'.heap s'.next s'.low ∧ s'.low ≤ J ∧ (∀ t, tokOf v' = some t → tokOf v = some t ∨ nx ≤ t)) := by
      refine CallW.fn' (fn := ir53) rfl rfl (by kernel_rfl) ir53.eq_1 ?_
      obtain ⟨v', h2, nx2, lo2, a1, a2, a3, a4, a5, a6, a7, a8⟩ := PJ.app o.pd o.pj (by omega) pr j.dur (j.fin + pk) nx
      obtain ⟨c1, c2⟩ := Gr.cell (a4.gr 0)
      have hx2 : Fw.look X h2 = some (.cells (some 58) [.ptr J 0]) := by rw [a8 X o.lt.1 (fun hc => (o.tk X hc).1 rfl)]; exact hx
      have hy2 : Fw.look Y h2 = some (.cells (some 42) [.slice (encS secs) secs.length ow]) := by rw [a8 Y o.lt.2 (fun hc => (o.tk Y hc).2 rfl)]; exact hy
      have dn : decide (nx2 = nx ∧ lo2 = nx) = false := decide_eq_false (by omega)
      have hXJ : X ≠ J := o.ne.1
      have hx3 : ∀ o', Fw.look X (Fw.put J o' h2) = some (.cells (some 58) [.ptr J 0]) := fun o' => by rw [look_put_ne hXJ]; exact hx2
      have hj3 : ∀ o', Fw.look J (Fw.put J o' h2) = some o' := fun o' => look_put_self a2
      have w1 : IntKind.i64.wrap ((j.fin : Int) + (pk : Int)) = ((j.fin + pk : Nat) : Int) := by rw [wrap_i64 (by omega) (by omega)]; omega
      have fx : (Fw.look X h2 ≠ Fw.look X h) = False := by rw [hx2, hx]; simp
      simp (config := {contextual := true, implicitDefEqProofs := false, maxSteps := 4000000}) only [go_sem, ↓reduceIte, Bool.false_eq_true, Nat.reduceEqDiff, Nat.reduceAdd, Int.reduceLE, Int.reduceLT, Int.reduceEq, Int.reduceToNat, Int.toNat_natCast, Int.cast_ofNat_Int, Int.natCast_one, Nat.reduceMod, Nat.reduceDiv, UInt8.reduceToNat, Nat.reduceLT, hj, hx, hy, sl, kp, d1, hlv, d2, a1, a2, c1, c2, dn, hx2, hx3, hj3, w1, fx]
      have hql := o.pj.lt
      rw [put_put, LeaveW_wr rfl (by show min (min (min nx lo2) J) J < nx; omega)]
      have hnx : nx ≤ nx2 := a5.next
      have hol := o.lt
      have hoe := o.ne
      refine ⟨rfl, v', ⟨a3, a4, by rw [look_put_ne hXJ]; exact hx2, by rw [look_put_ne hoe.2.1]; exact hy2, hoe, fun t ht => ?_, ⟨Nat.lt_of_lt_of_le hol.1 hnx, Nat.lt_of_lt_of_le hol.2 hnx⟩⟩, ⟨hnx, fun i hi hn => ?_, fun L g1 g2 g3 => ?_⟩, by show min lo (min (min (min nx lo2) J) J) ≤ J; omega, a6⟩
      · rcases a6 t ht with h9 | h9
        · exact o.tk t h9
        · omega
      · rw [look_put_ne (fun e => hi (.inl e))]
        exact a8 i hn (fun hc => hi (.inr (.inr hc)))
      · have := a5.low L g2 g2 (fun i hi => g3 i (.inr (.inr hi)))
        have := g3 J (.inl rfl)
        show L ≤ min lo (min (min (min nx lo2) J) J)
        omega
    obtain ⟨k, u, ⟨h', nx', lo'⟩, m1, rfl, v', m2, m3, m4, m5⟩ := main
    exact ⟨h', nx', lo', v', fun K => CallW.eq ⟨k, _, _, m1, rfl, rfl⟩ K, m2, m3, m4, m5⟩
end
end T43


/- Opening: the loops. -/
namespace T43
open Go Fw Go.Proofs
set_option maxRecDepth 100000
set_option maxHeartbeats 8000000
set_option linter.unusedSimpArgs false
set_option linter.unusedVariables false
/-- While the sectors are read. -/
structure O0 (D A B C n X Y J : Nat) (d : DK) (i : Nat) (va : AV) (h : List (Nat × AObj)) (nx : Nat) : Prop where
  pd : PD D A B C n d h nx
  hj : Fw.look J h = some (.cells (some 89) [.ptr D 0, .nilslice, .int .i64 0, .int .i64 0])
  hx : Fw.look X h = some (.cells (some 58) [.ptr J 0])
  hy : Fw.look Y h = some (.cells (some 42) [va])
  gr : ∀ lo, Gr 9 1 { heap := h, next := nx, low := lo } va (encS (d.now.take i)) i
  ne : X ≠ J ∧ Y ≠ J ∧ X ≠ Y ∧ X ≠ D ∧ X ≠ A ∧ X ≠ B ∧ X ≠ C ∧ Y ≠ D ∧ Y ≠ A ∧ Y ≠ B ∧ Y ≠ C ∧ J ≠ D ∧ J ≠ A ∧ J ≠ B ∧ J ≠ C
  tk : ∀ t, tokOf va = some t → t ≠ X ∧ t ≠ Y ∧ t ≠ J ∧ t ≠ D ∧ t ≠ A ∧ t ≠ B ∧ t ≠ C
  lt : X < nx ∧ Y < nx ∧ J < nx
section
variable {D A B C n X Y J : Nat} {d : DK}
/-- Blocks from L on alone were touched. -/
def newS (L : Nat) (i : Nat) : Prop := L ≤ i
theorem l030 (L : Nat) (hX : L ≤ X ∧ L ≤ Y ∧ L ≤ J) (Q : Sig → FE → St → Prop) : ∀ (m i : Nat) (e : FE) (va : AV) (h : List (Nat × AObj)) (nx lo : Nat), i + m = n → O0 D A B C n X Y J d i va h nx → (∀ t, tokOf va = some t → L ≤ t) → L ≤ nx → e 0 = .ptr D 0 → e 4 = .ptr X 0 → e 5 = .ptr Y 0 → e 17 = .int .i64 (n : Int) → e 18 = .int .i64 (i : Int) →
    (∀ e' va' h' nx' lo', O0 D A B C n X Y J d n va' h' nx' → (∀ t, tokOf va' = some t → L ≤ t) → Upd (newS L) h nx lo h' nx' lo' → e' 0 = .ptr D 0 → e' 4 = .ptr X 0 → e' 5 = .ptr Y 0 → Q (.exit 0) e' { heap := h', next := nx', low := lo' }) → WLoop cx ir30L0 e { heap := h, next := nx, low := lo } Q
  | 0, i, e, va, h, nx, lo, hi, o, ht, hL, h0, h4, h5, h17, h18, hQ => by
    refine WLoop.rnd (c := _) ir30L0.eq_1 ?_
    have d1 : decide ((i : Int) < (n : Int)) = false := decide_eq_false (by omega)
    simp (config := {contextual := true, implicitDefEqProofs := false, maxSteps := 4000000}) only [go_sem, ↓reduceIte, Bool.false_eq_true, Nat.reduceEqDiff, Nat.reduceAdd, Int.reduceLE, Int.reduceLT, Int.reduceEq, Int.reduceToNat, Int.toNat_natCast, Int.cast_ofNat_Int, Int.natCast_one, Nat.reduceMod, Nat.reduceDiv, UInt8.reduceToNat, Nat.reduceLT, h0, h4, h5, h17, h18, d1]
    obtain rfl : i = n := by omega
    exact hQ _ _ _ _ _ o ht (Upd.refl _ _ _ _) h0 h4 h5
  | m + 1, i, e, va, h, nx, lo, hi, o, ht, hL, h0, h4, h5, h17, h18, hQ => by
    refine WLoop.rnd (c := _) ir30L0.eq_1 ?_
    have hn4 := o.pd.hn
    have ok := o.pd.ok
    have d1 : decide ((i : Int) < (n : Int)) = true := decide_eq_true (by omega)
    have w := wrap_one (i := i) (by omega)
    have hd := o.pd.hd
    have ha := o.pd.ha
    have hy := o.hy
    have b1 : (0 : Int) ≤ (i : Int) ∧ (i : Int) < (n : Int) := by omega
    have b2 : (i : Int) < (n : Int) := by omega
    have s1 : sliceArr 1 32 (.ptr A (i * 32)) none none none = some (.mslice A (i * 32) 32 (some 32)) := rfl
    have b3 : ∀ lo, b2sA { heap := h, next := nx, low := lo } (.mslice A (i * 32) 32 (some 32)) = some (.str (d.now.getD i [])) := fun lo => b2s_m ha (encN_sub ok.b1 (by rw [ok.l1]; omega)) (bytes_bc _)
    obtain ⟨va', ⟨h2, nx2, lo2⟩, a1, a2, a3, a4, a5, a6, a7⟩ := (o.gr nx).app (bytes := 16) (y := .slice [.str (d.now.getD i [])] 1 .full) (new := [.str (d.now.getD i [])]) (m := 1) rfl rfl rfl rfl (room_ok (by omega))
    have hnx : nx ≤ nx2 := a3.1
    have a8 : ∀ i, i < nx → tokOf va ≠ some i → Fw.look i h2 = Fw.look i h := fun i hi ht => a3.2 i hi ht
    have e1 : encS (d.now.take i) ++ ([AV.str (d.now.getD i [])].map AV.strip) = encS (d.now.take (i + 1)) := by
      have : d.now.take (i + 1) = d.now.take i ++ [d.now.getD i []] := by
        rw [List.take_add_one, List.getElem?_eq_getElem (by rw [ok.l1]; omega)]
        simp [List.getD, show i < d.now.length by rw [ok.l1]; omega]
      rw [this]; simp [encS, AV.strip]
    rw [e1] at a2
    have hy2 : Fw.look Y h2 = some (.cells (some 42) [va]) := by rw [a8 Y o.lt.2.1 (fun hc => (o.tk Y hc).2.1 rfl)]; exact hy
    have dn : decide (nx2 = nx ∧ lo2 = nx) = false := by
      refine decide_eq_false (fun hc => ?_)
      rcases o.gr nx with ⟨rfl, _, _⟩ | ⟨rfl, g2⟩ | ⟨t, rfl, _, g3, _⟩
      · rw [app_nil] at a1
        cases a1
        exact Nat.succ_ne_self nx hc.1
      · rw [app_full1 9 _ _ _ (by rw [encS_len, List.length_take, ok.l1]; omega) (by omega)] at a1
        cases a1
        exact Nat.succ_ne_self nx hc.1
      · have := a7 (by decide) t rfl
        have g3 : t < nx := g3
        have this : lo2 ≤ t := this
        omega
    obtain ⟨c1, c2⟩ := Gr.cell a2
    simp (config := {contextual := true, implicitDefEqProofs := false, maxSteps := 4000000}) only [go_sem, ↓reduceIte, Bool.false_eq_true, Nat.reduceEqDiff, Nat.reduceAdd, Int.reduceLE, Int.reduceLT, Int.reduceEq, Int.reduceToNat, Int.toNat_natCast, Int.cast_ofNat_Int, Int.natCast_one, Nat.reduceMod, Nat.reduceDiv, UInt8.reduceToNat, Nat.reduceLT, h0, h4, h5, h17, h18, d1, hy, hd, oget_iaddr_mslice, b1, b2, s1, b3, a1, dn, hy2, c1, c2, w]
    have hpl := o.pd.lt
    have hne := o.ne
    have hol := o.lt
    have htk : ∀ t, tokOf va' = some t → t ≠ X ∧ t ≠ Y ∧ t ≠ J ∧ t ≠ D ∧ t ≠ A ∧ t ≠ B ∧ t ≠ C := by
      intro t ht'
      rcases a4 t ht' with h9 | h9
      · exact o.tk t h9
      · have h9 : nx ≤ t := h9
        omega
    have hnY : ∀ i o', i ≠ Y → Fw.look i (Fw.put Y o' h2) = Fw.look i h2 := fun i o' hi => look_put_ne hi
    have o' : O0 D A B C n X Y J d (i + 1) va' (Fw.put Y (.cells (some 42) [va']) h2) nx2 := by
      refine ⟨?_, ?_, ?_, look_put_self hy2, fun l => ?_, hne, htk, by omega⟩
      · refine o.pd.keep2 hnx fun k hk => ?_
        rw [hnY k _ (by omega)]
        refine a8 k (by omega) (fun hc => ?_)
        have := o.tk k hc
        omega
      · rw [hnY J _ (by omega), a8 J (by omega) (fun hc => by have := o.tk J hc; omega)]; exact o.hj
      · rw [hnY X _ (by omega), a8 X (by omega) (fun hc => by have := o.tk X hc; omega)]; exact o.hx
      · have : Gr 9 1 { heap := h2, next := nx2, low := l } va' (encS (d.now.take (i + 1))) (i + 1) := a2
        exact this.keep ⟨Nat.le_refl _, fun k _ hk => look_put_ne (htk k hk).2.1⟩
    refine l030 L hX Q m (i + 1) _ va' _ nx2 _ (by omega) o' (fun t ht' => ?_) (Nat.le_trans hL hnx) h0 h4 h5 h17 rfl ?_
    · rcases a4 t ht' with h9 | h9
      · exact ht t h9
      · exact Nat.le_trans hL h9
    · intro e' va2 h3 nx3 lo3 g1 g2 g3 g4 g5 g6
      refine hQ e' va2 h3 nx3 lo3 g1 g2 (Upd.trans ⟨hnx, fun k hk hkn => ?_, fun M m1 m2 m3 => ?_⟩ g3) g4 g5 g6
      · have hkL : k < L := Nat.lt_of_not_le hk
        rw [hnY k _ (by omega), a8 k hkn (fun hc => by have := ht k hc; omega)]
      · have u1 := a5 M m2 (fun t ht' => m3 t (ht t ht'))
        have u2 := m3 Y hX.2.1
        have u1 : M ≤ lo2 := u1
        omega
end
end T43


/- Opening: the records, and what stands behind them. -/
namespace T43
open Go Fw Go.Proofs
set_option maxRecDepth 100000
set_option maxHeartbeats 8000000
set_option linter.unusedSimpArgs false
set_option linter.unusedVariables false
section
variable {D A B C n X Y J : Nat} {d : DK} {ow : Own}
theorem jn_new {J A B C L : Nat} {v : AV} (hJ : L ≤ J) (hv : ∀ t, tokOf v = some t → L ≤ t) : ∀ i, jnS J A B C v i → crS A B C i ∨ newS L i := by
  intro i hi
  rcases hi with rfl | hi | hi
  · exact .inr hJ
  · exact .inl hi
  · exact .inr (hv i hi)
def opS (A B C L : Nat) (i : Nat) : Prop := crS A B C i ∨ newS L i
theorem l130 (L : Nat) (hX : L ≤ X ∧ L ≤ Y ∧ L ≤ J) (Q : Sig → FE → St → Prop) : ∀ (m : Nat) (j : JN) (v : AV) (e : FE) (h : List (Nat × AObj)) (nx lo : Nat), OS D A B C n X Y J d j v d.now ow h nx → j.recs.length ≤ j.fin → j.fin ≤ n → n ≤ j.fin + m → (∀ t, tokOf v = some t → L ≤ t) → L ≤ nx → e 7 = .func 53 [] [.ptr Y 0, .ptr X 0] → e 0 = .ptr D 0 → e 4 = .ptr X 0 → e 5 = .ptr Y 0 →
    (∀ e' h' nx' lo' v', OS D A B C n X Y J d ⟨(scanB m d.now j.fin j.recs).1, j.dur, (scanB m d.now j.fin j.recs).2⟩ v' d.now ow h' nx' → (∀ t, tokOf v' = some t → L ≤ t) → Upd (opS A B C L) h nx lo h' nx' lo' → e' 0 = .ptr D 0 → e' 4 = .ptr X 0 → e' 5 = .ptr Y 0 → Q (.exit 2) e' { heap := h', next := nx', low := lo' }) → WLoop cx ir30L1 e { heap := h, next := nx, low := lo } Q
  | 0, j, v, e, h, nx, lo, o, hr, hf, hm, hv, hL, h7, h0, h4, h5, hQ => by
    refine WLoop.rnd (c := _) ir30L1.eq_1 ?_
    have ok := o.pd.ok
    obtain ⟨n1, _⟩ := next_ok (lo := lo) o (by rw [ok.l1]; exact hf) (by rw [ok.l1]; exact o.pd.hn) ok.b1 hr
    have hno : ¬ ((parseB (d.now.drop j.fin)).2.2.2 = 0 ∧ (parseB (d.now.drop j.fin)).1 = j.recs.length) := by
      rw [List.drop_eq_nil_of_le (by rw [ok.l1]; omega)]
      intro hc
      exact absurd hc.1 (by decide)
    have k1 := n1 hno
    simp (config := {contextual := true, implicitDefEqProofs := false, maxSteps := 4000000}) only [go_sem, ↓reduceIte, Bool.false_eq_true, Nat.reduceEqDiff, Nat.reduceAdd, Int.reduceLE, Int.reduceLT, Int.reduceEq, Int.reduceToNat, Int.toNat_natCast, Int.cast_ofNat_Int, Int.natCast_one, Nat.reduceMod, Nat.reduceDiv, UInt8.reduceToNat, Nat.reduceLT, h7, h0, h4, h5, k1]
    exact hQ _ _ _ _ v o hv (Upd.refl _ _ _ _) h0 h4 h5
  | m + 1, j, v, e, h, nx, lo, o, hr, hf, hm, hv, hL, h7, h0, h4, h5, hQ => by
    refine WLoop.rnd (c := _) ir30L1.eq_1 ?_
    have ok := o.pd.ok
    obtain ⟨n1, n2⟩ := next_ok (lo := lo) o (by rw [ok.l1]; exact hf) (by rw [ok.l1]; exact o.pd.hn) ok.b1 hr
    simp only [scanB] at hQ
    by_cases hc : (parseB (d.now.drop j.fin)).2.2.2 = 0 ∧ (parseB (d.now.drop j.fin)).1 = j.recs.length
    · rw [if_pos hc] at hQ
      obtain ⟨h', nx', lo', v', k1, k2, k3, k4, k5⟩ := n2 hc
      obtain ⟨p1, p2, p3, p4, p5⟩ := parse_ok (secs := d.now.drop j.fin) (n := (parseB (d.now.drop j.fin)).1) (r := (parseB (d.now.drop j.fin)).2.1) (k := (parseB (d.now.drop j.fin)).2.2.1) (by rw [← hc.1])
      have hsp := szB_pos (parseB (d.now.drop j.fin)).2.1.length
      rw [List.length_drop, ok.l1] at p4
      simp (config := {contextual := true, implicitDefEqProofs := false, maxSteps := 4000000}) only [go_sem, ↓reduceIte, Bool.false_eq_true, Nat.reduceEqDiff, Nat.reduceAdd, Int.reduceLE, Int.reduceLT, Int.reduceEq, Int.reduceToNat, Int.toNat_natCast, Int.cast_ofNat_Int, Int.natCast_one, Nat.reduceMod, Nat.reduceDiv, UInt8.reduceToNat, Nat.reduceLT, h7, h0, h4, h5, k1]
      refine l130 L hX Q m _ v' _ h' nx' lo' k2 (by simp only [List.length_append, List.length_singleton]; omega) (by simp only; omega) (by simp only; omega) (fun t ht => (k5 t ht).elim (hv t) (fun h => Nat.le_trans hL h)) (Nat.le_trans hL k3.next) h7 h0 h4 h5 ?_
      intro e' h2 nx2 lo2 v2 g1 g2 g3 g4 g5 g6
      exact hQ e' h2 nx2 lo2 v2 g1 g2 ((k3.mono (jn_new hX.2.2 hv)).trans g3) g4 g5 g6
    · rw [if_neg hc] at hQ
      have k1 := n1 hc
      simp (config := {contextual := true, implicitDefEqProofs := false, maxSteps := 4000000}) only [go_sem, ↓reduceIte, Bool.false_eq_true, Nat.reduceEqDiff, Nat.reduceAdd, Int.reduceLE, Int.reduceLT, Int.reduceEq, Int.reduceToNat, Int.toNat_natCast, Int.cast_ofNat_Int, Int.natCast_one, Nat.reduceMod, Nat.reduceDiv, UInt8.reduceToNat, Nat.reduceLT, h7, h0, h4, h5, k1]
      exact hQ _ _ _ _ v o hv (Upd.refl _ _ _ _) h0 h4 h5
end
/-- The contents while what stands behind is wiped. -/
def wipeI (now : List Bs8) (e i : Nat) : List Bs8 := now.take e ++ List.replicate (i - e) zero32 ++ now.drop i
theorem wipeI_0 (now : List Bs8) (e : Nat) : wipeI now e e = now := by simp [wipeI]
theorem wipeI_n (d : DK) (e : Nat) : wipeI d.now e d.now.length = wipeL d e := by simp [wipeI, wipeL]
theorem wipeI_step {now : List Bs8} {e i : Nat} (h1 : e ≤ i) (h2 : i < now.length) : (wipeI now e i).set i zero32 = wipeI now e (i + 1) ∧ (now.getD i [] = zero32 → wipeI now e (i + 1) = wipeI now e i) := by
  have l : (now.take e ++ List.replicate (i - e) zero32).length = i := by rw [List.length_append, List.length_take, List.length_replicate]; omega
  have e1 : wipeI now e (i + 1) = now.take e ++ List.replicate (i - e) zero32 ++ (zero32 :: now.drop (i + 1)) := by
    unfold wipeI
    rw [show i + 1 - e = (i - e) + 1 by omega, List.replicate_succ']
    simp
  refine ⟨?_, fun hz => ?_⟩
  · rw [e1]
    unfold wipeI
    rw [drop_cons h2, List.set_append, if_neg (by omega), l, Nat.sub_self, List.set_cons_zero]
  · rw [e1]
    unfold wipeI
    rw [drop_cons h2, hz]
structure WI (d : DK) (e n i : Nat) (w : Bool) (dd : DK) : Prop where
  now : dd.now = wipeI d.now e i
  dur : dd.dur = d.dur
  no : w = false → dd = d ∧ d.drt.any id = false
  yes : w = true → d.drt.any id = true ∨ ∃ k, e ≤ k ∧ k < n ∧ d.now.getD k [] ≠ zero32
theorem WI.fin {d dd : DK} {e n : Nat} {w : Bool} (hn : d.now.length = n) (hw : WI d e n n w dd) (he : e = (openJ d).fin) (hen : e ≤ n) : (w = true → dd.sync = openD d) ∧ (w = false → dd = openD d) := by
  have h1 : dd.now = wipeL d e := by rw [hw.now, ← hn, wipeI_n]
  have h2 : dd.now.length = n := by rw [h1, wipe_len (by omega), hn]
  refine ⟨fun ht => ?_, fun hf => ?_⟩
  · have hcond : d.drt.any id = true ∨ wipeL d (openJ d).fin ≠ d.now := by
      rcases hw.yes ht with h | ⟨k, k1, k2, k3⟩
      · exact .inl h
      · refine .inr (fun hc => k3 ?_)
        rw [← hc, ← he]
        unfold wipeL
        rw [List.getD_eq_getElem?_getD, List.getElem?_append_right (by rw [List.length_take]; omega), List.length_take, List.getElem?_replicate, if_pos (by omega)]; rfl
    unfold openD
    rw [if_pos hcond, ← he]
    unfold DK.sync
    rw [h2, h1, hn]
  · obtain ⟨rfl, hf2⟩ := hw.no hf
    unfold openD
    rw [if_neg]
    rintro (hc | hc)
    · rw [hf2] at hc; cases hc
    · rw [← he] at hc; exact hc h1.symm
section
variable {D A B C n X Y J : Nat} {d : DK} {ow : Own}
theorem l230 (L : Nat) (hX : L ≤ X ∧ L ≤ Y ∧ L ≤ J) (j : JN) (v : AV) (hjf : j.fin ≤ n) (okd : DKok d n) (Q : Sig → FE → St → Prop) : ∀ (m i : Nat) (w : Bool) (dd : DK) (e : FE) (h : List (Nat × AObj)) (nx lo : Nat), i + m = n → j.fin ≤ i → OS D A B C n X Y J dd j v d.now ow h nx → WI d j.fin n i w dd → e 9 = .int .i64 (i : Int) → e 8 = .bool w → e 0 = .ptr D 0 → e 4 = .ptr X 0 → e 5 = .ptr Y 0 →
    (∀ e' h' nx' lo' w' dd', OS D A B C n X Y J dd' j v d.now ow h' nx' → WI d j.fin n n w' dd' → Upd (crS A B C) h nx lo h' nx' lo' → e' 8 = .bool w' → e' 0 = .ptr D 0 → e' 4 = .ptr X 0 → Q (.exit 4) e' { heap := h', next := nx', low := lo' }) → WLoop cx ir30L2 e { heap := h, next := nx, low := lo } Q
  | 0, i, w, dd, e, h, nx, lo, hi, hji, o, hw, h9, h8, h0, h4, h5, hQ => by
    refine WLoop.rnd (c := _) ir30L2.eq_1 ?_
    have hy := o.hy
    have hl := okd.l1
    have d1 : decide ((i : Int) < (d.now.length : Int)) = false := decide_eq_false (by omega)
    simp (config := {contextual := true, implicitDefEqProofs := false, maxSteps := 4000000}) only [go_sem, ↓reduceIte, Bool.false_eq_true, Nat.reduceEqDiff, Nat.reduceAdd, Int.reduceLE, Int.reduceLT, Int.reduceEq, Int.reduceToNat, Int.toNat_natCast, Int.cast_ofNat_Int, Int.natCast_one, Nat.reduceMod, Nat.reduceDiv, UInt8.reduceToNat, Nat.reduceLT, h9, h8, h0, h4, h5, hy, d1]
    obtain rfl : i = n := by omega
    exact hQ _ _ _ _ w dd o hw (Upd.refl _ _ _ _) h8 h0 h4
  | m + 1, i, w, dd, e, h, nx, lo, hi, hji, o, hw, h9, h8, h0, h4, h5, hQ => by
    refine WLoop.rnd (c := _) ir30L2.eq_1 ?_
    have hy := o.hy
    have hl := okd.l1
    have hn4 := o.pd.hn
    have d1 : decide ((i : Int) < (d.now.length : Int)) = true := decide_eq_true (by omega)
    have wr := wrap_one (i := i) (by omega)
    have b1 : (0 : Int) ≤ (i : Int) ∧ (i : Int) < (d.now.length : Int) := by omega
    have b2 : (i : Int) < (d.now.length : Int) := by omega
    have hs := encS_sub (l := d.now) (i := i) (by omega)
    have h32 : (d.now.getD i []).length = 32 := okd.b1 _ (getD_mem (by omega))
    have kb := fun st K => c48 (d.now.getD i []) (by omega) st K
    obtain ⟨st1, st2⟩ := wipeI_step (now := d.now) (e := j.fin) (i := i) hji (by omega)
    by_cases hz : d.now.getD i [] = zero32
    · have d2 : decide (Lib.trimB (d.now.getD i []) 0 = []) = true := decide_eq_true ((blank32 h32).2 hz)
      simp (config := {contextual := true, implicitDefEqProofs := false, maxSteps := 4000000}) only [go_sem, ↓reduceIte, Bool.false_eq_true, Nat.reduceEqDiff, Nat.reduceAdd, Int.reduceLE, Int.reduceLT, Int.reduceEq, Int.reduceToNat, Int.toNat_natCast, Int.cast_ofNat_Int, Int.natCast_one, Nat.reduceMod, Nat.reduceDiv, UInt8.reduceToNat, Nat.reduceLT, h9, h8, h0, h4, h5, hy, d1, iaddrA, b1, b2, Nat_mul_one, hs, kb, d2, Bool.not_true, wr]
      exact l230 L hX j v hjf okd Q m (i + 1) w dd _ h nx lo (by omega) (by omega) o ⟨by rw [hw.now, st2 hz], hw.dur, hw.no, hw.yes⟩ rfl h8 h0 h4 h5 hQ
    · have d2 : decide (Lib.trimB (d.now.getD i []) 0 = []) = false := decide_eq_false (fun hc => hz ((blank32 h32).1 hc))
      have kr := fun st K => repz 32 (by omega) st K
      simp only [Int.cast_ofNat_Int] at kr
      have okp := o.pd.ok
      have e1 : dd.writeE (i : Int) (List.replicate 32 0) = 0 := by
        unfold DK.writeE
        rw [okp.l1, if_neg (by omega), if_neg (by simp)]
      have e2 : dd.write (i : Int) (List.replicate 32 0) = dd.put i zero32 := by
        unfold DK.write; rw [e1, if_pos rfl, Int.toNat_natCast]; rfl
      obtain ⟨h', nx', lo', k1, k2, k3, k4⟩ := write_ok (lo := lo) o.pd (i : Int) (List.replicate 32 0) (by simp)
      rw [e1] at k1
      rw [e2] at k2
      have k3' : Upd (crS A B C) h nx lo h' nx' lo' := k3.mono fun i hi => hi.elim (fun h => .inl h) (fun h => .inr (.inr h))
      have hne := o.ne
      have o' : OS D A B C n X Y J (dd.put i zero32) j v d.now ow h' nx' := ⟨k2, o.pj.keep k3', by rw [k3.keep X (fun hc => by rcases hc with hc | hc <;> omega) o.lt.1]; exact o.hx, by rw [k3.keep Y (fun hc => by rcases hc with hc | hc <;> omega) o.lt.2]; exact hy, hne, o.tk, ⟨Nat.lt_of_lt_of_le o.lt.1 k3.next, Nat.lt_of_lt_of_le o.lt.2 k3.next⟩⟩
      simp (config := {contextual := true, implicitDefEqProofs := false, maxSteps := 4000000}) only [go_sem, ↓reduceIte, Bool.false_eq_true, Nat.reduceEqDiff, Nat.reduceAdd, Int.reduceLE, Int.reduceLT, Int.reduceEq, Int.reduceToNat, Int.toNat_natCast, Int.cast_ofNat_Int, Int.natCast_one, Nat.reduceMod, Nat.reduceDiv, UInt8.reduceToNat, Nat.reduceLT, h9, h8, h0, h4, h5, hy, d1, iaddrA, b1, b2, Nat_mul_one, hs, kb, d2, Bool.not_false, kr, k1, wr]
      refine l230 L hX j v hjf okd Q m (i + 1) true _ _ h' nx' lo' (by omega) (by omega) o' ⟨?_, hw.dur, fun hc => (by cases hc), fun _ => .inr ⟨i, hji, by omega, hz⟩⟩ rfl rfl h0 h4 h5 ?_
      · show dd.now.set i zero32 = _
        rw [hw.now, st1]
      · intro e' h2 nx2 lo2 w2 dd2 g1 g2 g3 g4 g5 g6
        exact hQ e' h2 nx2 lo2 w2 dd2 g1 g2 (k3'.trans g3) g4 g5 g6
end
end T43


/- Opening a disk. -/
namespace T43
open Go Fw Go.Proofs
set_option maxRecDepth 100000
set_option maxHeartbeats 8000000
set_option linter.unusedSimpArgs false
set_option linter.unusedVariables false
theorem RowI.lenv {v : AV} {l : List Nat} (h : RowI v l) : lenvA v = some (.int .i64 (l.length : Int)) := by
  rcases h with ⟨rfl, rfl⟩ | ⟨o, _, rfl⟩ <;> rfl
theorem posL_any : ∀ (l : List Bool) (i : Nat), decide ((0 : Int) < ((posL i l).length : Int)) = l.any id
  | [], i => rfl
  | b :: l, i => by
    have ih := posL_any l (i + 1)
    cases b
    · simp only [posL, Bool.false_eq_true, if_false, List.any_cons, id, Bool.false_or]; exact ih
    · simp only [posL, if_true, List.any_cons, id, Bool.true_or, List.length_cons]
      exact decide_eq_true (by omega)
section
variable {D A B C n X Y J : Nat} {d : DK} {j : JN} {v : AV} {secs : List Bs8} {ow : Own} {h : List (Nat × AObj)} {nx lo : Nat}
theorem OS.setJ (o : OS D A B C n X Y J d j v secs ow h nx) (dur fin : Nat) : OS D A B C n X Y J d ⟨j.recs, dur, fin⟩ v secs ow (Fw.put J (.cells (some 89) [.ptr D 0, v, .int .i64 (dur : Int), .int .i64 (fin : Int)]) h) nx :=
  ⟨o.pd.setJ o.pj.ne _, o.pj.setJ dur fin, by rw [look_put_ne o.ne.1]; exact o.hx, by rw [look_put_ne o.ne.2.1]; exact o.hy, o.ne, o.tk, o.lt⟩
theorem open_ok (p : PD D A B C n d h nx) (hn1 : 1 ≤ n) : ∃ h' nx' lo' v', (∀ K, CallW cx 30 [.ptr D 0] { heap := h, next := nx, low := lo } K = K (.tuple [.ptr nx 0, .int .i64 0]) { heap := h', next := nx', low := lo' }) ∧ PD D A B C n (openD d) h' nx' ∧ PJ nx D A B C (openJ d) v' h' nx' ∧ Upd (crS A B C) h nx lo h' nx' lo' ∧ (∀ t, tokOf v' = some t → nx ≤ t) := by
  have main : CallW cx 30 [.ptr D 0] { heap := h, next := nx, low := lo } (fun u s' => u = .tuple [.ptr nx 0, .int .i64 0] ∧ ∃ v', PD D A B C n (openD d) s'.heap s'.next ∧ PJ nx D A B C (openJ d) v' s'.heap s'.next ∧ Upd (crS A B C) h nx lo s'.heap s'.next s'.low ∧ (∀ t, tokOf v' = some t → nx ≤ t)) := by
    refine CallW.fn' (fn := ir30) rfl rfl (by kernel_rfl) ir30.eq_1 ?_
    have hd := p.hd
    have ok := p.ok
    have hpl := p.lt
    have f1 : (nx + 2 = D) = False := eq_false (by omega)
    have f2 : (nx + 1 = D) = False := eq_false (by omega)
    have f3 : (nx = D) = False := eq_false (by omega)
    simp (config := {contextual := true, implicitDefEqProofs := false, maxSteps := 4000000}) only [go_sem, ↓reduceIte, Bool.false_eq_true, Nat.reduceEqDiff, Nat.reduceAdd, Int.reduceLE, Int.reduceLT, Int.reduceEq, Int.reduceToNat, Int.toNat_natCast, Int.cast_ofNat_Int, Int.natCast_one, Nat.reduceMod, Nat.reduceDiv, UInt8.reduceToNat, Nat.reduceLT, hd, f1, f2, f3]
    have hk : ∀ i, i < nx → Fw.look i ((nx + 2, AObj.cells (some 42) [AV.nilslice]) :: (nx + 1, AObj.cells (some 58) [AV.ptr nx 0]) :: (nx, AObj.cells (some 89) [AV.ptr D 0, AV.nilslice, AV.int IntKind.i64 0, AV.int IntKind.i64 0]) :: h) = Fw.look i h := fun i hi => by
      simp only [Fw.look]; rw [if_neg (by omega), if_neg (by omega), if_neg (by omega)]
    refine l030 (D := D) (A := A) (B := B) (C := C) (X := nx + 1) (Y := nx + 2) (J := nx) (d := d) nx (by omega) _ n 0 _ .nilslice _ (nx + 3) _ (by omega) ⟨p.keep (by omega) hk, ?_, ?_, by simp [Fw.look], fun lo => ?_, by omega, (fun t ht => (by cases ht)), by omega⟩ (fun t ht => (by cases ht)) (by omega) rfl rfl rfl rfl rfl ?_
    · simp only [Fw.look]; rw [if_neg (by omega), if_neg (by omega)]; simp
    · simp only [Fw.look]; rw [if_neg (by omega)]; simp
    · rw [List.take_zero]; exact Gr.nil
    intro e1 va h1 nx1 lo1 o1 t1 u1 g0 g4 g5
    have hd1 := o1.pd.hd
    have gr1 := o1.gr 0
    obtain ⟨ow, hva⟩ : ∃ ow, va = .slice (encS d.now) d.now.length ow := by
      rw [List.take_of_length_le (by rw [ok.l1]; exact Nat.le_refl _)] at gr1
      rw [ok.l1]
      rcases gr1 with ⟨_, _, g⟩ | ⟨g, _⟩ | ⟨t, g, _⟩
      · omega
      · exact ⟨_, g⟩
      · exact ⟨_, g⟩
    have o2 : OS D A B C n (nx + 1) (nx + 2) nx d ⟨[], 0, 0⟩ .nilslice d.now ow h1 nx1 :=
      ⟨o1.pd, ⟨o1.hj, fun l => Gr.nil, fun t ht => (by cases ht), by omega, o1.lt.2.2⟩, o1.hx, by rw [← hva]; exact o1.hy, by omega, fun t ht => (by cases ht), ⟨o1.lt.1, o1.lt.2.1⟩⟩
    simp (config := {contextual := true, implicitDefEqProofs := false, maxSteps := 4000000}) only [go_sem, ↓reduceIte, Bool.false_eq_true, Nat.reduceEqDiff, Nat.reduceAdd, Int.reduceLE, Int.reduceLT, Int.reduceEq, Int.reduceToNat, Int.toNat_natCast, Int.cast_ofNat_Int, Int.natCast_one, Nat.reduceMod, Nat.reduceDiv, UInt8.reduceToNat, Nat.reduceLT, g0, g4, g5]
    refine l130 nx (by omega) _ d.now.length ⟨[], 0, 0⟩ .nilslice _ h1 nx1 lo1 o2 (Nat.le_refl _) (Nat.zero_le _) (by rw [ok.l1]; simp) (fun t ht => (by cases ht)) (Nat.le_of_lt o1.lt.2.2) rfl g0 g4 g5 ?_
    intro e2 h2 nx2 lo2 v2 o3 t3 u3 f0 f4 f5
    have hx3 := o3.hx
    have hj3 := o3.pj.hj
    have hlv := (o3.pj.gr 0).lenv
    have o4 := o3.setJ (scanB d.now.length d.now 0 []).1.length (scanB d.now.length d.now 0 []).2
    have hx4 := o4.hx
    have hj4 := o4.pj.hj
    obtain ⟨w, w1, w2⟩ := dirty_ok (lo := min lo2 nx) o4.pd
    have w3 := w1.lenv
    have w4 := posL_any d.drt 0
    have e9 : d.dirty = posL 0 d.drt := rfl
    rw [e9] at w3
    simp (config := {contextual := true, implicitDefEqProofs := false, maxSteps := 4000000}) only [go_sem, ↓reduceIte, Bool.false_eq_true, Nat.reduceEqDiff, Nat.reduceAdd, Int.reduceLE, Int.reduceLT, Int.reduceEq, Int.reduceToNat, Int.toNat_natCast, Int.cast_ofNat_Int, Int.natCast_one, Nat.reduceMod, Nat.reduceDiv, UInt8.reduceToNat, Nat.reduceLT, f0, f4, f5, hx3, hj3, hlv, w2, w3, w4, hx4, hj4]
    have hjo := openJ_ok d
    have hfin : (openJ d).fin ≤ n := by have := hjo.b; rw [ok.l1] at this; exact this
    have o4 : OS D A B C n (nx + 1) (nx + 2) nx d (openJ d) v2 d.now ow _ nx2 := o4
    refine l230 nx (by omega) (openJ d) v2 hfin ok _ (n - (openJ d).fin) (openJ d).fin (d.drt.any id) d _ _ nx2 _ (by omega) (Nat.le_refl _) o4 ⟨(wipeI_0 _ _).symm, rfl, fun hc => ⟨rfl, hc⟩, fun hc => .inl hc⟩ rfl rfl f0 f4 f5 ?_
    intro e3 h3 nx3 lo3 w' dd' o5 wi u5 i8 i0 i4
    obtain ⟨y1, y2⟩ := wi.fin ok.l1 rfl hfin
    have hx5 := o5.hx
    have uall : ∀ {h' nx' lo'}, Upd (crS A B C) h3 nx3 lo3 h' nx' lo' → Upd (crS A B C) h nx lo h' nx' (min lo lo') := by
      intro h' nx' lo' u6
      have ua : Upd (opS A B C nx) h nx nx h' nx' lo' := by
        have ub : Upd (opS A B C nx) h nx nx _ (nx + 3) nx := ⟨by omega, fun i _ hi => hk i hi, fun L h1 _ _ => h1⟩
        have uc := ub.trans (u1.mono (T := opS A B C nx) fun i hi => .inr hi)
        have ud := uc.trans u3
        refine Upd.trans (Upd.trans (Upd.trans ud ?_) (u5.mono fun i hi => .inl hi)) (u6.mono fun i hi => .inl hi)
        exact Upd.put (.inr (Nat.le_refl nx))
      refine Upd.leave ⟨ua.next, fun i hi hin => ua.keep i (fun hc => hc.elim hi (fun h => by have : nx ≤ i := h; omega)) hin, fun L m1 m2 m3 => ua.low L m1 m2 fun i hi => hi.elim (m3 i) (fun h => Nat.le_trans m2 h)⟩
    cases w'
    · have y2 := y2 rfl
      simp (config := {contextual := true, implicitDefEqProofs := false, maxSteps := 4000000}) only [go_sem, ↓reduceIte, Bool.false_eq_true, Nat.reduceEqDiff, Nat.reduceAdd, Int.reduceLE, Int.reduceLT, Int.reduceEq, Int.reduceToNat, Int.toNat_natCast, Int.cast_ofNat_Int, Int.natCast_one, Nat.reduceMod, Nat.reduceDiv, UInt8.reduceToNat, Nat.reduceLT, i8, i0, i4, hx5]
      rw [LeaveW_new rfl (by simp [AV.al, alAll, below])]
      exact ⟨rfl, v2, by rw [← y2]; exact o5.pd, o5.pj, uall (Upd.refl _ _ _ _), t3⟩
    · have y1 := y1 rfl
      obtain ⟨h6, nx6, lo6, k1, k2, k3, k4⟩ := sync_ok (lo := lo3) o5.pd hn1
      have k3' : Upd (crS A B C) h3 nx3 lo3 h6 nx6 lo6 := k3.mono fun i hi => hi.elim (fun h => .inr (.inl h)) (fun h => .inr (.inr h))
      have hx6 : Fw.look (nx + 1) h6 = some (.cells (some 58) [.ptr nx 0]) := by
        rw [k3.keep (nx + 1) (fun hc => by have := o5.ne; rcases hc with hc | hc <;> omega) o5.lt.1]; exact hx5
      simp (config := {contextual := true, implicitDefEqProofs := false, maxSteps := 4000000}) only [go_sem, ↓reduceIte, Bool.false_eq_true, Nat.reduceEqDiff, Nat.reduceAdd, Int.reduceLE, Int.reduceLT, Int.reduceEq, Int.reduceToNat, Int.toNat_natCast, Int.cast_ofNat_Int, Int.natCast_one, Nat.reduceMod, Nat.reduceDiv, UInt8.reduceToNat, Nat.reduceLT, i8, i0, i4, k1, hx6]
      rw [LeaveW_new rfl (by simp [AV.al, alAll, below])]
      exact ⟨rfl, v2, by rw [← y1]; exact k2, o5.pj.keep k3', uall k3', t3⟩
  obtain ⟨k, u, ⟨h', nx', lo'⟩, h1, rfl, v', h2, h3, h4, h5⟩ := main
  exact ⟨h', nx', lo', v', fun K => CallW.eq ⟨k, _, _, h1, rfl, rfl⟩ K, h2, h3, h4, h5⟩
end
end T43
