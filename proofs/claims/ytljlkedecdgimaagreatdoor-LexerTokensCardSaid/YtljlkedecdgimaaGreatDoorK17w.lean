/- Parts of the proof, one behind the other. -/
import Derived.Test.YtljlkedecdgimaaGreatDoorK17t
import Derived.Test.YtljlkedecdgimaaGreatDoorK17n
import Derived.Test.YtljlkedecdgimaaGreatDoorK17aw
import Derived.Test.YtljlkedecdgimaaGreatDoorK17d
import Derived.Test.YtljlkedecdgimaaGreatDoorRows
set_option linter.unusedSimpArgs false
set_option linter.unusedVariables false
/- The reference's digits. -/
namespace T17
open Go Fw Go.Proofs
set_option maxRecDepth 100000
set_option maxHeartbeats 4000000
set_option linter.unusedSimpArgs false
set_option linter.unusedVariables false
/-- Digits are laid ahead until none is left and there are enough. -/
def digF (least : Nat) : Nat → Nat → List UInt8 → List UInt8
  | 0, _, s => s
  | k + 1, n, s => if 0 < n ∨ s.length < least then digF least k (n / 10) (UInt8.ofNat (48 + n % 10) :: s) else s
theorem l31 (least : Nat) (hle : least ≤ 100) (st : St) (Q : Sig → FE → St → Prop) : ∀ (m n : Nat) (s : List UInt8) (e : FE), n < 10 ^ m → least ≤ s.length + m → n < 1000000000000000000 → s.length ≤ 1000 - m → m ≤ 100 → e 0 = .int .i64 (n : Int) → e 1 = .int .i64 (least : Int) → e 5 = .str s →
    (∀ e', e' 5 = .str (digF least m n s) → Q (.exit 0) e' st) → WLoop cx ir31L0 e st Q
  | 0, n, s, e, hn, hl, h18, hs, hm, h0, h1, h5, hQ => by
    refine WLoop.rnd (c := _) ir31L0.eq_1 ?_
    have hn0 : n = 0 := by simpa using hn
    have d1 : decide ((0 : Int) < (n : Int)) = false := decide_eq_false (by omega)
    have d2 : decide ((s.length : Int) < (least : Int)) = false := decide_eq_false (by omega)
    simp (config := {contextual := true, implicitDefEqProofs := false, maxSteps := 4000000}) only [go_sem, ↓reduceIte, Bool.false_eq_true, Nat.reduceEqDiff, Nat.reduceAdd, Int.reduceLE, Int.reduceLT, Int.reduceEq, Int.reduceToNat, Int.toNat_natCast, Int.cast_ofNat_Int, Int.natCast_one, Nat.reduceMod, Nat.reduceDiv, UInt8.reduceToNat, Nat.reduceLT, h0, h1, h5, d1, d2]
    exact hQ _ h5
  | m + 1, n, s, e, hn, hl, h18, hs, hm, h0, h1, h5, hQ => by
    refine WLoop.rnd (c := _) ir31L0.eq_1 ?_
    simp only [digF] at hQ
    by_cases hc : 0 < n ∨ s.length < least
    · rw [if_pos hc] at hQ
      have m1 : Int.tdiv (n : Int) 10 = ((n / 10 : Nat) : Int) := by rw [Int.tdiv_eq_ediv_of_nonneg (by omega)]; rfl
      have m2 : Int.tmod (n : Int) 10 = ((n % 10 : Nat) : Int) := by rw [Int.tmod_eq_emod_of_nonneg (by omega)]; rfl
      have w1 : IntKind.i64.wrap ((n / 10 : Nat) : Int) = ((n / 10 : Nat) : Int) := wrap_i64 (by omega) (by omega)
      have w2 : IntKind.i64.wrap ((n % 10 : Nat) : Int) = ((n % 10 : Nat) : Int) := wrap_i64 (by omega) (by omega)
      have w3 : IntKind.i64.wrap (48 + ((n % 10 : Nat) : Int)) = ((48 + n % 10 : Nat) : Int) := by rw [wrap_i64 (by omega) (by omega)]; omega
      have w4 : IntKind.u8.wrap ((48 + n % 10 : Nat) : Int) = ((48 + n % 10 : Nat) : Int) := by rw [wrap_u8]; omega
      have g1 : 1 + s.length ≤ 9223372036854775807 := by omega
      have kb : b2sA st (.slice [.int .u8 ((48 + n % 10 : Nat) : Int)] 1 .full) = some (.str [UInt8.ofNat (48 + n % 10)]) := by
        show ((if ([AV.int .u8 ((48 + n % 10 : Nat) : Int)].length = 1 * 1) then some [AV.int .u8 ((48 + n % 10 : Nat) : Int)] else none).bind bytesOf).map AV.str = _
        show some (AV.str [UInt8.ofNat (((48 + n % 10 : Nat) : Int).toNat)]) = _
        rw [Int.toNat_natCast]
      have ih := fun e a0 a1 a5 => l31 least hle st Q m (n / 10) (UInt8.ofNat (48 + n % 10) :: s) e (by rw [Nat.pow_succ] at hn; omega) (by simp only [List.length_cons]; omega) (by omega) (by simp only [List.length_cons]; omega) (by omega) a0 a1 a5 hQ
      by_cases h0n : 0 < n
      · have d1 : decide ((0 : Int) < (n : Int)) = true := decide_eq_true (by omega)
        simp (config := {contextual := true, implicitDefEqProofs := false, maxSteps := 4000000}) only [go_sem, ↓reduceIte, Bool.false_eq_true, Nat.reduceEqDiff, Nat.reduceAdd, Int.reduceLE, Int.reduceLT, Int.reduceEq, Int.reduceToNat, Int.toNat_natCast, Int.cast_ofNat_Int, Int.natCast_one, Nat.reduceMod, Nat.reduceDiv, UInt8.reduceToNat, Nat.reduceLT, h0, h1, h5, d1, m1, m2, w1, w2, w3, w4, kb, g1, List.length_cons, List.length_nil, Nat.zero_add]
        exact ih _ rfl h1 rfl
      · have d1 : decide ((0 : Int) < (n : Int)) = false := decide_eq_false (by omega)
        have d2 : decide ((s.length : Int) < (least : Int)) = true := decide_eq_true (by omega)
        simp (config := {contextual := true, implicitDefEqProofs := false, maxSteps := 4000000}) only [go_sem, ↓reduceIte, Bool.false_eq_true, Nat.reduceEqDiff, Nat.reduceAdd, Int.reduceLE, Int.reduceLT, Int.reduceEq, Int.reduceToNat, Int.toNat_natCast, Int.cast_ofNat_Int, Int.natCast_one, Nat.reduceMod, Nat.reduceDiv, UInt8.reduceToNat, Nat.reduceLT, h0, h1, h5, d1, d2, m1, m2, w1, w2, w3, w4, kb, g1, List.length_cons, List.length_nil, Nat.zero_add]
        exact ih _ rfl h1 rfl
    · rw [if_neg hc] at hQ
      have d1 : decide ((0 : Int) < (n : Int)) = false := decide_eq_false (by omega)
      have d2 : decide ((s.length : Int) < (least : Int)) = false := decide_eq_false (by omega)
      simp (config := {contextual := true, implicitDefEqProofs := false, maxSteps := 4000000}) only [go_sem, ↓reduceIte, Bool.false_eq_true, Nat.reduceEqDiff, Nat.reduceAdd, Int.reduceLE, Int.reduceLT, Int.reduceEq, Int.reduceToNat, Int.toNat_natCast, Int.cast_ofNat_Int, Int.natCast_one, Nat.reduceMod, Nat.reduceDiv, UInt8.reduceToNat, Nat.reduceLT, h0, h1, h5, d1, d2]
      exact hQ _ h5
theorem c31 (least : Nat) (hle : least ≤ 100) (m n : Nat) (hn : n < 10 ^ m) (hl : least ≤ m) (h18 : n < 1000000000000000000) (hm : m ≤ 100) (s : St) (K : AV → St → Prop) : CallW cx 31 [.int .i64 (n : Int), .int .i64 (least : Int)] s K = K (.str (digF least m n [])) s := by
  refine CallW.eq (CallW.fn' (fn := ir31) rfl rfl (by kernel_rfl) ir31.eq_1 ?_) K
  simp (config := {contextual := true, implicitDefEqProofs := false, maxSteps := 4000000}) only [go_sem, ↓reduceIte, Bool.false_eq_true, Nat.reduceEqDiff, Nat.reduceAdd, Int.reduceLE, Int.reduceLT, Int.reduceEq, Int.reduceToNat, Int.toNat_natCast, Int.cast_ofNat_Int, Int.natCast_one, Nat.reduceMod, Nat.reduceDiv, UInt8.reduceToNat, Nat.reduceLT]
  refine l31 least hle _ _ m n [] _ hn (by simpa using hl) h18 (by simp) hm rfl rfl rfl ?_
  intro e' h5
  simp (config := {contextual := true, implicitDefEqProofs := false, maxSteps := 4000000}) only [go_sem, ↓reduceIte, Bool.false_eq_true, Nat.reduceEqDiff, Nat.reduceAdd, Int.reduceLE, Int.reduceLT, Int.reduceEq, Int.reduceToNat, Int.toNat_natCast, Int.cast_ofNat_Int, Int.natCast_one, Nat.reduceMod, Nat.reduceDiv, UInt8.reduceToNat, Nat.reduceLT, h5]
theorem trim_snoc (p : UInt8 → Bool) (l : List UInt8) (c : UInt8) : trimR p (l ++ [c]) = if p c = true then trimR p l else l ++ [c] := by
  unfold trimR
  rw [List.reverse_append]
  simp only [List.reverse_cons, List.reverse_nil, List.nil_append, List.cons_append, List.dropWhile_cons]
  split
  · rfl
  · simp
theorem l30 (x : AV) (st : St) (Q : Sig → FE → St → Prop) : ∀ (k : Nat) (f : List UInt8) (e : FE), f.length ≤ k → k ≤ 1000 → e 3 = x → e 4 = .str f → (∀ e', e' 3 = x → e' 4 = .str (trimR (fun b => decide (b = 48)) f) → Q (.exit 0) e' st) → WLoop cx ir30L0 e st Q := by
  intro k
  induction k with
  | zero =>
    intro f e hk _ h3 h4 hQ
    refine WLoop.rnd (c := _) ir30L0.eq_1 ?_
    have : f = [] := List.eq_nil_of_length_eq_zero (by omega)
    subst this
    simp (config := {contextual := true, implicitDefEqProofs := false, maxSteps := 4000000}) only [go_sem, ↓reduceIte, Bool.false_eq_true, Nat.reduceEqDiff, Nat.reduceAdd, Int.reduceLE, Int.reduceLT, Int.reduceEq, Int.reduceToNat, Int.toNat_natCast, Int.cast_ofNat_Int, Int.natCast_one, Nat.reduceMod, Nat.reduceDiv, UInt8.reduceToNat, Nat.reduceLT, h4, List.length_nil, Int.natCast_zero, show decide ((0 : Int) < 0) = false from rfl]
    exact hQ _ h3 h4
  | succ k ih =>
    intro f e hk hk2 h3 h4 hQ
    rcases List.eq_nil_or_concat f with h | ⟨l, c, h⟩
    · subst h
      refine WLoop.rnd (c := _) ir30L0.eq_1 ?_
      simp (config := {contextual := true, implicitDefEqProofs := false, maxSteps := 4000000}) only [go_sem, ↓reduceIte, Bool.false_eq_true, Nat.reduceEqDiff, Nat.reduceAdd, Int.reduceLE, Int.reduceLT, Int.reduceEq, Int.reduceToNat, Int.toNat_natCast, Int.cast_ofNat_Int, Int.natCast_one, Nat.reduceMod, Nat.reduceDiv, UInt8.reduceToNat, Nat.reduceLT, h4, List.length_nil, Int.natCast_zero, show decide ((0 : Int) < 0) = false from rfl]
      exact hQ _ h3 h4
    · have hf : f = l ++ [c] := by simpa using h
      have hlen : f.length = l.length + 1 := by rw [hf]; simp
      have hg : f.getD l.length 0 = c := by rw [hf]; simp [List.getD]
      have ht : f.take l.length = l := by rw [hf]; simp
      rw [hf, trim_snoc] at hQ
      rw [← hf] at hQ
      refine WLoop.rnd (c := _) ir30L0.eq_1 ?_
      have d1 : decide ((0 : Int) < (f.length : Int)) = true := decide_eq_true (by omega)
      have w1 : IntKind.i64.wrap ((f.length : Int) - 1) = (l.length : Int) := by rw [wrap_i64 (by omega) (by omega)]; omega
      have b1 : (0 : Int) ≤ (l.length : Int) := by omega
      have b2 : (l.length : Int) < (f.length : Int) := by omega
      have b3 : (0 : Int) ≤ (l.length : Int) ∧ (l.length : Int) ≤ (f.length : Int) := by omega
      have f1 : decide (((c.toNat : Nat) : Int) = 48) = decide (c = 48) := eq_byte 48 c
      cases hc : decide (c = 48) with
      | true =>
        rw [hc] at f1 hQ
        rw [if_pos rfl] at hQ
        simp (config := {contextual := true, implicitDefEqProofs := false, maxSteps := 4000000}) only [go_sem, ↓reduceIte, Bool.false_eq_true, Nat.reduceEqDiff, Nat.reduceAdd, Int.reduceLE, Int.reduceLT, Int.reduceEq, Int.reduceToNat, Int.toNat_natCast, Int.cast_ofNat_Int, Int.natCast_one, Nat.reduceMod, Nat.reduceDiv, UInt8.reduceToNat, Nat.reduceLT, h4, d1, w1, b1, b2, b3, hg, f1, ht]
        exact ih l _ (by omega) (by omega) h3 rfl hQ
      | false =>
        rw [hc] at f1 hQ
        rw [if_neg (by decide)] at hQ
        simp (config := {contextual := true, implicitDefEqProofs := false, maxSteps := 4000000}) only [go_sem, ↓reduceIte, Bool.false_eq_true, Nat.reduceEqDiff, Nat.reduceAdd, Int.reduceLE, Int.reduceLT, Int.reduceEq, Int.reduceToNat, Int.toNat_natCast, Int.cast_ofNat_Int, Int.natCast_one, Nat.reduceMod, Nat.reduceDiv, UInt8.reduceToNat, Nat.reduceLT, h4, d1, w1, b1, b2, hg, f1]
        exact hQ _ h3 h4
theorem digF_dec (least : Nat) : ∀ (m n : Nat) (s : List UInt8), 0 < n → n < 10 ^ m → n < 18446744073709551616 → least ≤ s.length + 1 → digF least m n s = dec n ++ s
  | 0, n, s, h0, hn, _, _ => by simp at hn; omega
  | m + 1, n, s, h0, hn, h64, hl => by
    simp only [digF]
    rw [if_pos (.inl h0)]
    by_cases h10 : n < 10
    · have hz : n / 10 = 0 := by omega
      rw [hz]
      have hd : digF least m 0 (UInt8.ofNat (48 + n % 10) :: s) = UInt8.ofNat (48 + n % 10) :: s := by
        cases m with
        | zero => rfl
        | succ m =>
          simp only [digF]
          rw [if_neg (by simp only [List.length_cons]; omega)]
      rw [hd]
      have : ∀ i : Fin 10, dec i.val = [UInt8.ofNat (48 + i.val % 10)] := by decide +kernel
      have h2 := this ⟨n, h10⟩
      simp only at h2
      rw [h2]; rfl
    · rw [digF_dec least m (n / 10) _ (by omega) (by rw [Nat.pow_succ] at hn; omega) (by omega) (by simp only [List.length_cons]; omega)]
      have e1 : dec n = dec (n / 10) ++ [UInt8.ofNat (48 + n % 10)] := by
        unfold dec
        rw [if_neg (by omega), if_neg (by omega)]
        obtain ⟨a1, a2, a3, a4⟩ := nd_facts h64 h0
        obtain ⟨b1, b2, b3, b4⟩ := nd_facts (x := n / 10) (by omega) (by omega)
        have c1 : nd n - 1 < nd (n / 10) + 1 := by
          apply (Nat.pow_lt_pow_iff_right (by decide : 1 < 10)).1
          refine Nat.lt_of_le_of_lt a4 ?_
          rw [Nat.pow_succ]; omega
        have c2 : nd (n / 10) < nd n := by
          apply (Nat.pow_lt_pow_iff_right (by decide : 1 < 10)).1
          refine Nat.lt_of_le_of_lt ?_ a3
          have : 10 ^ nd (n / 10) = 10 ^ (nd (n / 10) - 1) * 10 := by rw [← Nat.pow_succ]; congr 1; omega
          omega
        have c3 : nd n = nd (n / 10) + 1 := by omega
        rw [c3, decB_succ]
      rw [e1]
      simp
theorem digF_1 (q : Nat) (h : q < 10000000000000) : digF 1 13 q [] = dec q := by
  by_cases h0 : q = 0
  · subst h0
    decide +kernel
  · rw [digF_dec 1 13 q [] (by omega) (by simpa using h) (by omega) (by simp), List.append_nil]
theorem digF_3 : ∀ r : Fin 1000, (if trimR (fun b => decide (b = 48)) (digF 3 3 r.val []) = [] then [] else 46 :: trimR (fun b => decide (b = 48)) (digF 3 3 r.val [])) = gS r.val ∧ (digF 3 3 r.val []).length ≤ 3 := by decide +kernel
theorem digF_2 : ∀ r : Fin 100, digF 2 2 r.val [] = twoB r.val ∧ (digF 2 2 r.val []).length ≤ 2 := by decide +kernel
theorem mil_len (m : Nat) (h : m ≤ 1000000000000) : (milB m).length ≤ 300 := by
  unfold milB
  have h4 := trimS_le 46 (trimR (fun b => decide (b = 48)) ((dec (m / 1000) ++ [46]) ++ (dec (1000 + m % 1000)).drop 1))
  have h5 := trimR_le (fun b => decide (b = 48)) ((dec (m / 1000) ++ [46]) ++ (dec (1000 + m % 1000)).drop 1)
  have h6 := dec_len (m / 1000) (by omega)
  have h7 := dec_len (1000 + m % 1000) (by omega)
  simp only [List.length_append, List.length_drop, List.length_cons, List.length_nil] at h5
  omega
theorem c30p (m : Nat) (hm : m ≤ 1000000000000) (s : St) (K : AV → St → Prop) : CallW cx 30 [.int .i64 (m : Int)] s K = K (.str (milB m)) s := by
  refine CallW.eq (CallW.fn' (fn := ir30) rfl rfl (by kernel_rfl) ir30.eq_1 ?_) K
  have d1 : decide ((m : Int) < 0) = false := decide_eq_false (by omega)
  have m1 : Int.tdiv (m : Int) 1000 = ((m / 1000 : Nat) : Int) := by rw [Int.tdiv_eq_ediv_of_nonneg (by omega)]; rfl
  have m2 : Int.tmod (m : Int) 1000 = ((m % 1000 : Nat) : Int) := by rw [Int.tmod_eq_emod_of_nonneg (by omega)]; rfl
  have w1 : IntKind.i64.wrap ((m / 1000 : Nat) : Int) = ((m / 1000 : Nat) : Int) := wrap_i64 (by omega) (by omega)
  have w2 : IntKind.i64.wrap ((m % 1000 : Nat) : Int) = ((m % 1000 : Nat) : Int) := wrap_i64 (by omega) (by omega)
  have k1 : ∀ st K, CallW cx 31 [.int .i64 ((m / 1000 : Nat) : Int), .int .i64 1] st K = K (.str (dec (m / 1000))) st := fun st K => by
    rw [← digF_1 (m / 1000) (by omega)]
    exact c31 1 (by decide) 13 (m / 1000) (by omega) (by decide) (by omega) (by decide) st K
  have k2 : ∀ st K, CallW cx 31 [.int .i64 ((m % 1000 : Nat) : Int), .int .i64 3] st K = K (.str (digF 3 3 (m % 1000) [])) st := fun st K => c31 3 (by decide) 3 (m % 1000) (by omega) (by decide) (by omega) (by decide) st K
  obtain ⟨hg, hgl⟩ := digF_3 ⟨m % 1000, Nat.mod_lt _ (by decide)⟩
  simp only at hg hgl
  have hql := dec_len (m / 1000) (by omega)
  rw [mil_eq, ← hg]
  generalize digF 3 3 (m % 1000) [] = f at *
  generalize dec (m / 1000) = q at *
  simp (config := {contextual := true, implicitDefEqProofs := false, maxSteps := 4000000}) only [go_sem, ↓reduceIte, Bool.false_eq_true, Nat.reduceEqDiff, Nat.reduceAdd, Int.reduceLE, Int.reduceLT, Int.reduceEq, Int.reduceToNat, Int.toNat_natCast, Int.cast_ofNat_Int, Int.natCast_one, Nat.reduceMod, Nat.reduceDiv, UInt8.reduceToNat, Nat.reduceLT, d1, m1, m2, w1, w2, k1, k2]
  refine l30 _ _ _ 3 f _ hgl (by decide) rfl rfl ?_
  intro e' h3 h4
  have hfl := trimR_le (fun b => decide (b = 48)) f
  generalize trimR (fun b => decide (b = 48)) f = g at *
  by_cases hz : g = []
  · have d2 : decide (g = []) = true := decide_eq_true hz
    rw [if_pos hz, List.append_nil]
    simp (config := {contextual := true, implicitDefEqProofs := false, maxSteps := 4000000}) only [go_sem, ↓reduceIte, Bool.false_eq_true, Nat.reduceEqDiff, Nat.reduceAdd, Int.reduceLE, Int.reduceLT, Int.reduceEq, Int.reduceToNat, Int.toNat_natCast, Int.cast_ofNat_Int, Int.natCast_one, Nat.reduceMod, Nat.reduceDiv, UInt8.reduceToNat, Nat.reduceLT, h3, h4, d2]
  · have d2 : decide (g = []) = false := decide_eq_false hz
    have g1 : q.length + 1 ≤ 9223372036854775807 := by omega
    have g2 : (q ++ [46]).length + g.length ≤ 9223372036854775807 := by simp only [List.length_append, List.length_cons, List.length_nil]; omega
    rw [if_neg hz]
    simp (config := {contextual := true, implicitDefEqProofs := false, maxSteps := 4000000}) only [go_sem, ↓reduceIte, Bool.false_eq_true, Nat.reduceEqDiff, Nat.reduceAdd, Int.reduceLE, Int.reduceLT, Int.reduceEq, Int.reduceToNat, Int.toNat_natCast, Int.cast_ofNat_Int, Int.natCast_one, Nat.reduceMod, Nat.reduceDiv, UInt8.reduceToNat, Nat.reduceLT, h3, h4, d2, g1, g2, List.length_cons, List.length_nil, Nat.zero_add]
    rw [List.append_assoc]; rfl
theorem c30 (n : Int) (h1 : -1000000000000 ≤ n) (h2 : n ≤ 1000000000000) (s : St) (K : AV → St → Prop) : CallW cx 30 [.int .i64 n] s K = K (.str ((if n < 0 then [45] else []) ++ milB n.natAbs)) s := by
  by_cases hn : n < 0
  · refine CallW.eq (CallW.fn' (fn := ir30) rfl rfl (by kernel_rfl) ir30.eq_1 ?_) K
    obtain ⟨m, hm⟩ : ∃ m, n.natAbs = m := ⟨_, rfl⟩
    rw [hm, if_pos hn]
    have d1 : decide (n < 0) = true := decide_eq_true hn
    have w1 : IntKind.i64.wrap (-n) = (m : Int) := by rw [wrap_i64 (by omega) (by omega)]; omega
    have w2 : IntKind.i64.wrap (0 - n) = (m : Int) := by rw [wrap_i64 (by omega) (by omega)]; omega
    have k := fun st K => c30p m (by omega) st K
    have hl : (milB m).length ≤ 300 := mil_len m (by omega)
    generalize milB m = y at *
    have g1 : 1 + y.length ≤ 9223372036854775807 := by omega
    simp (config := {contextual := true, implicitDefEqProofs := false, maxSteps := 4000000}) only [go_sem, ↓reduceIte, Bool.false_eq_true, Nat.reduceEqDiff, Nat.reduceAdd, Int.reduceLE, Int.reduceLT, Int.reduceEq, Int.reduceToNat, Int.toNat_natCast, Int.cast_ofNat_Int, Int.natCast_one, Nat.reduceMod, Nat.reduceDiv, UInt8.reduceToNat, Nat.reduceLT, d1, w1, w2, k, g1, List.length_cons, List.length_nil, Nat.zero_add]
  · rw [if_neg hn]
    obtain ⟨m, rfl⟩ : ∃ m : Nat, n = (m : Int) := ⟨n.toNat, by omega⟩
    rw [Int.natAbs_natCast]
    exact c30p m (by omega) s K
end T17

/- LexerTokens returns true for all tokens. -/
namespace T17
open Go Fw Go.Proofs
set_option maxRecDepth 100000
set_option maxHeartbeats 4000000
set_option linter.unusedSimpArgs false
set_option linter.unusedVariables false
theorem c11 (t : Tok) (hl : t.t.length ≤ 100000) (s : St) (K : AV → St → Prop) : CallW cx 11 [tokO t] s K = K (.tuple [.str (if validB t then spellB t else []), .int .i64 (if validB t then 0 else 1)]) s := by
  refine CallW.eq (CallW.fn' (fn := ir11) rfl rfl (by kernel_rfl) ir11.eq_1 ?_) K
  have k1 := fun st K => c13 t hl st K
  rw [valid_eq] at k1
  obtain ⟨k, a, n, p⟩ := t
  simp only at hl
  cases hv : validB ⟨k, a, n, p⟩ with
  | false =>
    rw [hv] at k1
    simp (config := {contextual := true, implicitDefEqProofs := false, maxSteps := 4000000}) only [go_sem, ↓reduceIte, Bool.false_eq_true, Nat.reduceEqDiff, Nat.reduceAdd, Int.reduceLE, Int.reduceLT, Int.reduceEq, Int.reduceToNat, Int.toNat_natCast, Int.cast_ofNat_Int, Int.natCast_one, Nat.reduceMod, Nat.reduceDiv, UInt8.reduceToNat, Nat.reduceLT, k1]
  | true =>
  rw [hv] at k1
  rw [if_pos rfl, if_pos rfl]
  unfold validB at hv
  unfold spellB
  simp only at hv ⊢
  by_cases h2 : k = 2
  · subst h2
    rw [if_pos rfl] at hv ⊢
    simp only [Bool.and_eq_true, decide_eq_true_eq] at hv
    have kd := fun st K => c30 n hv.2.1 hv.2.2 st K
    simp (config := {contextual := true, implicitDefEqProofs := false, maxSteps := 4000000}) only [go_sem, ↓reduceIte, Bool.false_eq_true, Nat.reduceEqDiff, Nat.reduceAdd, Int.reduceLE, Int.reduceLT, Int.reduceEq, Int.reduceToNat, Int.toNat_natCast, Int.cast_ofNat_Int, Int.natCast_one, Nat.reduceMod, Nat.reduceDiv, UInt8.reduceToNat, Nat.reduceLT, k1, kd, show decide ((2 : Int) = 2) = true from rfl]
  rw [if_neg h2] at hv ⊢
  have d2 : decide (k = 2) = false := decide_eq_false h2
  by_cases h4 : k = 4
  · subst h4
    rw [if_pos rfl] at hv ⊢
    simp only [Bool.and_eq_true, decide_eq_true_eq] at hv
    obtain ⟨_, hv1, hv2⟩ := hv
    obtain ⟨m, rfl⟩ : ∃ m : Nat, n = (m : Int) := ⟨n.toNat, by omega⟩
    rw [Int.natAbs_natCast]
    have m1 : Int.tdiv (m : Int) 60 = ((m / 60 : Nat) : Int) := by rw [Int.tdiv_eq_ediv_of_nonneg (by omega)]; rfl
    have m2 : Int.tmod (m : Int) 60 = ((m % 60 : Nat) : Int) := by rw [Int.tmod_eq_emod_of_nonneg (by omega)]; rfl
    have w1 : IntKind.i64.wrap ((m / 60 : Nat) : Int) = ((m / 60 : Nat) : Int) := wrap_i64 (by omega) (by omega)
    have w2 : IntKind.i64.wrap ((m % 60 : Nat) : Int) = ((m % 60 : Nat) : Int) := wrap_i64 (by omega) (by omega)
    obtain ⟨e1, l1⟩ := digF_2 ⟨m / 60, by omega⟩
    obtain ⟨e2, l2⟩ := digF_2 ⟨m % 60, by omega⟩
    simp only at e1 l1 e2 l2
    rw [e1] at l1
    rw [e2] at l2
    have kq : ∀ (st : St) (K : AV → St → Prop), CallW cx 31 [.int .i64 ((m / 60 : Nat) : Int), .int .i64 2] st K = K (.str (twoB (m / 60))) st := fun st K => by
      rw [← e1]; exact c31 2 (by decide) 2 (m / 60) (by omega) (by decide) (by omega) (by decide) st K
    have kr : ∀ (st : St) (K : AV → St → Prop), CallW cx 31 [.int .i64 ((m % 60 : Nat) : Int), .int .i64 2] st K = K (.str (twoB (m % 60))) st := fun st K => by
      rw [← e2]; exact c31 2 (by decide) 2 (m % 60) (by omega) (by decide) (by omega) (by decide) st K
    generalize twoB (m / 60) = x at *
    generalize twoB (m % 60) = y at *
    have g1 : x.length + 1 ≤ 9223372036854775807 := by omega
    have g2 : (x ++ [58]).length + y.length ≤ 9223372036854775807 := by simp only [List.length_append, List.length_cons, List.length_nil]; omega
    simp (config := {contextual := true, implicitDefEqProofs := false, maxSteps := 4000000}) only [go_sem, ↓reduceIte, Bool.false_eq_true, Nat.reduceEqDiff, Nat.reduceAdd, Int.reduceLE, Int.reduceLT, Int.reduceEq, Int.reduceToNat, Int.toNat_natCast, Int.cast_ofNat_Int, Int.natCast_one, Nat.reduceMod, Nat.reduceDiv, UInt8.reduceToNat, Nat.reduceLT, k1, m1, m2, w1, w2, kq, kr, g1, g2, List.length_cons, List.length_nil, Nat.zero_add, show decide ((4 : Int) = 2) = false from rfl, show decide ((4 : Int) = 3) = false from rfl, show decide ((4 : Int) = 4) = true from rfl]
  rw [if_neg h4]
  have d4 : decide (k = 4) = false := decide_eq_false h4
  by_cases h3 : k = 3
  · subst h3
    rw [if_pos rfl]
    have g2 : 1 + a.length ≤ 9223372036854775807 := by omega
    have g3 : ([34] ++ a).length + 1 ≤ 9223372036854775807 := by simp only [List.length_append, List.length_cons, List.length_nil]; omega
    have g4 : a.length + 1 + 1 ≤ 9223372036854775807 := by omega
    simp (config := {contextual := true, implicitDefEqProofs := false, maxSteps := 4000000}) only [go_sem, ↓reduceIte, Bool.false_eq_true, Nat.reduceEqDiff, Nat.reduceAdd, Int.reduceLE, Int.reduceLT, Int.reduceEq, Int.reduceToNat, Int.toNat_natCast, Int.cast_ofNat_Int, Int.natCast_one, Nat.reduceMod, Nat.reduceDiv, UInt8.reduceToNat, Nat.reduceLT, k1, g2, g3, g4, List.length_cons, List.length_nil, Nat.zero_add, show decide ((3 : Int) = 2) = false from rfl, show decide ((3 : Int) = 3) = true from rfl]
  rw [if_neg h3]
  have d3 : decide (k = 3) = false := decide_eq_false h3
  simp (config := {contextual := true, implicitDefEqProofs := false, maxSteps := 4000000}) only [go_sem, ↓reduceIte, Bool.false_eq_true, Nat.reduceEqDiff, Nat.reduceAdd, Int.reduceLE, Int.reduceLT, Int.reduceEq, Int.reduceToNat, Int.toNat_natCast, Int.cast_ofNat_Int, Int.natCast_one, Nat.reduceMod, Nat.reduceDiv, UInt8.reduceToNat, Nat.reduceLT, k1, d2, d4, d3]
theorem c6y (h : List (Nat × AObj)) (l : Nat) (K : AV → St → Prop) : CallW cx 6 [] { heap := h, next := 1, low := l } K = K (.bool true) { heap := h, next := 1, low := l } :=
  CallW.eq ⟨1000, _, _, awake_run1 h l, rfl, rfl⟩ K
theorem law4 (t : Tok) : CallW cx 4 [tokO t] { heap := [], next := 0, low := 0 } fun v _ => v = .bool true := by
  refine CallW.fn' (fn := ir4) rfl rfl (by kernel_rfl) ir4.eq_1 ?_
  obtain ⟨k, a, n, p⟩ := t
  by_cases h1 : 200 < a.length
  · have d1 : decide ((200 : Int) < (a.length : Int)) = true := decide_eq_true (by omega)
    simp (config := {contextual := true, implicitDefEqProofs := false, maxSteps := 4000000}) only [go_sem, ↓reduceIte, Bool.false_eq_true, Nat.reduceEqDiff, Nat.reduceAdd, Int.reduceLE, Int.reduceLT, Int.reduceEq, Int.reduceToNat, Int.toNat_natCast, Int.cast_ofNat_Int, Int.natCast_one, Nat.reduceMod, Nat.reduceDiv, UInt8.reduceToNat, Nat.reduceLT, c6y, d1]
  have d1 : decide ((200 : Int) < (a.length : Int)) = false := decide_eq_false (by omega)
  have k1 := fun st K => c10 ⟨k, a, n, p⟩ (by simp only; omega) st K
  have k2 := fun st K => c11 ⟨k, a, n, p⟩ (by simp only; omega) st K
  have k3 := fun st K => c12 ⟨k, a, n, p⟩ (by simp only; omega) st K
  have k4 := fun st K => c13 ⟨k, a, n, p⟩ (by simp only; omega) st K
  rw [valid_eq] at k4
  generalize validB ⟨k, a, n, p⟩ = v at *
  generalize (if v = true then spellB ⟨k, a, n, p⟩ else []) = x at *
  generalize (if v = true then (0 : Int) else 1) = y at *
  have z1 : ∀ u : List UInt8, decide (u = u) = true := fun u => by simp
  have z2 : ∀ u : Int, decide (u = u) = true := fun u => by simp
  have z3 : ∀ u : Bool, (u == u) = true := fun u => by simp
  simp (config := {contextual := true, implicitDefEqProofs := false, maxSteps := 4000000}) only [go_sem, ↓reduceIte, Bool.false_eq_true, Nat.reduceEqDiff, Nat.reduceAdd, Int.reduceLE, Int.reduceLT, Int.reduceEq, Int.reduceToNat, Int.toNat_natCast, Int.cast_ofNat_Int, Int.natCast_one, Nat.reduceMod, Nat.reduceDiv, UInt8.reduceToNat, Nat.reduceLT, c6y, d1, k1, k2, k3, k4, z1, z2, z3]
theorem TyArg_tok {a : AV} (h : TyArg Tryz.prog 37 a) : ∃ t : Tok, a = tokO t := by
  obtain ⟨f0, cs, rfl, hf⟩ := TyArg_struct Tryz.underlying37 h
  obtain ⟨p1, q1, e1, h5, _, p2, q2, rfl, h6, _, p3, q3, rfl, h7, _, p4, q4, rfl, h8, _, rfl⟩ := hf
  rw [e1]
  obtain ⟨k, rfl, _⟩ := Ty_int Tryz.underlying3 h5
  obtain ⟨t, rfl, _⟩ := Ty_string Tryz.underlying9 h6
  obtain ⟨n, rfl, _⟩ := Ty_int Tryz.underlying2 h7
  obtain ⟨m, rfl, _⟩ := Ty_int Tryz.underlying3 h8
  exact ⟨⟨k, t, n, m⟩, rfl⟩
theorem hlaw4 (as0 : List AV) (h : TyArgs Tryz.prog Tryz.f4.params.toList as0) : ∃ k s', callF cx k 4 as0 st0 = some (.bool true, s') := by
  obtain ⟨a1, r1, rfl, h1, h6⟩ : ∃ a1 r1, as0 = a1 :: r1 ∧ TyArg Tryz.prog 37 a1 ∧ r1 = [] := h
  subst h6
  obtain ⟨t, rfl⟩ := TyArg_tok h1
  obtain ⟨k', v, s', h9, rfl⟩ := law4 t
  exact ⟨k', s', h9⟩
end T17

/- The table that the runs read is what the rows list. -/
namespace T17
open Go Fw Go.Proofs Go.RowKit
set_option maxRecDepth 100000
theorem tabEq : (Go.Proofs.YtljlkedecdgimaaGreatDoor.Rows.laid_internal_strconv_uint64pow10 : DataW Unit) = Lib.tabData .u64 pows := rfl
theorem hgl : ∀ W, laidMetH Tryz.prog Go.Proofs.YtljlkedecdgimaaGreatDoor.Rows.lexerTokensRow.laid W → ∀ n cs, cx.gl n = some cs → alAll (fun _ => false) cs = true ∧ RC (firstGh W) cs n 0 := by
  intro W h n cs hn
  change gls n = some cs at hn
  unfold gls at hn
  split at hn <;> cases hn
  exact laid_tab (name := "internal/strconv.uint64pow10") h (by rw [← tabEq]; simp [Go.Proofs.YtljlkedecdgimaaGreatDoor.Rows.lexerTokensRow]) (by kernel_rfl) (by kernel_rfl) Tryz.underlying106 Tryz.underlying93 (by kernel_rfl) (by kernel_rfl)
end T17
