/- Parts of the proof, one behind the other. -/
import Derived.Test.YteaoeaapmjeciaaGreatDoorK38a
import Derived.Test.YteaoeaapmjeciaaGreatDoorFwX
set_option linter.unusedSimpArgs false
set_option linter.unusedVariables false

/- The lexer's names, paths, splits. -/
namespace T18
open Go Fw Go.Proofs
set_option maxRecDepth 100000
set_option maxHeartbeats 4000000
set_option linter.unusedSimpArgs false
set_option linter.unusedVariables false
def isLow (b : UInt8) : Bool := decide (97 ≤ b.toNat) && decide (b.toNat ≤ 122)
end T18


/- The reference's names, paths, labels. -/
namespace T18
open Go Fw Go.Proofs
set_option maxRecDepth 100000
set_option maxHeartbeats 4000000
set_option linter.unusedSimpArgs false
set_option linter.unusedVariables false
theorem c59 (b : UInt8) (s : St) (K : AV → St → Prop) : CallW cx 59 [.int .u8 b.toNat] s K = K (.bool (isLow b)) s := by
  refine CallW.eq (CallW.fn' (fn := ir59) rfl rfl (by kernel_rfl) ir59.eq_1 ?_) K
  have h1 : decide ((97 : Int) ≤ ((b.toNat : Nat) : Int)) = decide (97 ≤ b.toNat) := le_nat 97 b
  have h2 : decide (((b.toNat : Nat) : Int) ≤ (122 : Int)) = decide (b.toNat ≤ 122) := nat_le 122 b
  unfold isLow
  cases e1 : decide (97 ≤ b.toNat) <;> (rw [e1] at h1; simp (config := {contextual := true, implicitDefEqProofs := false, maxSteps := 4000000}) only [go_sem, ↓reduceIte, Bool.false_eq_true, Nat.reduceEqDiff, Nat.reduceAdd, Int.reduceLE, Int.reduceLT, Int.reduceEq, Int.reduceToNat, Int.toNat_natCast, Int.cast_ofNat_Int, Int.natCast_one, Nat.reduceMod, Nat.reduceDiv, UInt8.reduceToNat, Nat.reduceLT, h1, h2])
theorem c44 (b : UInt8) (s : St) (K : AV → St → Prop) : CallW cx 44 [.int .u8 b.toNat] s K = K (.bool (isD b)) s := by
  refine CallW.eq (CallW.fn' (fn := ir44) rfl rfl (by kernel_rfl) ir44.eq_1 ?_) K
  have h1 : decide ((48 : Int) ≤ ((b.toNat : Nat) : Int)) = decide (48 ≤ b.toNat) := le_nat 48 b
  have h2 : decide (((b.toNat : Nat) : Int) ≤ (57 : Int)) = decide (b.toNat ≤ 57) := nat_le 57 b
  unfold isD
  cases e1 : decide (48 ≤ b.toNat) <;> (rw [e1] at h1; simp (config := {contextual := true, implicitDefEqProofs := false, maxSteps := 4000000}) only [go_sem, ↓reduceIte, Bool.false_eq_true, Nat.reduceEqDiff, Nat.reduceAdd, Int.reduceLE, Int.reduceLT, Int.reduceEq, Int.reduceToNat, Int.toNat_natCast, Int.cast_ofNat_Int, Int.natCast_one, Nat.reduceMod, Nat.reduceDiv, UInt8.reduceToNat, Nat.reduceLT, h1, h2])
theorem byte_is (n : UInt8) (b : UInt8) : decide (((b.toNat : Nat) : Int) = ((n.toNat : Nat) : Int)) = decide (b = n) := by
  rw [Bool.eq_iff_iff, decide_eq_true_eq, decide_eq_true_eq]
  exact ⟨fun h => byte_eq h, fun h => by rw [h]⟩
theorem byte_isnt (n : UInt8) (b : UInt8) : decide (((b.toNat : Nat) : Int) ≠ ((n.toNat : Nat) : Int)) = !decide (b = n) := by
  rw [← byte_is n b]; simp
theorem l47 (a : List UInt8) (hl : a.length ≤ 4611686018427387904) (st : St) (Q : Sig → FE → St → Prop) : ∀ (n i : Nat) (e : FE), i + n = a.length → e 0 = .str a → e 3 = .int .i64 (i : Int) → ((a.drop i).all isPl = true → ∀ e', Q (.exit 0) e' st) → ((a.drop i).all isPl = false → ∀ e', e' 2 = .bool false → Q .ret e' st) → WLoop cx ir47L0 e st Q
  | 0, i, e, hi, h0, h3, hA, hB => by
    refine WLoop.rnd (c := _) ir47L0.eq_1 ?_
    have hd : decide ((i : Int) < (a.length : Int)) = false := decide_eq_false (by omega)
    rw [List.drop_eq_nil_of_le (by omega)] at hA
    simp (config := {contextual := true, implicitDefEqProofs := false, maxSteps := 4000000}) only [go_sem, ↓reduceIte, Bool.false_eq_true, Nat.reduceEqDiff, Nat.reduceAdd, Int.reduceLE, Int.reduceLT, Int.reduceEq, Int.reduceToNat, Int.toNat_natCast, Int.cast_ofNat_Int, Int.natCast_one, Nat.reduceMod, Nat.reduceDiv, UInt8.reduceToNat, Nat.reduceLT, h0, h3, hd]
    exact hA rfl _
  | n + 1, i, e, hi, h0, h3, hA, hB => by
    refine WLoop.rnd (c := _) ir47L0.eq_1 ?_
    have hd : decide ((i : Int) < (a.length : Int)) = true := decide_eq_true (by omega)
    have b1 : (0 : Int) ≤ (i : Int) := by omega
    have b2 : (i : Int) < (a.length : Int) := by omega
    have hw := wrap_one (i := i) (by omega)
    have ih := fun e x0 x3 => l47 a hl st Q n (i + 1) e (by omega) x0 x3
    rw [drop_at (show i < a.length by omega)] at hA hB
    obtain ⟨b, hb⟩ : ∃ b, a.getD i 0 = b := ⟨_, rfl⟩
    rw [hb] at hA hB
    simp only [List.all_cons] at hA hB
    have f1 : decide (((b.toNat : Nat) : Int) < 32) = !decide (32 ≤ b.toNat) := by rw [← decide_not]; exact decide_eq_decide.2 (by omega)
    have f2 : decide ((126 : Int) < ((b.toNat : Nat) : Int)) = !decide (b.toNat ≤ 126) := by rw [← decide_not]; exact decide_eq_decide.2 (by omega)
    have qb : isPl b = (decide (32 ≤ b.toNat) && decide (b.toNat ≤ 126)) := rfl
    rw [qb] at hA hB
    cases e1 : decide (32 ≤ b.toNat) with
    | false =>
      rw [e1] at f1 hB
      simp (config := {contextual := true, implicitDefEqProofs := false, maxSteps := 4000000}) only [go_sem, ↓reduceIte, Bool.false_eq_true, Nat.reduceEqDiff, Nat.reduceAdd, Int.reduceLE, Int.reduceLT, Int.reduceEq, Int.reduceToNat, Int.toNat_natCast, Int.cast_ofNat_Int, Int.natCast_one, Nat.reduceMod, Nat.reduceDiv, UInt8.reduceToNat, Nat.reduceLT, h0, h3, hd, b1, b2, hb, f1, hw]
      exact hB rfl _ rfl
    | true =>
    cases e2 : decide (b.toNat ≤ 126) with
    | false =>
      rw [e1] at f1 hB
      rw [e2] at f2 hB
      simp (config := {contextual := true, implicitDefEqProofs := false, maxSteps := 4000000}) only [go_sem, ↓reduceIte, Bool.false_eq_true, Nat.reduceEqDiff, Nat.reduceAdd, Int.reduceLE, Int.reduceLT, Int.reduceEq, Int.reduceToNat, Int.toNat_natCast, Int.cast_ofNat_Int, Int.natCast_one, Nat.reduceMod, Nat.reduceDiv, UInt8.reduceToNat, Nat.reduceLT, h0, h3, hd, b1, b2, hb, f1, f2, hw]
      exact hB rfl _ rfl
    | true =>
      rw [e1] at f1 hA hB
      rw [e2] at f2 hA hB
      simp (config := {contextual := true, implicitDefEqProofs := false, maxSteps := 4000000}) only [go_sem, ↓reduceIte, Bool.false_eq_true, Nat.reduceEqDiff, Nat.reduceAdd, Int.reduceLE, Int.reduceLT, Int.reduceEq, Int.reduceToNat, Int.toNat_natCast, Int.cast_ofNat_Int, Int.natCast_one, Nat.reduceMod, Nat.reduceDiv, UInt8.reduceToNat, Nat.reduceLT, h0, h3, hd, b1, b2, hb, f1, f2, hw]
      exact ih _ h0 rfl (fun h => hA (by simpa using h)) (fun h => hB (by simpa using h))
theorem c47 (a : List UInt8) (hl : a.length ≤ 4611686018427387904) (s : St) (K : AV → St → Prop) : CallW cx 47 [.str a] s K = K (.bool (a.all isPl)) s := by
  refine CallW.eq (CallW.fn' (fn := ir47) rfl rfl (by kernel_rfl) ir47.eq_1 ?_) K
  simp (config := {contextual := true, implicitDefEqProofs := false, maxSteps := 4000000}) only [go_sem, ↓reduceIte, Bool.false_eq_true, Nat.reduceEqDiff, Nat.reduceAdd, Int.reduceLE, Int.reduceLT, Int.reduceEq, Int.reduceToNat, Int.toNat_natCast, Int.cast_ofNat_Int, Int.natCast_one, Nat.reduceMod, Nat.reduceDiv, UInt8.reduceToNat, Nat.reduceLT]
  refine l47 a hl _ _ a.length 0 _ (by omega) rfl rfl ?_ ?_
  · intro h e'
    have h : a.all isPl = true := h
    rw [h]
    simp (config := {contextual := true, implicitDefEqProofs := false, maxSteps := 4000000}) only [go_sem, ↓reduceIte, Bool.false_eq_true, Nat.reduceEqDiff, Nat.reduceAdd, Int.reduceLE, Int.reduceLT, Int.reduceEq, Int.reduceToNat, Int.toNat_natCast, Int.cast_ofNat_Int, Int.natCast_one, Nat.reduceMod, Nat.reduceDiv, UInt8.reduceToNat, Nat.reduceLT]
  · intro h e' h2
    have h : a.all isPl = false := h
    rw [h]
    simp (config := {contextual := true, implicitDefEqProofs := false, maxSteps := 4000000}) only [go_sem, ↓reduceIte, Bool.false_eq_true, Nat.reduceEqDiff, Nat.reduceAdd, Int.reduceLE, Int.reduceLT, Int.reduceEq, Int.reduceToNat, Int.toNat_natCast, Int.cast_ofNat_Int, Int.natCast_one, Nat.reduceMod, Nat.reduceDiv, UInt8.reduceToNat, Nat.reduceLT, h2]
def noQ (b : UInt8) : Bool := !decide (b = 34)
theorem noQ_all : ∀ (a : List UInt8) (i : Nat), a.all noQ = !decide (0 ≤ findByte 34 a i)
  | [], i => rfl
  | b :: l, i => by
    have ih := noQ_all l (i + 1)
    have e : (b :: l).all noQ = (!decide (b = 34) && l.all noQ) := rfl
    have f : findByte 34 (b :: l) i = if b = 34 then (i : Int) else findByte 34 l (i + 1) := rfl
    by_cases h : b = 34
    · rw [if_pos h] at f
      rw [e, f, decide_eq_true h, decide_eq_true (show (0 : Int) ≤ (i : Int) by omega)]; rfl
    · rw [if_neg h] at f
      rw [e, f, decide_eq_false h, ih]; rfl
theorem l48 (a : List UInt8) (hl : a.length ≤ 4611686018427387904) (st : St) (Q : Sig → FE → St → Prop) : ∀ (n i : Nat) (e : FE), i + n = a.length → e 0 = .str a → e 3 = .int .i64 (i : Int) → ((a.drop i).all noQ = true → ∀ e', Q (.exit 0) e' st) → ((a.drop i).all noQ = false → ∀ e', e' 2 = .bool false → Q .ret e' st) → WLoop cx ir48L0 e st Q
  | 0, i, e, hi, h0, h3, hA, hB => by
    refine WLoop.rnd (c := _) ir48L0.eq_1 ?_
    have hd : decide ((i : Int) < (a.length : Int)) = false := decide_eq_false (by omega)
    rw [List.drop_eq_nil_of_le (by omega)] at hA
    simp (config := {contextual := true, implicitDefEqProofs := false, maxSteps := 4000000}) only [go_sem, ↓reduceIte, Bool.false_eq_true, Nat.reduceEqDiff, Nat.reduceAdd, Int.reduceLE, Int.reduceLT, Int.reduceEq, Int.reduceToNat, Int.toNat_natCast, Int.cast_ofNat_Int, Int.natCast_one, Nat.reduceMod, Nat.reduceDiv, UInt8.reduceToNat, Nat.reduceLT, h0, h3, hd]
    exact hA rfl _
  | n + 1, i, e, hi, h0, h3, hA, hB => by
    refine WLoop.rnd (c := _) ir48L0.eq_1 ?_
    have hd : decide ((i : Int) < (a.length : Int)) = true := decide_eq_true (by omega)
    have b1 : (0 : Int) ≤ (i : Int) := by omega
    have b2 : (i : Int) < (a.length : Int) := by omega
    have hw := wrap_one (i := i) (by omega)
    have ih := fun e x0 x3 => l48 a hl st Q n (i + 1) e (by omega) x0 x3
    rw [drop_at (show i < a.length by omega)] at hA hB
    obtain ⟨b, hb⟩ : ∃ b, a.getD i 0 = b := ⟨_, rfl⟩
    rw [hb] at hA hB
    simp only [List.all_cons] at hA hB
    have f1 : decide (((b.toNat : Nat) : Int) = 34) = decide (b = 34) := byte_is 34 b
    have qb : noQ b = !decide (b = 34) := rfl
    rw [qb] at hA hB
    cases e1 : decide (b = 34) with
    | true =>
      rw [e1] at f1 hB
      simp (config := {contextual := true, implicitDefEqProofs := false, maxSteps := 4000000}) only [go_sem, ↓reduceIte, Bool.false_eq_true, Nat.reduceEqDiff, Nat.reduceAdd, Int.reduceLE, Int.reduceLT, Int.reduceEq, Int.reduceToNat, Int.toNat_natCast, Int.cast_ofNat_Int, Int.natCast_one, Nat.reduceMod, Nat.reduceDiv, UInt8.reduceToNat, Nat.reduceLT, h0, h3, hd, b1, b2, hb, f1, hw]
      exact hB rfl _ rfl
    | false =>
      rw [e1] at f1 hA hB
      simp (config := {contextual := true, implicitDefEqProofs := false, maxSteps := 4000000}) only [go_sem, ↓reduceIte, Bool.false_eq_true, Nat.reduceEqDiff, Nat.reduceAdd, Int.reduceLE, Int.reduceLT, Int.reduceEq, Int.reduceToNat, Int.toNat_natCast, Int.cast_ofNat_Int, Int.natCast_one, Nat.reduceMod, Nat.reduceDiv, UInt8.reduceToNat, Nat.reduceLT, h0, h3, hd, b1, b2, hb, f1, hw]
      exact ih _ h0 rfl (fun h => hA (by simpa using h)) (fun h => hB (by simpa using h))
theorem c48 (a : List UInt8) (hl : a.length ≤ 4611686018427387904) (s : St) (K : AV → St → Prop) : CallW cx 48 [.str a] s K = K (.bool (labB a)) s := by
  refine CallW.eq (CallW.fn' (fn := ir48) rfl rfl (by kernel_rfl) ir48.eq_1 ?_) K
  have kp := fun st K => c47 a hl st K
  unfold labB
  by_cases h1 : 1 ≤ a.length
  case neg =>
    have d1 : decide ((a.length : Int) < 1) = true := decide_eq_true (by omega)
    rw [decide_eq_false h1]
    simp (config := {contextual := true, implicitDefEqProofs := false, maxSteps := 4000000}) only [go_sem, ↓reduceIte, Bool.false_eq_true, Nat.reduceEqDiff, Nat.reduceAdd, Int.reduceLE, Int.reduceLT, Int.reduceEq, Int.reduceToNat, Int.toNat_natCast, Int.cast_ofNat_Int, Int.natCast_one, Nat.reduceMod, Nat.reduceDiv, UInt8.reduceToNat, Nat.reduceLT, d1]
  have d1 : decide ((a.length : Int) < 1) = false := decide_eq_false (by omega)
  rw [decide_eq_true h1]
  by_cases h2 : a.length ≤ 40
  case neg =>
    have d2 : decide ((40 : Int) < (a.length : Int)) = true := decide_eq_true (by omega)
    rw [decide_eq_false h2]
    simp (config := {contextual := true, implicitDefEqProofs := false, maxSteps := 4000000}) only [go_sem, ↓reduceIte, Bool.false_eq_true, Nat.reduceEqDiff, Nat.reduceAdd, Int.reduceLE, Int.reduceLT, Int.reduceEq, Int.reduceToNat, Int.toNat_natCast, Int.cast_ofNat_Int, Int.natCast_one, Nat.reduceMod, Nat.reduceDiv, UInt8.reduceToNat, Nat.reduceLT, d1, d2]
  have d2 : decide ((40 : Int) < (a.length : Int)) = false := decide_eq_false (by omega)
  rw [decide_eq_true h2]
  cases h3 : a.all isPl with
  | false =>
    rw [h3] at kp
    simp (config := {contextual := true, implicitDefEqProofs := false, maxSteps := 4000000}) only [go_sem, ↓reduceIte, Bool.false_eq_true, Nat.reduceEqDiff, Nat.reduceAdd, Int.reduceLE, Int.reduceLT, Int.reduceEq, Int.reduceToNat, Int.toNat_natCast, Int.cast_ofNat_Int, Int.natCast_one, Nat.reduceMod, Nat.reduceDiv, UInt8.reduceToNat, Nat.reduceLT, d1, d2, kp]
  | true =>
    rw [h3] at kp
    have b1 : (0 : Int) < (a.length : Int) := by omega
    have w1 : IntKind.i64.wrap ((a.length : Int) - 1) = ((a.length - 1 : Nat) : Int) := by rw [wrap_i64 (by omega) (by omega)]; omega
    have b2 : (0 : Int) ≤ ((a.length - 1 : Nat) : Int) := by omega
    have b3 : ((a.length - 1 : Nat) : Int) < (a.length : Int) := by omega
    obtain ⟨x, hx⟩ : ∃ b, a.getD 0 0 = b := ⟨_, rfl⟩
    obtain ⟨y, hy⟩ : ∃ b, a.getD (a.length - 1) 0 = b := ⟨_, rfl⟩
    have f1 : decide (((x.toNat : Nat) : Int) = 32) = decide (x = 32) := byte_is 32 x
    have f2 : decide (((y.toNat : Nat) : Int) = 32) = decide (y = 32) := byte_is 32 y
    rw [hx, hy, ← noQ_all a 0]
    have hn := noQ_all a 0
    by_cases e1 : x = 32
    · rw [decide_eq_true e1] at f1
      rw [decide_eq_false (show ¬ x ≠ 32 by simp [e1]), Bool.false_and, Bool.and_false]
      simp (config := {contextual := true, implicitDefEqProofs := false, maxSteps := 4000000}) only [go_sem, ↓reduceIte, Bool.false_eq_true, Nat.reduceEqDiff, Nat.reduceAdd, Int.reduceLE, Int.reduceLT, Int.reduceEq, Int.reduceToNat, Int.toNat_natCast, Int.cast_ofNat_Int, Int.natCast_one, Nat.reduceMod, Nat.reduceDiv, UInt8.reduceToNat, Nat.reduceLT, d1, d2, kp, b1, hx, f1]
    rw [decide_eq_false e1] at f1
    rw [decide_eq_true (show x ≠ 32 from e1)]
    by_cases e2 : y = 32
    · rw [decide_eq_true e2] at f2
      rw [decide_eq_false (show ¬ y ≠ 32 by simp [e2]), Bool.and_false, Bool.and_false]
      simp (config := {contextual := true, implicitDefEqProofs := false, maxSteps := 4000000}) only [go_sem, ↓reduceIte, Bool.false_eq_true, Nat.reduceEqDiff, Nat.reduceAdd, Int.reduceLE, Int.reduceLT, Int.reduceEq, Int.reduceToNat, Int.toNat_natCast, Int.cast_ofNat_Int, Int.natCast_one, Nat.reduceMod, Nat.reduceDiv, UInt8.reduceToNat, Nat.reduceLT, d1, d2, kp, b1, hx, f1, w1, b2, b3, hy, f2]
    rw [decide_eq_false e2] at f2
    rw [decide_eq_true (show y ≠ 32 from e2)]
    simp (config := {contextual := true, implicitDefEqProofs := false, maxSteps := 4000000}) only [go_sem, ↓reduceIte, Bool.false_eq_true, Nat.reduceEqDiff, Nat.reduceAdd, Int.reduceLE, Int.reduceLT, Int.reduceEq, Int.reduceToNat, Int.toNat_natCast, Int.cast_ofNat_Int, Int.natCast_one, Nat.reduceMod, Nat.reduceDiv, UInt8.reduceToNat, Nat.reduceLT, d1, d2, kp, b1, hx, f1, w1, b2, b3, hy, f2]
    refine l48 a hl _ _ a.length 0 _ (by omega) rfl rfl ?_ ?_
    · intro h e'
      have h : a.all noQ = true := h
      rw [h]
      simp (config := {contextual := true, implicitDefEqProofs := false, maxSteps := 4000000}) only [go_sem, ↓reduceIte, Bool.false_eq_true, Nat.reduceEqDiff, Nat.reduceAdd, Int.reduceLE, Int.reduceLT, Int.reduceEq, Int.reduceToNat, Int.toNat_natCast, Int.cast_ofNat_Int, Int.natCast_one, Nat.reduceMod, Nat.reduceDiv, UInt8.reduceToNat, Nat.reduceLT]
    · intro h e' h2
      have h : a.all noQ = false := h
      rw [h]
      simp (config := {contextual := true, implicitDefEqProofs := false, maxSteps := 4000000}) only [go_sem, ↓reduceIte, Bool.false_eq_true, Nat.reduceEqDiff, Nat.reduceAdd, Int.reduceLE, Int.reduceLT, Int.reduceEq, Int.reduceToNat, Int.toNat_natCast, Int.cast_ofNat_Int, Int.natCast_one, Nat.reduceMod, Nat.reduceDiv, UInt8.reduceToNat, Nat.reduceLT, h2]
end T18


/- The reference's numbers and fields. -/
namespace T18
open Go Fw Go.Proofs
set_option maxRecDepth 100000
set_option maxHeartbeats 4000000
set_option linter.unusedSimpArgs false
set_option linter.unusedVariables false
/-- The value of digits, as far as the reference reckons. -/
def numC : List UInt8 → Nat → Nat
  | [], n => n
  | b :: l, n => numC l (if n < 10000000000000 then 10 * n + (b.toNat - 48) else n)
def numR (a : List UInt8) : Int := if a ≠ [] ∧ a.all isD = true then (numC a 0 : Int) else -1
theorem numC_lt : ∀ (l : List UInt8) (n : Nat), l.all isD = true → n < 100000000000000 → numC l n < 100000000000000
  | [], n, _, h => h
  | b :: l, n, ha, h => by
    simp only [List.all_cons, Bool.and_eq_true] at ha
    simp only [numC]
    refine numC_lt l _ ha.2 ?_
    have hb : b.toNat - 48 ≤ 9 := by
      have := ha.1; unfold isD at this; simp only [Bool.and_eq_true, decide_eq_true_eq] at this; omega
    split <;> omega
theorem byte_dig {b : UInt8} (h : isD b = true) : IntKind.i64.wrap (IntKind.u8.wrap ((b.toNat : Int) - 48)) = ((b.toNat - 48 : Nat) : Int) := (dg_le h).2.2
theorem l60 (a : List UInt8) (hl : a.length ≤ 4611686018427387904) (st : St) (Q : Sig → FE → St → Prop) : ∀ (k i n : Nat) (e : FE), i + k = a.length → n < 100000000000000 → e 0 = .str a → e 3 = .int .i64 (n : Int) → e 4 = .int .i64 (i : Int) →
    ((a.drop i).all isD = true → ∀ e', e' 3 = .int .i64 (numC (a.drop i) n : Int) → Q (.exit 0) e' st) → ((a.drop i).all isD = false → ∀ e', e' 2 = .int .i64 (-1) → Q .ret e' st) → WLoop cx ir60L0 e st Q
  | 0, i, n, e, hi, hn, h0, h3, h4, hA, hB => by
    refine WLoop.rnd (c := _) ir60L0.eq_1 ?_
    have hd : decide ((i : Int) < (a.length : Int)) = false := decide_eq_false (by omega)
    rw [List.drop_eq_nil_of_le (by omega)] at hA
    simp (config := {contextual := true, implicitDefEqProofs := false, maxSteps := 4000000}) only [go_sem, ↓reduceIte, Bool.false_eq_true, Nat.reduceEqDiff, Nat.reduceAdd, Int.reduceLE, Int.reduceLT, Int.reduceEq, Int.reduceToNat, Int.toNat_natCast, Int.cast_ofNat_Int, Int.natCast_one, Nat.reduceMod, Nat.reduceDiv, UInt8.reduceToNat, Nat.reduceLT, h0, h4, hd]
    exact hA rfl _ h3
  | k + 1, i, n, e, hi, hn, h0, h3, h4, hA, hB => by
    refine WLoop.rnd (c := _) ir60L0.eq_1 ?_
    have hd : decide ((i : Int) < (a.length : Int)) = true := decide_eq_true (by omega)
    have b1 : (0 : Int) ≤ (i : Int) := by omega
    have b2 : (i : Int) < (a.length : Int) := by omega
    have hw := wrap_one (i := i) (by omega)
    have ih := fun n e hn x0 x3 x4 => l60 a hl st Q k (i + 1) n e (by omega) hn x0 x3 x4
    rw [drop_at (show i < a.length by omega)] at hA hB
    obtain ⟨b, hb⟩ : ∃ b, a.getD i 0 = b := ⟨_, rfl⟩
    rw [hb] at hA hB
    simp only [List.all_cons, numC] at hA hB
    cases e1 : isD b with
    | false =>
      rw [e1] at hB
      simp (config := {contextual := true, implicitDefEqProofs := false, maxSteps := 4000000}) only [go_sem, ↓reduceIte, Bool.false_eq_true, Nat.reduceEqDiff, Nat.reduceAdd, Int.reduceLE, Int.reduceLT, Int.reduceEq, Int.reduceToNat, Int.toNat_natCast, Int.cast_ofNat_Int, Int.natCast_one, Nat.reduceMod, Nat.reduceDiv, UInt8.reduceToNat, Nat.reduceLT, h0, h4, hd, b1, b2, hb, c44, e1]
      exact hB rfl _ rfl
    | true =>
      rw [e1] at hA hB
      have hbd := byte_dig e1
      have hb9 : b.toNat - 48 ≤ 9 := by
        have := e1; unfold isD at this; simp only [Bool.and_eq_true, decide_eq_true_eq] at this; omega
      by_cases h13 : n < 10000000000000
      · have d2 : decide ((n : Int) < 10000000000000) = true := decide_eq_true (by omega)
        have w1 : IntKind.i64.wrap (10 * (n : Int)) = ((10 * n : Nat) : Int) := by rw [wrap_i64 (by omega) (by omega)]; omega
        have w2 : IntKind.i64.wrap (((10 * n : Nat) : Int) + ((b.toNat - 48 : Nat) : Int)) = ((10 * n + (b.toNat - 48) : Nat) : Int) := by rw [wrap_i64 (by omega) (by omega)]; omega
        rw [if_pos h13] at hA
        simp (config := {contextual := true, implicitDefEqProofs := false, maxSteps := 4000000}) only [go_sem, ↓reduceIte, Bool.false_eq_true, Nat.reduceEqDiff, Nat.reduceAdd, Int.reduceLE, Int.reduceLT, Int.reduceEq, Int.reduceToNat, Int.toNat_natCast, Int.cast_ofNat_Int, Int.natCast_one, Nat.reduceMod, Nat.reduceDiv, UInt8.reduceToNat, Nat.reduceLT, h0, h3, h4, hd, b1, b2, hb, c44, e1, d2, hbd, w1, w2, hw]
        exact ih _ _ (by omega) h0 rfl rfl (fun h => hA (by simpa using h)) (fun h => hB (by simpa using h))
      · have d2 : decide ((n : Int) < 10000000000000) = false := decide_eq_false (by omega)
        rw [if_neg h13] at hA
        simp (config := {contextual := true, implicitDefEqProofs := false, maxSteps := 4000000}) only [go_sem, ↓reduceIte, Bool.false_eq_true, Nat.reduceEqDiff, Nat.reduceAdd, Int.reduceLE, Int.reduceLT, Int.reduceEq, Int.reduceToNat, Int.toNat_natCast, Int.cast_ofNat_Int, Int.natCast_one, Nat.reduceMod, Nat.reduceDiv, UInt8.reduceToNat, Nat.reduceLT, h0, h3, h4, hd, b1, b2, hb, c44, e1, d2, hw]
        exact ih _ _ hn h0 h3 rfl (fun h => hA (by simpa using h)) (fun h => hB (by simpa using h))
theorem c60 (a : List UInt8) (hl : a.length ≤ 4611686018427387904) (s : St) (K : AV → St → Prop) : CallW cx 60 [.str a] s K = K (.int .i64 (numR a)) s := by
  refine CallW.eq (CallW.fn' (fn := ir60) rfl rfl (by kernel_rfl) ir60.eq_1 ?_) K
  unfold numR
  by_cases h0 : a = []
  · subst h0
    have z : (if ([] : List UInt8) ≠ [] ∧ ([] : List UInt8).all isD = true then (numC [] 0 : Int) else -1) = -1 := by simp
    rw [z]
    simp (config := {contextual := true, implicitDefEqProofs := false, maxSteps := 4000000}) only [go_sem, ↓reduceIte, Bool.false_eq_true, Nat.reduceEqDiff, Nat.reduceAdd, Int.reduceLE, Int.reduceLT, Int.reduceEq, Int.reduceToNat, Int.toNat_natCast, Int.cast_ofNat_Int, Int.natCast_one, Nat.reduceMod, Nat.reduceDiv, UInt8.reduceToNat, Nat.reduceLT, List.length_nil, Int.natCast_zero, show decide ((0 : Int) = 0) = true from rfl]
  have hp : 0 < a.length := List.length_pos_iff.2 h0
  have d1 : decide ((a.length : Int) = 0) = false := decide_eq_false (by omega)
  simp (config := {contextual := true, implicitDefEqProofs := false, maxSteps := 4000000}) only [go_sem, ↓reduceIte, Bool.false_eq_true, Nat.reduceEqDiff, Nat.reduceAdd, Int.reduceLE, Int.reduceLT, Int.reduceEq, Int.reduceToNat, Int.toNat_natCast, Int.cast_ofNat_Int, Int.natCast_one, Nat.reduceMod, Nat.reduceDiv, UInt8.reduceToNat, Nat.reduceLT, d1]
  refine l60 a hl _ _ a.length 0 0 _ (by omega) (by omega) rfl rfl rfl ?_ ?_
  · intro h e' h3
    rw [List.drop_zero] at h h3
    rw [if_pos ⟨h0, h⟩]
    simp (config := {contextual := true, implicitDefEqProofs := false, maxSteps := 4000000}) only [go_sem, ↓reduceIte, Bool.false_eq_true, Nat.reduceEqDiff, Nat.reduceAdd, Int.reduceLE, Int.reduceLT, Int.reduceEq, Int.reduceToNat, Int.toNat_natCast, Int.cast_ofNat_Int, Int.natCast_one, Nat.reduceMod, Nat.reduceDiv, UInt8.reduceToNat, Nat.reduceLT, h3]
  · intro h e' h2
    rw [List.drop_zero] at h
    rw [if_neg (fun x => by rw [h] at x; exact absurd x.2 (by decide))]
    simp (config := {contextual := true, implicitDefEqProofs := false, maxSteps := 4000000}) only [go_sem, ↓reduceIte, Bool.false_eq_true, Nat.reduceEqDiff, Nat.reduceAdd, Int.reduceLE, Int.reduceLT, Int.reduceEq, Int.reduceToNat, Int.toNat_natCast, Int.cast_ofNat_Int, Int.natCast_one, Nat.reduceMod, Nat.reduceDiv, UInt8.reduceToNat, Nat.reduceLT, h2]
theorem numR_nonneg (a : List UInt8) : decide (0 ≤ numR a) = (decide (a ≠ []) && a.all isD) := by
  unfold numR
  by_cases h : a ≠ [] ∧ a.all isD = true
  · rw [if_pos h, h.2, decide_eq_true h.1]; simp
  · rw [if_neg h]
    have : (decide (a ≠ []) && a.all isD) = false := by
      rw [Bool.eq_false_iff]; intro h2
      simp only [Bool.and_eq_true, decide_eq_true_eq] at h2
      exact h h2
    rw [this]; rfl
/-- The star, or so many digits. -/
theorem c74 (a : List UInt8) (hl : a.length ≤ 4611686018427387904) (n : Nat) (hn : 0 < n) (s : St) (K : AV → St → Prop) : CallW cx 74 [.str a, .int .i64 (n : Int)] s K = K (.bool (partB a n)) s := by
  refine CallW.eq (CallW.fn' (fn := ir74) rfl rfl (by kernel_rfl) ir74.eq_1 ?_) K
  have k := fun st K => c60 a hl st K
  have hr := numR_nonneg a
  unfold partB
  cases e1 : decide (a = [42]) with
  | true => simp (config := {contextual := true, implicitDefEqProofs := false, maxSteps := 4000000}) only [go_sem, ↓reduceIte, Bool.false_eq_true, Nat.reduceEqDiff, Nat.reduceAdd, Int.reduceLE, Int.reduceLT, Int.reduceEq, Int.reduceToNat, Int.toNat_natCast, Int.cast_ofNat_Int, Int.natCast_one, Nat.reduceMod, Nat.reduceDiv, UInt8.reduceToNat, Nat.reduceLT, e1]
  | false =>
  by_cases h2 : a.length = n
  case neg =>
    have d2 : decide ((a.length : Int) = (n : Int)) = false := decide_eq_false (by omega)
    rw [decide_eq_false h2]
    simp (config := {contextual := true, implicitDefEqProofs := false, maxSteps := 4000000}) only [go_sem, ↓reduceIte, Bool.false_eq_true, Nat.reduceEqDiff, Nat.reduceAdd, Int.reduceLE, Int.reduceLT, Int.reduceEq, Int.reduceToNat, Int.toNat_natCast, Int.cast_ofNat_Int, Int.natCast_one, Nat.reduceMod, Nat.reduceDiv, UInt8.reduceToNat, Nat.reduceLT, e1, d2]
  have d2 : decide ((a.length : Int) = (n : Int)) = true := decide_eq_true (by omega)
  have hne : a ≠ [] := fun h => by rw [h] at h2; simp at h2; omega
  rw [decide_eq_true hne, Bool.true_and] at hr
  rw [decide_eq_true h2]
  simp (config := {contextual := true, implicitDefEqProofs := false, maxSteps := 4000000}) only [go_sem, ↓reduceIte, Bool.false_eq_true, Nat.reduceEqDiff, Nat.reduceAdd, Int.reduceLE, Int.reduceLT, Int.reduceEq, Int.reduceToNat, Int.toNat_natCast, Int.cast_ofNat_Int, Int.natCast_one, Nat.reduceMod, Nat.reduceDiv, UInt8.reduceToNat, Nat.reduceLT, e1, d2, k, hr]
end T18


/- The reference's parts of a text. -/
namespace T18
open Go Fw Go.Proofs
set_option maxRecDepth 100000
set_option maxHeartbeats 4000000
set_option linter.unusedSimpArgs false
set_option linter.unusedVariables false
theorem cut_snoc (a : List UInt8) (p i : Nat) (h : p ≤ i) (hi : i < a.length) : cut a (p : Int) ((i + 1 : Nat) : Int) = cut a (p : Int) (i : Int) ++ [a.getD i 0] := by
  simp only [cut, Int.toNat_natCast]
  rw [show i + 1 - p = (i - p) + 1 by omega, List.take_add_one, List.getElem?_drop, show p + (i - p) = i by omega, List.getElem?_eq_getElem hi]
  simp [List.getD, hi]
theorem cut_same (a : List UInt8) (p : Nat) : cut a (p : Int) (p : Int) = [] := by simp [cut]
theorem encS_al : ∀ l : List (List UInt8), alAll (fun _ => false) (encS l) = true
  | [] => rfl
  | a :: l => by simp only [encS, List.map_cons, alAll, AV.al, Bool.true_and]; exact encS_al l
theorem one_str1 (st : St) (d : List UInt8) : cellsOf st 1 (.slice [.str d] 1 .full) = some [.str d] := by simp [cellsOf]
theorem encS_snoc (l : List (List UInt8)) (x : List UInt8) : encS l ++ [AV.str x] = encS (l ++ [x]) := by simp [encS]
theorem str_at {l : List (List UInt8)} {i : Nat} (h : i < l.length) : sub (encS l) i 1 = some [.str l[i]] := by
  rw [sub_one (by simpa [encS] using h)]
  simp [encS, List.getD, h]
theorem l62 (a : List UInt8) (c : UInt8) (hl : a.length ≤ 100000) (L : Nat) (Q : Sig → FE → St → Prop) : ∀ (n i p : Nat) (ds : List (List UInt8)) (e : FE) (st : St) (v : AV), i + n = a.length + 1 → p ≤ i → ds.length ≤ i → G2 9 1 0 0 L st v .nilslice (encS ds) ds.length [] 0 →
    (i ≤ a.length → ∀ x xs, splitB c (a.drop i) = x :: xs → ds ++ (cut a (p : Int) (i : Int) ++ x) :: xs = splitB c a) → (a.length < i → ds = splitB c a ∧ ∃ t, tokOf v = some t) → e 0 = .str a → e 1 = .int .u8 (c.toNat : Int) → e 5 = v → e 6 = .int .i64 (p : Int) → e 7 = .int .i64 (i : Int) →
    (∀ e' st' v', G2 9 1 0 0 L st' v' .nilslice (encS (splitB c a)) (splitB c a).length [] 0 → (∃ t, tokOf v' = some t) → e' 5 = v' → Q (.exit 0) e' st') → WLoop cx ir62L0 e st Q
  | 0, i, p, ds, e, st, v, hi, hp, hdi, hG, hI, hE, h0, h1, h5, h6, h7, hQ => by
    refine WLoop.rnd (c := _) ir62L0.eq_1 ?_
    have hd : decide ((i : Int) ≤ (a.length : Int)) = false := decide_eq_false (by omega)
    obtain ⟨he, ht⟩ := hE (by omega)
    simp (config := {contextual := true, implicitDefEqProofs := false, maxSteps := 4000000}) only [go_sem, ↓reduceIte, Bool.false_eq_true, Nat.reduceEqDiff, Nat.reduceAdd, Int.reduceLE, Int.reduceLT, Int.reduceEq, Int.reduceToNat, Int.toNat_natCast, Int.cast_ofNat_Int, Int.natCast_one, Nat.reduceMod, Nat.reduceDiv, UInt8.reduceToNat, Nat.reduceLT, h0, h7, hd]
    rw [he] at hG
    exact hQ _ st v hG ht h5
  | n + 1, i, p, ds, e, st, v, hi, hp, hdi, hG, hI, hE, h0, h1, h5, h6, h7, hQ => by
    refine WLoop.rnd (c := _) ir62L0.eq_1 ?_
    have hd : decide ((i : Int) ≤ (a.length : Int)) = true := decide_eq_true (by omega)
    have hw := wrap_one (i := i) (by omega)
    have hI := hI (by omega)
    have sk : slOk a.length (p : Int) (i : Int) := ⟨by omega, by omega, by omega⟩
    have hsp : ∀ (hx : ∀ xs, splitB c (a.drop i) = [] :: xs → True) , True := fun _ => trivial
    have step : ∀ (hcut : ∃ xs, splitB c (a.drop i) = [] :: xs ∧ (i < a.length → splitB c (a.drop (i + 1)) = xs) ∧ (i = a.length → xs = [])), ∀ st' v', G2 9 1 0 0 L st' v' .nilslice (encS (ds ++ [cut a (p : Int) (i : Int)])) (ds.length + 1) [] 0 → (∃ t, tokOf v' = some t) → ∀ e' : FE, e' 0 = .str a → e' 1 = .int .u8 (c.toNat : Int) → e' 5 = v' → e' 6 = .int .i64 ((i + 1 : Nat) : Int) → e' 7 = .int .i64 ((i + 1 : Nat) : Int) → WLoop cx ir62L0 e' st' Q := by
      intro ⟨xs, hx1, hx2, hx3⟩ st' v' G' htk e' a0 a1 a5 a6 a7
      have hl1 : (ds ++ [cut a (p : Int) (i : Int)]).length = ds.length + 1 := by simp
      have hI2 := hI [] xs hx1
      rw [List.append_nil] at hI2
      refine l62 a c hl L Q n (i + 1) (i + 1) (ds ++ [cut a (p : Int) (i : Int)]) e' st' v' (by omega) (Nat.le_refl _) (by rw [hl1]; omega) (by rw [hl1]; exact G') ?_ ?_ a0 a1 a5 a6 a7 hQ
      · intro h x ys hy
        rw [hx2 (by omega)] at hy
        rw [cut_same, List.nil_append, ← hy, ← hI2]
        simp
      · intro h
        have h2 := hx3 (by omega)
        rw [h2] at hI2
        exact ⟨hI2, htk⟩
    obtain ⟨v', st', ap, G', lw, _, ps, tk, nx⟩ := hG.app1 (bytes := 16) (k := 1) (y := .slice [.str (cut a (p : Int) (i : Int))] 1 .full) (new := [.str (cut a (p : Int) (i : Int))]) (one_str1 _ _) rfl rfl rfl (Nat.le_trans (show (ds.length + 1) * 16 ≤ 20000000 by omega) (by decide))
    simp only [List.map_cons, List.map_nil, strip_str, encS_snoc] at G'
    by_cases hia : i = a.length
    · have d1 : decide ((i : Int) = (a.length : Int)) = true := decide_eq_true (by omega)
      simp (config := {contextual := true, implicitDefEqProofs := false, maxSteps := 4000000}) only [go_sem, ↓reduceIte, Bool.false_eq_true, Nat.reduceEqDiff, Nat.reduceAdd, Int.reduceLE, Int.reduceLT, Int.reduceEq, Int.reduceToNat, Int.toNat_natCast, Int.cast_ofNat_Int, Int.natCast_one, Nat.reduceMod, Nat.reduceDiv, UInt8.reduceToNat, Nat.reduceLT, h0, h1, h5, h6, h7, hd, d1, sk, ap, hw]
      exact step ⟨[], by rw [List.drop_eq_nil_of_le (by omega)]; rfl, fun h => by omega, fun _ => rfl⟩ st' v' G' (tk (by decide)) _ h0 h1 rfl rfl rfl
    have d1 : decide ((i : Int) = (a.length : Int)) = false := decide_eq_false (by omega)
    have b1 : (0 : Int) ≤ (i : Int) := by omega
    have b2 : (i : Int) < (a.length : Int) := by omega
    have hdr := drop_at (show i < a.length by omega)
    obtain ⟨b, hb⟩ : ∃ b, a.getD i 0 = b := ⟨_, rfl⟩
    have hsn := cut_snoc a p i hp (by omega)
    rw [hb] at hdr hsn
    have f1 : decide (((b.toNat : Nat) : Int) = ((c.toNat : Nat) : Int)) = decide (b = c) := eq_byte c b
    by_cases hx : b = c
    · rw [decide_eq_true hx] at f1
      simp (config := {contextual := true, implicitDefEqProofs := false, maxSteps := 4000000}) only [go_sem, ↓reduceIte, Bool.false_eq_true, Nat.reduceEqDiff, Nat.reduceAdd, Int.reduceLE, Int.reduceLT, Int.reduceEq, Int.reduceToNat, Int.toNat_natCast, Int.cast_ofNat_Int, Int.natCast_one, Nat.reduceMod, Nat.reduceDiv, UInt8.reduceToNat, Nat.reduceLT, h0, h1, h5, h6, h7, hd, d1, b1, b2, hb, f1, sk, ap, hw]
      refine step ⟨splitB c (a.drop (i + 1)), ?_, fun _ => rfl, fun h => absurd h hia⟩ st' v' G' (tk (by decide)) _ h0 h1 rfl rfl rfl
      rw [hdr]
      simp only [splitB]
      rw [if_pos hx]
    · rw [decide_eq_false hx] at f1
      simp (config := {contextual := true, implicitDefEqProofs := false, maxSteps := 4000000}) only [go_sem, ↓reduceIte, Bool.false_eq_true, Nat.reduceEqDiff, Nat.reduceAdd, Int.reduceLE, Int.reduceLT, Int.reduceEq, Int.reduceToNat, Int.toNat_natCast, Int.cast_ofNat_Int, Int.natCast_one, Nat.reduceMod, Nat.reduceDiv, UInt8.reduceToNat, Nat.reduceLT, h0, h1, h5, h6, h7, hd, d1, b1, b2, hb, f1, hw]
      refine l62 a c hl L Q n (i + 1) p ds _ st v (by omega) (by omega) (by omega) hG ?_ (fun h => by omega) h0 h1 h5 h6 rfl hQ
      intro h x xs hs
      have := hI (b :: x) xs (by rw [hdr]; simp only [splitB]; rw [if_neg hx, hs])
      rw [hsn, List.append_assoc]
      exact this
theorem c62 (a : List UInt8) (c : UInt8) (hl : a.length ≤ 100000) (s : St) (K : AV → St → Prop) : CallW cx 62 [.str a, .int .u8 (c.toNat : Int)] s K = K (.slice (encS (splitB c a)) (splitB c a).length .no) s := by
  refine CallW.eq (CallW.fn' (fn := ir62) rfl rfl (by kernel_rfl) ir62.eq_1 ?_) K
  simp (config := {contextual := true, implicitDefEqProofs := false, maxSteps := 4000000}) only [go_sem, ↓reduceIte, Bool.false_eq_true, Nat.reduceEqDiff, Nat.reduceAdd, Int.reduceLE, Int.reduceLT, Int.reduceEq, Int.reduceToNat, Int.toNat_natCast, Int.cast_ofNat_Int, Int.natCast_one, Nat.reduceMod, Nat.reduceDiv, UInt8.reduceToNat, Nat.reduceLT]
  refine l62 a c hl s.next _ (a.length + 1) 0 0 [] _ { heap := s.heap, next := s.next, low := s.next } (.slice [] 0 .full) (by omega) (Nat.le_refl _) (Nat.le_refl _) ⟨Gr.full rfl, Gr.nil, fun t h => (by cases h), fun t h => (by cases h), fun t h => (by cases h), Nat.le_refl _, Nat.le_refl _⟩ (fun _ x xs h => by rw [List.drop_zero] at h; rw [cut_same, h]; rfl) (fun h => by omega) rfl rfl rfl rfl rfl ?_
  intro e' st' v' hG ht h5
  obtain ⟨t, ht⟩ := ht
  have hlv : ∀ K : AV → St → Prop, LeaveW s st' v' K = K (.slice (encS (splitB c a)) (splitB c a).length .no) s := by
    intro K
    rw [LeaveW_free (hG.a.free hG.la (encS_al _)) hG.low (fun vs h => by rw [tok_shape hG.a ht] at h; cases h), tok_shape hG.a ht]
    rfl
  simp (config := {contextual := true, implicitDefEqProofs := false, maxSteps := 4000000}) only [go_sem, ↓reduceIte, Bool.false_eq_true, Nat.reduceEqDiff, Nat.reduceAdd, Int.reduceLE, Int.reduceLT, Int.reduceEq, Int.reduceToNat, Int.toNat_natCast, Int.cast_ofNat_Int, Int.natCast_one, Nat.reduceMod, Nat.reduceDiv, UInt8.reduceToNat, Nat.reduceLT, h5, hlv]
end T18


/- The reference's dates. -/
namespace T18
open Go Fw Go.Proofs
set_option maxRecDepth 100000
set_option maxHeartbeats 4000000
set_option linter.unusedSimpArgs false
set_option linter.unusedVariables false
def dgt (i : Fin 10) : UInt8 := UInt8.ofNat (48 + i.val)
def inR (x : List UInt8) (most : Int) : Bool := decide (x = [42]) || (decide (1 ≤ numR x) && decide (numR x ≤ most))
theorem in_12 : ∀ i j : Fin 10, inR [dgt i, dgt j] 12 = withinB [dgt i, dgt j] [49, 50] := by decide +kernel
theorem in_31 : ∀ i j : Fin 10, inR [dgt i, dgt j] 31 = withinB [dgt i, dgt j] [51, 49] := by decide +kernel
theorem dgt_of {b : UInt8} (h : isD b = true) : ∃ i : Fin 10, b = dgt i := by
  have := h
  unfold isD at this
  simp only [Bool.and_eq_true, decide_eq_true_eq] at this
  refine ⟨⟨b.toNat - 48, by omega⟩, ?_⟩
  unfold dgt
  apply UInt8.toNat_inj.1
  simp only [UInt8.toNat_ofNat']
  omega
theorem two_dg {x : List UInt8} (h : partB x 2 = true) : x = [42] ∨ ∃ i j : Fin 10, x = [dgt i, dgt j] := by
  unfold partB at h
  simp only [Bool.or_eq_true, Bool.and_eq_true, decide_eq_true_eq] at h
  rcases h with h | ⟨h1, h2⟩
  · exact .inl h
  · right
    match x, h1 with
    | [b, c], _ =>
      simp only [List.all_cons, List.all_nil, Bool.and_true, Bool.and_eq_true] at h2
      obtain ⟨i, rfl⟩ := dgt_of h2.1
      obtain ⟨j, rfl⟩ := dgt_of h2.2
      exact ⟨i, j, rfl⟩
theorem in_m {x : List UInt8} (h : partB x 2 = true) : inR x 12 = withinB x [49, 50] := by
  rcases two_dg h with rfl | ⟨i, j, rfl⟩
  · rfl
  · exact in_12 i j
theorem in_d {x : List UInt8} (h : partB x 2 = true) : inR x 31 = withinB x [51, 49] := by
  rcases two_dg h with rfl | ⟨i, j, rfl⟩
  · rfl
  · exact in_31 i j
theorem parts_len (c : UInt8) (a x : List UInt8) (h : x ∈ splitB c a) : x.length ≤ a.length := parts_le c a x h
theorem c61 (a : List UInt8) (hl : a.length ≤ 100000) (s : St) (K : AV → St → Prop) : CallW cx 61 [.str a] s K = K (.tuple [.bool (dateB a).1, .bool (dateB a).2]) s := by
  refine CallW.eq (CallW.fn' (fn := ir61) rfl rfl (by kernel_rfl) ir61.eq_1 ?_) K
  have k : ∀ st K, CallW cx 62 [.str a, .int .u8 45] st K = K (.slice (encS (splitB 45 a)) (splitB 45 a).length .no) st := fun st K => c62 a 45 hl st K
  have hpl := parts_len 45 a
  by_cases h3 : (splitB 45 a).length = 3
  case neg =>
    have d1 : decide (((splitB 45 a).length : Int) ≠ 3) = true := decide_eq_true (by omega)
    have e : dateB a = (false, false) := by
      unfold dateB
      match hs : splitB 45 a with
      | [] => rfl
      | [x] => rfl
      | [x, y] => rfl
      | [x, y, z] => rw [hs] at h3; simp at h3
      | x :: y :: z :: w :: r => rfl
    rw [e]
    simp (config := {contextual := true, implicitDefEqProofs := false, maxSteps := 4000000}) only [go_sem, ↓reduceIte, Bool.false_eq_true, Nat.reduceEqDiff, Nat.reduceAdd, Int.reduceLE, Int.reduceLT, Int.reduceEq, Int.reduceToNat, Int.toNat_natCast, Int.cast_ofNat_Int, Int.natCast_one, Nat.reduceMod, Nat.reduceDiv, UInt8.reduceToNat, Nat.reduceLT, k, d1]
  obtain ⟨y, m, d, hs⟩ : ∃ y m d, splitB 45 a = [y, m, d] := by
    match hs : splitB 45 a, h3 with
    | [y, m, d], _ => exact ⟨y, m, d, rfl⟩
  have ly := hpl y (by rw [hs]; simp)
  have lm := hpl m (by rw [hs]; simp)
  have ld := hpl d (by rw [hs]; simp)
  have e : dateB a = if partB y 4 && (partB m 2 && partB d 2) then (true, withinB m [49, 50] && withinB d [51, 49]) else (false, false) := by unfold dateB; rw [hs]
  rw [hs] at k
  have cs : encS [y, m, d] = [.str y, .str m, .str d] := rfl
  rw [cs] at k
  simp only [List.length_cons, List.length_nil, Nat.zero_add, Nat.reduceAdd] at k
  have f1 := fun st K => c74 y (by omega) 4 (by decide) st K
  have f2 := fun st K => c74 m (by omega) 2 (by decide) st K
  have f3 := fun st K => c74 d (by omega) 2 (by decide) st K
  have n2 := fun st K => c60 m (by omega) st K
  have n3 := fun st K => c60 d (by omega) st K
  simp only [Int.cast_ofNat_Int] at f1 f2 f3
  have d3 : decide ((3 : Int) ≠ 3) = false := rfl
  have s0 : sub [AV.str y, .str m, .str d] 0 1 = some [.str y] := rfl
  have s1 : sub [AV.str y, .str m, .str d] 1 1 = some [.str m] := rfl
  have s2 : sub [AV.str y, .str m, .str d] 2 1 = some [.str d] := rfl
  rw [e]
  cases g0 : partB y 4 with
  | false =>
    rw [g0] at f1
    simp (config := {contextual := true, implicitDefEqProofs := false, maxSteps := 4000000}) only [go_sem, ↓reduceIte, Bool.false_eq_true, Nat.reduceEqDiff, Nat.reduceAdd, Int.reduceLE, Int.reduceLT, Int.reduceEq, Int.reduceToNat, Int.toNat_natCast, Int.cast_ofNat_Int, Int.natCast_one, Nat.reduceMod, Nat.reduceDiv, UInt8.reduceToNat, Nat.reduceLT, k, d3, s0, s1, s2, f1]
  | true =>
  rw [g0] at f1
  cases g1 : partB m 2 with
  | false =>
    rw [g1] at f2
    simp (config := {contextual := true, implicitDefEqProofs := false, maxSteps := 4000000}) only [go_sem, ↓reduceIte, Bool.false_eq_true, Nat.reduceEqDiff, Nat.reduceAdd, Int.reduceLE, Int.reduceLT, Int.reduceEq, Int.reduceToNat, Int.toNat_natCast, Int.cast_ofNat_Int, Int.natCast_one, Nat.reduceMod, Nat.reduceDiv, UInt8.reduceToNat, Nat.reduceLT, k, d3, s0, s1, s2, f1, f2]
  | true =>
  rw [g1] at f2
  cases g2 : partB d 2 with
  | false =>
    rw [g2] at f3
    simp (config := {contextual := true, implicitDefEqProofs := false, maxSteps := 4000000}) only [go_sem, ↓reduceIte, Bool.false_eq_true, Nat.reduceEqDiff, Nat.reduceAdd, Int.reduceLE, Int.reduceLT, Int.reduceEq, Int.reduceToNat, Int.toNat_natCast, Int.cast_ofNat_Int, Int.natCast_one, Nat.reduceMod, Nat.reduceDiv, UInt8.reduceToNat, Nat.reduceLT, k, d3, s0, s1, s2, f1, f2, f3]
  | true =>
  rw [g2] at f3
  have hm := in_m g1
  have hd := in_d g2
  rw [← hm, ← hd]
  unfold inR
  cases e1 : decide (m = [42]) with
  | true =>
    cases e2 : decide (d = [42]) with
    | true => simp (config := {contextual := true, implicitDefEqProofs := false, maxSteps := 4000000}) only [go_sem, ↓reduceIte, Bool.false_eq_true, Nat.reduceEqDiff, Nat.reduceAdd, Int.reduceLE, Int.reduceLT, Int.reduceEq, Int.reduceToNat, Int.toNat_natCast, Int.cast_ofNat_Int, Int.natCast_one, Nat.reduceMod, Nat.reduceDiv, UInt8.reduceToNat, Nat.reduceLT, k, d3, s0, s1, s2, f1, f2, f3, n2, n3, e1, e2]
    | false =>
      cases e3 : decide (1 ≤ numR d) with
      | false => simp (config := {contextual := true, implicitDefEqProofs := false, maxSteps := 4000000}) only [go_sem, ↓reduceIte, Bool.false_eq_true, Nat.reduceEqDiff, Nat.reduceAdd, Int.reduceLE, Int.reduceLT, Int.reduceEq, Int.reduceToNat, Int.toNat_natCast, Int.cast_ofNat_Int, Int.natCast_one, Nat.reduceMod, Nat.reduceDiv, UInt8.reduceToNat, Nat.reduceLT, k, d3, s0, s1, s2, f1, f2, f3, n2, n3, e1, e2, e3]
      | true => simp (config := {contextual := true, implicitDefEqProofs := false, maxSteps := 4000000}) only [go_sem, ↓reduceIte, Bool.false_eq_true, Nat.reduceEqDiff, Nat.reduceAdd, Int.reduceLE, Int.reduceLT, Int.reduceEq, Int.reduceToNat, Int.toNat_natCast, Int.cast_ofNat_Int, Int.natCast_one, Nat.reduceMod, Nat.reduceDiv, UInt8.reduceToNat, Nat.reduceLT, k, d3, s0, s1, s2, f1, f2, f3, n2, n3, e1, e2, e3]
  | false =>
    cases e4 : decide (1 ≤ numR m) with
    | false => simp (config := {contextual := true, implicitDefEqProofs := false, maxSteps := 4000000}) only [go_sem, ↓reduceIte, Bool.false_eq_true, Nat.reduceEqDiff, Nat.reduceAdd, Int.reduceLE, Int.reduceLT, Int.reduceEq, Int.reduceToNat, Int.toNat_natCast, Int.cast_ofNat_Int, Int.natCast_one, Nat.reduceMod, Nat.reduceDiv, UInt8.reduceToNat, Nat.reduceLT, k, d3, s0, s1, s2, f1, f2, f3, n2, n3, e1, e4]
    | true =>
    cases e5 : decide (numR m ≤ 12) with
    | false => simp (config := {contextual := true, implicitDefEqProofs := false, maxSteps := 4000000}) only [go_sem, ↓reduceIte, Bool.false_eq_true, Nat.reduceEqDiff, Nat.reduceAdd, Int.reduceLE, Int.reduceLT, Int.reduceEq, Int.reduceToNat, Int.toNat_natCast, Int.cast_ofNat_Int, Int.natCast_one, Nat.reduceMod, Nat.reduceDiv, UInt8.reduceToNat, Nat.reduceLT, k, d3, s0, s1, s2, f1, f2, f3, n2, n3, e1, e4, e5]
    | true =>
    cases e2 : decide (d = [42]) with
    | true => simp (config := {contextual := true, implicitDefEqProofs := false, maxSteps := 4000000}) only [go_sem, ↓reduceIte, Bool.false_eq_true, Nat.reduceEqDiff, Nat.reduceAdd, Int.reduceLE, Int.reduceLT, Int.reduceEq, Int.reduceToNat, Int.toNat_natCast, Int.cast_ofNat_Int, Int.natCast_one, Nat.reduceMod, Nat.reduceDiv, UInt8.reduceToNat, Nat.reduceLT, k, d3, s0, s1, s2, f1, f2, f3, n2, n3, e1, e2, e4, e5]
    | false =>
      cases e3 : decide (1 ≤ numR d) with
      | false => simp (config := {contextual := true, implicitDefEqProofs := false, maxSteps := 4000000}) only [go_sem, ↓reduceIte, Bool.false_eq_true, Nat.reduceEqDiff, Nat.reduceAdd, Int.reduceLE, Int.reduceLT, Int.reduceEq, Int.reduceToNat, Int.toNat_natCast, Int.cast_ofNat_Int, Int.natCast_one, Nat.reduceMod, Nat.reduceDiv, UInt8.reduceToNat, Nat.reduceLT, k, d3, s0, s1, s2, f1, f2, f3, n2, n3, e1, e2, e3, e4, e5]
      | true => simp (config := {contextual := true, implicitDefEqProofs := false, maxSteps := 4000000}) only [go_sem, ↓reduceIte, Bool.false_eq_true, Nat.reduceEqDiff, Nat.reduceAdd, Int.reduceLE, Int.reduceLT, Int.reduceEq, Int.reduceToNat, Int.toNat_natCast, Int.cast_ofNat_Int, Int.natCast_one, Nat.reduceMod, Nat.reduceDiv, UInt8.reduceToNat, Nat.reduceLT, k, d3, s0, s1, s2, f1, f2, f3, n2, n3, e1, e2, e3, e4, e5]
end T18


/- The reference's numbers are the lexer's: the plain law. -/
namespace T18
open Go Fw Go.Proofs
set_option maxRecDepth 100000
theorem rF_app : ∀ (a b : List UInt8) (n : Nat), numF (a ++ b) n = numF b (numF a n)
  | [], b, n => rfl
  | c :: l, b, n => by simp only [List.cons_append, numF]; exact rF_app l b _
theorem rF_from : ∀ (l : List UInt8) (n : Nat), numF l n = n * 10 ^ l.length + numF l 0
  | [], n => by simp [numF]
  | b :: l, n => by
    simp only [numF, List.length_cons]
    rw [rF_from l (10 * n + (b.toNat - 48)), rF_from l (10 * 0 + (b.toNat - 48)), Nat.pow_succ, Nat.add_mul, Nat.mul_zero, Nat.zero_add, Nat.add_assoc]
    congr 1
    rw [Nat.mul_comm 10 n, Nat.mul_assoc, Nat.mul_comm 10]
theorem isD_9 {b : UInt8} (h : isD b = true) : b.toNat - 48 ≤ 9 := by
  unfold isD at h; simp only [Bool.and_eq_true, decide_eq_true_eq] at h; omega
theorem numC_small : ∀ (l : List UInt8) (n k : Nat), l.all isD = true → l.length ≤ k → k ≤ 13 → n < 10 ^ (13 - k) → numC l n = numF l n
  | [], n, k, _, _, _, _ => rfl
  | b :: l, n, k, ha, hl, hk, hn => by
    simp only [List.all_cons, Bool.and_eq_true] at ha
    simp only [List.length_cons] at hl
    simp only [numC, numF]
    have h1 : 10 ^ (13 - k) ≤ 10 ^ 12 := Nat.pow_le_pow_right (by decide) (by omega)
    have h9 := isD_9 ha.1
    rw [if_pos (by simp only [Nat.reducePow] at h1; omega)]
    refine numC_small l _ (k - 1) ha.2 (by omega) (by omega) ?_
    rw [show 13 - (k - 1) = (13 - k) + 1 by omega, Nat.pow_succ]
    omega
theorem numC_cap : ∀ (l : List UInt8) (n : Nat), 10000000000000 ≤ n → numC l n = n
  | [], n, _ => rfl
  | b :: l, n, h => by
    simp only [numC]
    rw [if_neg (by omega)]
    exact numC_cap l n h
theorem numC_big : ∀ (l : List UInt8) (n : Nat), 1000000000000 ≤ n * 10 ^ l.length → 1000000000000 ≤ numC l n
  | [], n, h => by simpa [numC] using h
  | b :: l, n, h => by
    simp only [numC]
    by_cases h2 : n < 10000000000000
    · rw [if_pos h2]
      refine numC_big l _ (Nat.le_trans h ?_)
      rw [List.length_cons, Nat.pow_succ, Nat.mul_comm (10 ^ l.length) 10, ← Nat.mul_assoc]
      exact Nat.mul_le_mul_right _ (by omega)
    · rw [if_neg h2, numC_cap l n (by omega)]
      omega
theorem numF_pad : ∀ (f : List UInt8), f.length ≤ 3 → numF ((f ++ [48, 48, 48]).take 3) 0 = numF f 0 * 10 ^ (3 - f.length)
  | [], _ => rfl
  | [a], _ => by simp [numF]; try omega
  | [a, b], _ => by simp [numF]; try omega
  | [a, b, c], _ => by simp [numF]
  | a :: b :: c :: d :: l, h => by simp at h
theorem pad_len (f : List UInt8) (h : f.length ≤ 3) : ((f ++ [48, 48, 48]).take 3).length = 3 := by
  rw [List.length_take, List.length_append]
  simp only [List.length_cons, List.length_nil]
  omega
theorem val_eq (w f : List UInt8) (h : f.length ≤ 3) : valN w f = 1000 * numF w 0 + numF f 0 * 10 ^ (3 - f.length) := by
  unfold valN
  rw [rF_app, rF_from, pad_len f h, numF_pad f h]
  omega
/-- The end of a number: how it is refused, or its value. -/
def finN (neg : Bool) (n : Nat) : Int × Int := if (decide (n = 0) && neg) = true then (0, 2) else if 1000000000000 < n then (0, 6) else (if neg = true then -(n : Int) else n, 0)
def rnumB (neg : Bool) : List (List UInt8) → Int × Int
  | [w] => if wholeOk w then finN neg (1000 * numC w 0) else (0, 2)
  | [w, f] => if wholeOk w then (if fracOk f then finN neg (1000 * numC w 0 + numC f 0 * 10 ^ (3 - f.length)) else (0, 2)) else (0, 2)
  | _ => (0, 2)
theorem mem_find {c : UInt8} : ∀ (l : List UInt8) (i : Nat), findByte c l i ≠ -1 → c ∈ l
  | [], _, h => absurd rfl h
  | b :: l, i, h => by
    simp only [findByte] at h
    by_cases hb : b = c
    · rw [hb]; simp
    · rw [if_neg hb] at h
      exact List.mem_cons_of_mem _ (mem_find l (i + 1) h)
theorem whole_facts {w : List UInt8} (h : wholeOk w = true) : w.all isD = true ∧ w ≠ [] ∧ (1 < w.length → w.getD 0 0 ≠ 48) := by
  unfold wholeOk at h
  simp only [Bool.and_eq_true, decide_eq_true_eq, Bool.not_eq_true', Bool.and_eq_false_iff, decide_eq_false_iff_not] at h
  exact ⟨h.2.1, h.1, fun h2 => by rcases h.2.2 with h3 | h3; exact absurd h2 h3; exact h3⟩
theorem whole_big {w : List UInt8} (h : wholeOk w = true) (hl : 12 < w.length) : 1000000000000 ≤ numC w 0 := by
  obtain ⟨h1, h2, h3⟩ := whole_facts h
  match w, h2 with
  | b :: l, _ =>
    simp only [List.length_cons] at hl
    have h4 := h3 (by simp only [List.length_cons]; omega)
    have h4 : b ≠ 48 := h4
    simp only [List.all_cons, Bool.and_eq_true] at h1
    have h5 := h1.1
    unfold isD at h5
    simp only [Bool.and_eq_true, decide_eq_true_eq] at h5
    have h6 : b.toNat ≠ 48 := fun e => h4 (UInt8.toNat_inj.1 (by rw [e]; rfl))
    simp only [numC]
    rw [if_pos (by decide)]
    refine numC_big l _ ?_
    have h7 : 10 ^ 12 ≤ 10 ^ l.length := Nat.pow_le_pow_right (by decide) (by omega)
    have h8 : 1 * 10 ^ l.length ≤ (10 * 0 + (b.toNat - 48)) * 10 ^ l.length := Nat.mul_le_mul_right _ (by omega)
    simp only [Nat.reducePow] at h7
    omega
/-- How numbers end, the lexer's and the reference's. -/
theorem fin_eq (neg : Bool) {w f : List UInt8} (hw : wholeOk w = true) (hf : f.all isD = true) (hf3 : f.length ≤ 3) :
    (if 12 < w.length then (0, 6) else if (neg && decide (valN w f = 0)) = true then (0, 2) else if 1000000000000 < valN w f then (0, 6) else (if neg = true then -(valN w f : Int) else (valN w f : Int), 0)) = finN neg (1000 * numC w 0 + numC f 0 * 10 ^ (3 - f.length)) := by
  by_cases h12 : 12 < w.length
  · have := whole_big hw h12
    unfold finN
    rw [if_pos h12, decide_eq_false (by omega : ¬ 1000 * numC w 0 + numC f 0 * 10 ^ (3 - f.length) = 0), Bool.false_and, if_neg (by decide), if_pos (by omega)]
  · rw [if_neg h12]
    have e1 := numC_small w 0 12 (whole_facts hw).1 (by omega) (by decide) (by decide)
    have e2 := numC_small f 0 3 hf hf3 (by decide) (by decide)
    rw [e1, e2, ← val_eq w f hf3, Bool.and_comm]
    rfl
theorem rnum_eq (neg : Bool) (b : List UInt8) : rnumB neg (splitB 46 b) = numbB neg (cutB 46 b).1 (cutB 46 b).2.1 (cutB 46 b).2.2 := by
  rcases findByte_spec 46 b 0 with h | ⟨j, h, _, hj⟩
  · have e : cutB 46 b = (b, [], false) := by unfold cutB; rw [h]; rfl
    rw [e, (split_none 46 b h).1]
    simp only [rnumB, numbB]
    cases hw : wholeOk b with
    | false => rfl
    | true =>
      have := fin_eq neg (f := []) hw rfl (by decide)
      simp only [Bool.not_true, Bool.false_and, if_false, if_true, Bool.false_eq_true]
      rw [this]
      simp [numC]
  · have e : cutB 46 b = (b.take j, b.drop (j + 1), true) := by unfold cutB; rw [h]
    rw [e, (split_some 46 b j h).1]
    simp only
    generalize b.take j = w
    generalize b.drop (j + 1) = f
    rcases findByte_spec 46 f 0 with h2 | ⟨k, h2, _, _⟩
    · rw [(split_none 46 f h2).1]
      simp only [rnumB, numbB]
      cases hw : wholeOk w with
      | false => rfl
      | true =>
        cases hf : fracOk f with
        | false => rfl
        | true =>
          have hff := hf
          unfold fracOk at hff
          simp only [Bool.and_eq_true, decide_eq_true_eq] at hff
          have := fin_eq neg hw hff.2.2 hff.1
          simp only [Bool.not_true, Bool.and_false, if_false, if_true, Bool.false_eq_true]
          rw [this]
    · have hff : fracOk f = false := by
        have hm : (46 : UInt8) ∈ f := mem_find f 0 (by rw [h2]; omega)
        unfold fracOk
        have : f.all isD = false := by
          rw [Bool.eq_false_iff]; intro h3
          exact absurd (List.all_eq_true.1 h3 _ hm) (by decide)
        rw [this]; simp
      rw [(split_some 46 f k h2).1]
      have hr : ∀ x l, l ≠ [] → rnumB neg (w :: x :: l) = (0, 2) := fun x l hl => by
        cases l with
        | nil => exact absurd rfl hl
        | cons y l => rfl
      rw [hr _ _ (splitB_ne 46 _)]
      unfold numbB
      rw [hff]
      cases wholeOk w <;> rfl
end T18


/- The reference's figures: the walk. -/
namespace T18
open Go Fw Go.Proofs
set_option maxRecDepth 100000
set_option maxHeartbeats 40000000
set_option linter.unusedSimpArgs false
set_option linter.unusedVariables false
theorem l46 (st : St) (r0 : AV) (sg : Int) (nn : Nat) (Q : Sig → FE → St → Prop) : ∀ (m k x : Nat) (e : FE), k + m = 3 → x * 10 ^ m < 1000000 → e 2 = r0 → e 8 = .int .i64 sg → e 10 = .int .i64 (nn : Int) → e 11 = .int .i64 (x : Int) → e 12 = .int .i64 (k : Int) →
    (∀ e', e' 2 = r0 → e' 8 = .int .i64 sg → e' 10 = .int .i64 (nn : Int) → e' 11 = .int .i64 ((x * 10 ^ m : Nat) : Int) → Q (.exit 0) e' st) → WLoop cx ir46L0 e st Q
  | 0, k, x, e, hk, hx, h2, h8, h10, h11, h12, hQ => by
    refine WLoop.rnd (c := _) ir46L0.eq_1 ?_
    have hd : decide ((k : Int) < 3) = false := decide_eq_false (by omega)
    simp (config := {contextual := true, implicitDefEqProofs := false, maxSteps := 4000000}) only [go_sem, ↓reduceIte, Bool.false_eq_true, Nat.reduceEqDiff, Nat.reduceAdd, Int.reduceLE, Int.reduceLT, Int.reduceEq, Int.reduceToNat, Int.toNat_natCast, Int.cast_ofNat_Int, Int.natCast_one, Nat.reduceMod, Nat.reduceDiv, UInt8.reduceToNat, Nat.reduceLT, h12, hd]
    exact hQ _ h2 h8 h10 (by rw [Nat.pow_zero, Nat.mul_one]; exact h11)
  | m + 1, k, x, e, hk, hx, h2, h8, h10, h11, h12, hQ => by
    refine WLoop.rnd (c := _) ir46L0.eq_1 ?_
    have hd : decide ((k : Int) < 3) = true := decide_eq_true (by omega)
    have hw := wrap_one (i := k) (by omega)
    have h1 : 1 ≤ 10 ^ m := Nat.pow_pos (by decide)
    have hx1 : x * 1 ≤ x * 10 ^ (m + 1) := Nat.mul_le_mul_left _ (Nat.pow_pos (by decide))
    have w1 : IntKind.i64.wrap (10 * (x : Int)) = ((10 * x : Nat) : Int) := by rw [wrap_i64 (by omega) (by omega)]; omega
    have hp : 10 * x * 10 ^ m = x * 10 ^ (m + 1) := by rw [Nat.pow_succ, Nat.mul_comm (10 ^ m) 10, ← Nat.mul_assoc, Nat.mul_comm 10 x]
    simp (config := {contextual := true, implicitDefEqProofs := false, maxSteps := 4000000}) only [go_sem, ↓reduceIte, Bool.false_eq_true, Nat.reduceEqDiff, Nat.reduceAdd, Int.reduceLE, Int.reduceLT, Int.reduceEq, Int.reduceToNat, Int.toNat_natCast, Int.cast_ofNat_Int, Int.natCast_one, Nat.reduceMod, Nat.reduceDiv, UInt8.reduceToNat, Nat.reduceLT, h11, h12, hd, w1, hw]
    refine l46 st r0 sg nn Q m (k + 1) (10 * x) _ (by omega) (by rw [hp]; exact hx) h2 h8 h10 rfl rfl ?_
    intro e' a2 a8 a10 a11
    exact hQ e' a2 a8 a10 (by rw [a11, hp])
theorem num2 {x y : UInt8} (hx : isD x = true) (hy : isD y = true) : numR [x, y] = dg x * 10 + dg y := by
  unfold numR
  rw [if_pos ⟨by simp, by simp [hx, hy]⟩]
  have h1 := isD_9 hx
  have h2 := isD_9 hy
  simp only [numC, dg]
  rw [if_pos (show (0 : Nat) < 10000000000000 by decide), if_pos (by omega)]
  omega
theorem numR_ok {a : List UInt8} (h : (decide (a ≠ []) && a.all isD) = true) : numR a = (numC a 0 : Int) ∧ numC a 0 < 100000000000000 := by
  simp only [Bool.and_eq_true, decide_eq_true_eq] at h
  unfold numR
  rw [if_pos h]
  exact ⟨rfl, numC_lt a 0 h.2 (by decide)⟩
theorem numR_neg (a : List UInt8) : decide (numR a < 0) = !(decide (a ≠ []) && a.all isD) := by
  rw [← numR_nonneg]
  by_cases h : 0 ≤ numR a
  · rw [decide_eq_true h, decide_eq_false (by omega)]; rfl
  · rw [decide_eq_false h, decide_eq_true (by omega)]; rfl
theorem fig_num (a : List UInt8) (h1 : (clockB a).2.1 = false) (h2 : (dateB a).1 = false) : figB a = (if (rnumB (decide (a.head? = some 45)) (splitB 46 (bodyB a))).2 ≠ 0 then ([.int .i64 0, .str [], .int .i64 0, .int .i64 0], (rnumB (decide (a.head? = some 45)) (splitB 46 (bodyB a))).2) else ([.int .i64 2, .str [], .int .i64 (rnumB (decide (a.head? = some 45)) (splitB 46 (bodyB a))).1, .int .i64 0], 0)) := by
  unfold figB
  rw [h1, h2, rnum_eq]
  rfl
theorem c3_small {f : List UInt8} (h : (decide (f ≠ []) && f.all isD) = true) (hf : f.length ≤ 3) : numC f 0 * 10 ^ (3 - f.length) < 1000000 := by
  simp only [Bool.and_eq_true, decide_eq_true_eq] at h
  rw [numC_small f 0 3 h.2 hf (by decide) (by decide), ← numF_pad f hf]
  have := numF_lt ((f ++ [48, 48, 48]).take 3) 0 0 (by
    apply List.all_eq_true.2
    intro b hb
    have hb := List.mem_of_mem_take hb
    rw [List.mem_append] at hb
    rcases hb with hb | hb
    · exact List.all_eq_true.1 h.2 b hb
    · have : ([48, 48, 48] : List UInt8).all isD = true := by decide
      exact List.all_eq_true.1 this b hb) (by decide)
  rw [pad_len f hf] at this
  simp only [Nat.zero_add, Nat.reducePow] at this
  omega
def irV : ICode := (.seq (.region [⟨(some 72), (.mov (.tmp 0)), none⟩, ⟨(some 73), (.call (.const (.func 62 [] [])) [(.tmp 72), (.const (.int .u8 46))]), none⟩, ⟨(some 9), (.mov (.tmp 73)), none⟩]) (.seq (.seq (.region [⟨(some 74), (.mov (.tmp 9)), none⟩, ⟨(some 75), (.lenv (.tmp 74)), none⟩, ⟨(some 76), (.bin .gtr (.tmp 75) (.const (.int .i64 2))), none⟩, ⟨(some 77), (.mov (.tmp 76)), none⟩, ⟨(some 78), (.mov (.tmp 9)), (some (77, false))⟩, ⟨(some 79), (.iaddr 1 none (.tmp 78) (.const (.int .i64 0))), (some (77, false))⟩, ⟨(some 80), (.load false 1 (.tmp 79)), (some (77, false))⟩, ⟨(some 81), (.call (.const (.func 60 [] [])) [(.tmp 80)]), (some (77, false))⟩, ⟨(some 82), (.bin .lss (.tmp 81) (.const (.int .i64 0))), (some (77, false))⟩, ⟨(some 83), (.pick (.tmp 77) (.const (.bool true)) (.tmp 82)), none⟩, ⟨(some 84), (.mov (.tmp 83)), none⟩, ⟨(some 85), (.mov (.tmp 9)), (some (84, false))⟩, ⟨(some 86), (.iaddr 1 none (.tmp 85) (.const (.int .i64 0))), (some (84, false))⟩, ⟨(some 87), (.load false 1 (.tmp 86)), (some (84, false))⟩, ⟨(some 88), (.lens (.tmp 87)), (some (84, false))⟩, ⟨(some 89), (.bin .gtr (.tmp 88) (.const (.int .i64 1))), (some (84, false))⟩, ⟨(some 90), (.mov (.tmp 89)), (some (84, false))⟩, ⟨(some 91), (.mov (.tmp 9)), (some (90, true))⟩, ⟨(some 92), (.iaddr 1 none (.tmp 91) (.const (.int .i64 0))), (some (90, true))⟩, ⟨(some 93), (.load false 1 (.tmp 92)), (some (90, true))⟩, ⟨(some 94), (.idx 1 false none (.tmp 93) (.const (.int .i64 0))), (some (90, true))⟩, ⟨(some 95), (.bin .eql (.tmp 94) (.const (.int .u8 48))), (some (90, true))⟩, ⟨(some 96), (.pick (.tmp 90) (.tmp 95) (.const (.bool false))), (some (84, false))⟩, ⟨(some 97), (.pick (.tmp 84) (.const (.bool true)) (.tmp 96)), none⟩]) (.cond (.tmp 97) (.seq (.region [⟨(some 98), (.build [(.int .i64 0), (.str []), (.int .i64 0), (.int .i64 0)] []), none⟩, ⟨none, (.store 4 (.tmp 2) (.tmp 98)), none⟩, ⟨(some 3), (.mov (.const (.int .i64 2))), none⟩]) .ret) .skip)) (.seq (.region [⟨(some 99), (.mov (.tmp 9)), none⟩, ⟨(some 100), (.iaddr 1 none (.tmp 99) (.const (.int .i64 0))), none⟩, ⟨(some 101), (.load false 1 (.tmp 100)), none⟩, ⟨(some 102), (.call (.const (.func 60 [] [])) [(.tmp 101)]), none⟩, ⟨(some 103), (.bin .mul (.const (.int .i64 1000)) (.tmp 102)), none⟩, ⟨(some 10), (.mov (.tmp 103)), none⟩]) (.seq (.seq (.region [⟨(some 104), (.mov (.tmp 9)), none⟩, ⟨(some 105), (.lenv (.tmp 104)), none⟩, ⟨(some 106), (.bin .eql (.tmp 105) (.const (.int .i64 2))), none⟩]) (.cond (.tmp 106) (.seq (.seq (.region [⟨(some 107), (.mov (.tmp 9)), none⟩, ⟨(some 108), (.iaddr 1 none (.tmp 107) (.const (.int .i64 1))), none⟩, ⟨(some 109), (.load false 1 (.tmp 108)), none⟩, ⟨(some 110), (.lens (.tmp 109)), none⟩, ⟨(some 111), (.bin .gtr (.tmp 110) (.const (.int .i64 3))), none⟩, ⟨(some 112), (.mov (.tmp 111)), none⟩, ⟨(some 113), (.mov (.tmp 9)), (some (112, false))⟩, ⟨(some 114), (.iaddr 1 none (.tmp 113) (.const (.int .i64 1))), (some (112, false))⟩, ⟨(some 115), (.load false 1 (.tmp 114)), (some (112, false))⟩, ⟨(some 116), (.call (.const (.func 60 [] [])) [(.tmp 115)]), (some (112, false))⟩, ⟨(some 117), (.bin .lss (.tmp 116) (.const (.int .i64 0))), (some (112, false))⟩, ⟨(some 118), (.pick (.tmp 112) (.const (.bool true)) (.tmp 117)), none⟩]) (.cond (.tmp 118) (.seq (.region [⟨(some 119), (.build [(.int .i64 0), (.str []), (.int .i64 0), (.int .i64 0)] []), none⟩, ⟨none, (.store 4 (.tmp 2) (.tmp 119)), none⟩, ⟨(some 3), (.mov (.const (.int .i64 2))), none⟩]) .ret) .skip)) (.seq (.region [⟨(some 120), (.mov (.tmp 9)), none⟩, ⟨(some 121), (.iaddr 1 none (.tmp 120) (.const (.int .i64 1))), none⟩, ⟨(some 122), (.load false 1 (.tmp 121)), none⟩, ⟨(some 123), (.call (.const (.func 60 [] [])) [(.tmp 122)]), none⟩, ⟨(some 11), (.mov (.tmp 123)), none⟩]) (.seq (.seq (.region [⟨(some 124), (.mov (.tmp 9)), none⟩, ⟨(some 125), (.iaddr 1 none (.tmp 124) (.const (.int .i64 1))), none⟩, ⟨(some 126), (.load false 1 (.tmp 125)), none⟩, ⟨(some 127), (.lens (.tmp 126)), none⟩, ⟨(some 12), (.mov (.tmp 127)), none⟩]) (.block 0 (.loop ir46L0))) (.region [⟨(some 134), (.mov (.tmp 10)), none⟩, ⟨(some 135), (.mov (.tmp 11)), none⟩, ⟨(some 136), (.bin .add (.tmp 134) (.tmp 135)), none⟩, ⟨(some 10), (.mov (.tmp 136)), none⟩])))) .skip)) (.seq (.seq (.region [⟨(some 137), (.mov (.tmp 10)), none⟩, ⟨(some 138), (.bin .eql (.tmp 137) (.const (.int .i64 0))), none⟩, ⟨(some 139), (.mov (.tmp 138)), none⟩, ⟨(some 140), (.mov (.tmp 8)), (some (139, true))⟩, ⟨(some 141), (.bin .lss (.tmp 140) (.const (.int .i64 0))), (some (139, true))⟩, ⟨(some 142), (.pick (.tmp 139) (.tmp 141) (.const (.bool false))), none⟩]) (.cond (.tmp 142) (.seq (.region [⟨(some 143), (.build [(.int .i64 0), (.str []), (.int .i64 0), (.int .i64 0)] []), none⟩, ⟨none, (.store 4 (.tmp 2) (.tmp 143)), none⟩, ⟨(some 3), (.mov (.const (.int .i64 2))), none⟩]) .ret) .skip)) (.seq (.seq (.region [⟨(some 144), (.mov (.tmp 10)), none⟩, ⟨(some 145), (.bin .gtr (.tmp 144) (.const (.int .i64 1000000000000))), none⟩]) (.cond (.tmp 145) (.seq (.region [⟨(some 146), (.build [(.int .i64 0), (.str []), (.int .i64 0), (.int .i64 0)] []), none⟩, ⟨none, (.store 4 (.tmp 2) (.tmp 146)), none⟩, ⟨(some 3), (.mov (.const (.int .i64 6))), none⟩]) .ret) .skip)) (.seq (.region [⟨(some 147), (.mov (.tmp 8)), none⟩, ⟨(some 148), (.mov (.tmp 10)), none⟩, ⟨(some 149), (.bin .mul (.tmp 147) (.tmp 148)), none⟩, ⟨(some 150), (.build [(.int .i64 0), (.str []), (.int .i64 0), (.int .i64 0)] [(0, (1, (.const (.int .i64 2)))), (2, (1, (.tmp 149)))]), none⟩, ⟨none, (.store 4 (.tmp 2) (.tmp 150)), none⟩, ⟨(some 3), (.mov (.const (.int .i64 0))), none⟩]) .ret)))))))
theorem W_irV {cx : Cx} {e : FE} {s : St} (Q : Sig → FE → St → Prop) : W cx irV e s Q = @WTail cx irV e s ⟨Q⟩ := rfl
def irT : ICode := (.seq (.seq (.region [⟨(some 52), (.mov (.tmp 0)), none⟩, ⟨(some 53), (.call (.const (.func 61 [] [])) [(.tmp 52)]), none⟩, ⟨(some 51), (.mov (.tmp 53)), none⟩, ⟨(some 54), (.extr (.tmp 51) 0), none⟩, ⟨(some 55), (.extr (.tmp 51) 1), none⟩, ⟨(some 6), (.mov (.tmp 54)), none⟩, ⟨(some 7), (.mov (.tmp 55)), none⟩]) (.seq (.region [⟨(some 56), (.mov (.tmp 6)), none⟩]) (.cond (.tmp 56) (.seq (.seq (.region [⟨(some 57), (.mov (.tmp 7)), none⟩, ⟨(some 58), (.un .not (.tmp 57)), none⟩]) (.cond (.tmp 58) (.seq (.region [⟨(some 59), (.build [(.int .i64 0), (.str []), (.int .i64 0), (.int .i64 0)] []), none⟩, ⟨none, (.store 4 (.tmp 2) (.tmp 59)), none⟩, ⟨(some 3), (.mov (.const (.int .i64 6))), none⟩]) .ret) .skip)) (.seq (.region [⟨(some 60), (.mov (.tmp 0)), none⟩, ⟨(some 61), (.build [(.int .i64 0), (.str []), (.int .i64 0), (.int .i64 0)] [(0, (1, (.const (.int .i64 5)))), (1, (1, (.tmp 60)))]), none⟩, ⟨none, (.store 4 (.tmp 2) (.tmp 61)), none⟩, ⟨(some 3), (.mov (.const (.int .i64 0))), none⟩]) .ret)) .skip))) (.seq (.region [⟨(some 8), (.mov (.const (.int .i64 1))), none⟩]) (.seq (.seq (.region [⟨(some 62), (.mov (.tmp 0)), none⟩, ⟨(some 63), (.lens (.tmp 62)), none⟩, ⟨(some 64), (.bin .gtr (.tmp 63) (.const (.int .i64 0))), none⟩, ⟨(some 65), (.mov (.tmp 64)), none⟩, ⟨(some 66), (.mov (.tmp 0)), (some (65, true))⟩, ⟨(some 67), (.idx 1 false none (.tmp 66) (.const (.int .i64 0))), (some (65, true))⟩, ⟨(some 68), (.bin .eql (.tmp 67) (.const (.int .u8 45))), (some (65, true))⟩, ⟨(some 69), (.pick (.tmp 65) (.tmp 68) (.const (.bool false))), none⟩]) (.cond (.tmp 69) (.dregion [(⟨(some 70), (.mov (.tmp 0)), none⟩, 0), (⟨(some 71), (.slcs (.tmp 70) (some (.const (.int .i64 1))) none), none⟩, 1), (⟨(some 8), (.mov (.const (.int .i64 (-1)))), none⟩, 0), (⟨(some 0), (.mov (.tmp 71)), none⟩, 7)]) .skip)) irV)))
theorem W_irT {cx : Cx} {e : FE} {s : St} (Q : Sig → FE → St → Prop) : W cx irT e s Q = @WTail cx irT e s ⟨Q⟩ := rfl
theorem irR_eq : ir46 = ⟨151, [(.cell 2 true 4), (.tmp 3)], (.seq (.region [⟨(some 2), (.alloc 52 [(.int .i64 0), (.str []), (.int .i64 0), (.int .i64 0)]), none⟩, ⟨(some 3), (.mov (.const (.int .i64 0))), none⟩]) (.seq (.seq (.region [⟨(some 13), (.mov (.tmp 0)), none⟩, ⟨(some 14), (.lens (.tmp 13)), none⟩, ⟨(some 15), (.bin .eql (.tmp 14) (.const (.int .i64 5))), none⟩, ⟨(some 16), (.mov (.tmp 15)), none⟩, ⟨(some 17), (.mov (.tmp 0)), (some (16, true))⟩, ⟨(some 18), (.idx 1 false none (.tmp 17) (.const (.int .i64 2))), (some (16, true))⟩, ⟨(some 19), (.bin .eql (.tmp 18) (.const (.int .u8 58))), (some (16, true))⟩, ⟨(some 20), (.pick (.tmp 16) (.tmp 19) (.const (.bool false))), none⟩, ⟨(some 21), (.mov (.tmp 20)), none⟩, ⟨(some 22), (.mov (.tmp 0)), (some (21, true))⟩, ⟨(some 23), (.slcs (.tmp 22) none (some (.const (.int .i64 2)))), (some (21, true))⟩, ⟨(some 24), (.call (.const (.func 60 [] [])) [(.tmp 23)]), (some (21, true))⟩, ⟨(some 25), (.bin .geq (.tmp 24) (.const (.int .i64 0))), (some (21, true))⟩, ⟨(some 26), (.pick (.tmp 21) (.tmp 25) (.const (.bool false))), none⟩, ⟨(some 27), (.mov (.tmp 26)), none⟩, ⟨(some 28), (.mov (.tmp 0)), (some (27, true))⟩, ⟨(some 29), (.slcs (.tmp 28) (some (.const (.int .i64 3))) none), (some (27, true))⟩, ⟨(some 30), (.call (.const (.func 60 [] [])) [(.tmp 29)]), (some (27, true))⟩, ⟨(some 31), (.bin .geq (.tmp 30) (.const (.int .i64 0))), (some (27, true))⟩, ⟨(some 32), (.pick (.tmp 27) (.tmp 31) (.const (.bool false))), none⟩]) (.cond (.tmp 32) (.seq (.dregion [(⟨(some 33), (.mov (.tmp 0)), none⟩, 0), (⟨(some 34), (.slcs (.tmp 33) none (some (.const (.int .i64 2)))), none⟩, 1), (⟨(some 35), (.call (.const (.func 60 [] [])) [(.tmp 34)]), none⟩, 3), (⟨(some 36), (.mov (.tmp 0)), none⟩, 0), (⟨(some 37), (.slcs (.tmp 36) (some (.const (.int .i64 3))) none), none⟩, 8), (⟨(some 38), (.call (.const (.func 60 [] [])) [(.tmp 37)]), none⟩, 31), (⟨(some 4), (.mov (.tmp 35)), none⟩, 63), (⟨(some 5), (.mov (.tmp 38)), none⟩, 127)]) (.seq (.seq (.region [⟨(some 39), (.mov (.tmp 4)), none⟩, ⟨(some 40), (.bin .gtr (.tmp 39) (.const (.int .i64 23))), none⟩, ⟨(some 41), (.mov (.tmp 40)), none⟩, ⟨(some 42), (.mov (.tmp 5)), (some (41, false))⟩, ⟨(some 43), (.bin .gtr (.tmp 42) (.const (.int .i64 59))), (some (41, false))⟩, ⟨(some 44), (.pick (.tmp 41) (.const (.bool true)) (.tmp 43)), none⟩]) (.cond (.tmp 44) (.seq (.region [⟨(some 45), (.build [(.int .i64 0), (.str []), (.int .i64 0), (.int .i64 0)] []), none⟩, ⟨none, (.store 4 (.tmp 2) (.tmp 45)), none⟩, ⟨(some 3), (.mov (.const (.int .i64 6))), none⟩]) .ret) .skip)) (.seq (.region [⟨(some 46), (.mov (.tmp 4)), none⟩, ⟨(some 47), (.bin .mul (.const (.int .i64 60)) (.tmp 46)), none⟩, ⟨(some 48), (.mov (.tmp 5)), none⟩, ⟨(some 49), (.bin .add (.tmp 47) (.tmp 48)), none⟩, ⟨(some 50), (.build [(.int .i64 0), (.str []), (.int .i64 0), (.int .i64 0)] [(0, (1, (.const (.int .i64 4)))), (2, (1, (.tmp 49)))]), none⟩, ⟨none, (.store 4 (.tmp 2) (.tmp 50)), none⟩, ⟨(some 3), (.mov (.const (.int .i64 0))), none⟩]) .ret))) .skip)) irT))⟩ := rfl
theorem numPart (b : List UInt8) (neg : Bool) (hbl : b.length ≤ 100000) (N : Nat) (old : List AV) (st : St) (e8 : FE) (h0 : e8 0 = .str b) (h2 : e8 2 = .ptr N 0) (h8 : e8 8 = .int .i64 (if neg = true then -1 else 1)) (hold : old = [.int .i64 0, .str [], .int .i64 0, .int .i64 0]) (hlk : Fw.look N st.heap = some (.cells (some 52) old)) (hlow : N ≤ st.low) (Q : Sig → FE → St → Prop)
    (hQ : ∀ (e' : FE) (st' : St) (x y : Int), e' 2 = .ptr N 0 → e' 3 = .int .i64 y → Fw.look N st'.heap = some (.cells (some 52) (if y ≠ 0 then [.int .i64 0, .str [], .int .i64 0, .int .i64 0] else [.int .i64 2, .str [], .int .i64 x, .int .i64 0])) → N ≤ st'.low → rnumB neg (splitB 46 b) = (x, y) → Q .ret e' st') : W cx irV e8 st Q := by
  refine W_open irV.eq_1 ?_
  subst hold
  have lp : ∀ x : AObj, Fw.look N (put N x st.heap) = some x := fun x => look_put_self hlk
  have hml : N ≤ min st.low N := by omega
  have kp : ∀ st K, CallW cx 62 [.str b, .int .u8 46] st K = K (.slice (encS (splitB 46 b)) (splitB 46 b).length .no) st := fun st K => c62 b 46 hbl st K
  have hpl := parts_len 46 b
  have hne := splitB_ne 46 b
  generalize splitB 46 b = p at *
  match p, hne with
  | [x], _ =>
    have k1 := fun st K => c60 x (by have := hpl x (by simp); omega) st K
    have s0 : sub (encS [x]) 0 1 = some [.str x] := rfl
    simp only [List.length_cons, List.length_nil, Nat.zero_add, Int.natCast_one] at kp
    simp only [rnumB] at hQ
    cases hw : (decide (x ≠ []) && x.all isD) with
    | false =>
      have ok : wholeOk x = false := by unfold wholeOk; rw [← Bool.and_assoc, hw, Bool.false_and]
      have hng := numR_neg x
      rw [hw] at hng
      have hng : decide (numR x < 0) = true := hng
      rw [ok] at hQ
      simp (config := {contextual := true, implicitDefEqProofs := false, maxSteps := 4000000}) only [go_sem, ↓reduceIte, Bool.false_eq_true, Nat.reduceEqDiff, Nat.reduceAdd, Int.reduceLE, Int.reduceLT, Int.reduceEq, Int.reduceToNat, Int.toNat_natCast, Int.cast_ofNat_Int, Int.natCast_one, Nat.reduceMod, Nat.reduceDiv, UInt8.reduceToNat, Nat.reduceLT, h0, h2, h8, hlk, kp, s0, k1, hng, show decide ((1 : Int) < 0) = false from rfl, show decide ((-1 : Int) < 0) = true from rfl, show decide ((2 : Int) < 1) = false from rfl, show decide ((2 : Int) < 2) = false from rfl, show decide ((1 : Int) = 2) = false from rfl, show decide ((2 : Int) = 2) = true from rfl]
      exact hQ _ _ 0 2 h2 rfl (lp _) hml rfl
    | true =>
    have hng := numR_neg x
    rw [hw] at hng
    have hng : decide (numR x < 0) = false := hng
    obtain ⟨hv, hvl⟩ := numR_ok hw
    have hxp : 0 < x.length := List.length_pos_iff.2 (by simp only [Bool.and_eq_true, decide_eq_true_eq] at hw; exact hw.1)
    have b0 : (0 : Int) < (x.length : Int) := by omega
    have e48 : decide ((((x.getD 0 0).toNat : Nat) : Int) = 48) = decide (x.getD 0 0 = 48) := eq_byte 48 _
    by_cases h1l : 1 < x.length
    case pos =>
      have d9 : decide ((1 : Int) < (x.length : Int)) = true := decide_eq_true (by omega)
      by_cases h48 : x.getD 0 0 = 48
      case pos =>
        rw [decide_eq_true h48] at e48
        have ok : wholeOk x = false := by unfold wholeOk; rw [decide_eq_true h1l, decide_eq_true h48]; simp
        rw [ok] at hQ
        simp (config := {contextual := true, implicitDefEqProofs := false, maxSteps := 4000000}) only [go_sem, ↓reduceIte, Bool.false_eq_true, Nat.reduceEqDiff, Nat.reduceAdd, Int.reduceLE, Int.reduceLT, Int.reduceEq, Int.reduceToNat, Int.toNat_natCast, Int.cast_ofNat_Int, Int.natCast_one, Nat.reduceMod, Nat.reduceDiv, UInt8.reduceToNat, Nat.reduceLT, h0, h2, h8, hlk, kp, s0, k1, hng, d9, b0, e48, show decide ((1 : Int) < 0) = false from rfl, show decide ((-1 : Int) < 0) = true from rfl, show decide ((2 : Int) < 1) = false from rfl, show decide ((2 : Int) < 2) = false from rfl, show decide ((1 : Int) = 2) = false from rfl, show decide ((2 : Int) = 2) = true from rfl]
        exact hQ _ _ 0 2 h2 rfl (lp _) hml rfl
      rw [decide_eq_false h48] at e48
      have ok : wholeOk x = true := by unfold wholeOk; rw [← Bool.and_assoc, hw, decide_eq_true h1l, decide_eq_false h48]; rfl
      rw [ok] at hQ
      rw [hv] at hng k1
      generalize numC x 0 = c at *
      have wc : IntKind.i64.wrap (1000 * (c : Int)) = ((1000 * c : Nat) : Int) := by rw [wrap_i64 (by omega) (by omega)]; omega
      simp only [if_true] at hQ
      obtain ⟨n, hn⟩ : ∃ n, 1000 * c = n := ⟨_, rfl⟩
      rw [hn] at wc hQ
      cases neg with
      | false =>
        have h8 : e8 8 = .int .i64 (1) := h8
        by_cases hn0 : n = 0
        case pos =>
          have z1 : decide ((n : Int) = 0) = true := decide_eq_true (by omega)
          have E : finN false n = ((n : Int), 0) := by unfold finN; rw [Bool.and_false, if_neg (by decide), if_neg (by omega)]; rfl
          have z2 : decide ((1000000000000 : Int) < (n : Int)) = false := decide_eq_false (by omega)
          have z3 : IntKind.i64.wrap (1 * (n : Int)) = (n : Int) := by rw [wrap_i64 (by omega) (by omega)]; omega
          simp (config := {contextual := true, implicitDefEqProofs := false, maxSteps := 4000000}) only [go_sem, ↓reduceIte, Bool.false_eq_true, Nat.reduceEqDiff, Nat.reduceAdd, Int.reduceLE, Int.reduceLT, Int.reduceEq, Int.reduceToNat, Int.toNat_natCast, Int.cast_ofNat_Int, Int.natCast_one, Nat.reduceMod, Nat.reduceDiv, UInt8.reduceToNat, Nat.reduceLT, h0, h2, h8, hlk, kp, s0, k1, hng, d9, wc, b0, e48, h8, z1, z2, z3, show decide ((1 : Int) < 0) = false from rfl, show decide ((-1 : Int) < 0) = true from rfl, show decide ((2 : Int) < 1) = false from rfl, show decide ((2 : Int) < 2) = false from rfl, show decide ((1 : Int) = 2) = false from rfl, show decide ((2 : Int) = 2) = true from rfl]
          exact hQ _ _ (n : Int) 0 h2 rfl (lp _) hml E
        have z1 : decide ((n : Int) = 0) = false := decide_eq_false (by omega)
        by_cases hbig : 1000000000000 < n
        case pos =>
          have z2 : decide ((1000000000000 : Int) < (n : Int)) = true := decide_eq_true (by omega)
          have E : finN false n = (0, 6) := by unfold finN; rw [decide_eq_false hn0, Bool.false_and, if_neg (by decide), if_pos hbig]
          simp (config := {contextual := true, implicitDefEqProofs := false, maxSteps := 4000000}) only [go_sem, ↓reduceIte, Bool.false_eq_true, Nat.reduceEqDiff, Nat.reduceAdd, Int.reduceLE, Int.reduceLT, Int.reduceEq, Int.reduceToNat, Int.toNat_natCast, Int.cast_ofNat_Int, Int.natCast_one, Nat.reduceMod, Nat.reduceDiv, UInt8.reduceToNat, Nat.reduceLT, h0, h2, h8, hlk, kp, s0, k1, hng, d9, wc, b0, e48, h8, z1, z2, show decide ((1 : Int) < 0) = false from rfl, show decide ((-1 : Int) < 0) = true from rfl, show decide ((2 : Int) < 1) = false from rfl, show decide ((2 : Int) < 2) = false from rfl, show decide ((1 : Int) = 2) = false from rfl, show decide ((2 : Int) = 2) = true from rfl]
          exact hQ _ _ 0 6 h2 rfl (lp _) hml E
        have z2 : decide ((1000000000000 : Int) < (n : Int)) = false := decide_eq_false (by omega)
        have E : finN false n = ((n : Int), 0) := by unfold finN; rw [decide_eq_false hn0, Bool.false_and, if_neg (by decide), if_neg hbig]; rfl
        have z3 : IntKind.i64.wrap (1 * (n : Int)) = (n : Int) := by rw [wrap_i64 (by omega) (by omega)]; omega
        simp (config := {contextual := true, implicitDefEqProofs := false, maxSteps := 4000000}) only [go_sem, ↓reduceIte, Bool.false_eq_true, Nat.reduceEqDiff, Nat.reduceAdd, Int.reduceLE, Int.reduceLT, Int.reduceEq, Int.reduceToNat, Int.toNat_natCast, Int.cast_ofNat_Int, Int.natCast_one, Nat.reduceMod, Nat.reduceDiv, UInt8.reduceToNat, Nat.reduceLT, h0, h2, h8, hlk, kp, s0, k1, hng, d9, wc, b0, e48, h8, z1, z2, z3, show decide ((1 : Int) < 0) = false from rfl, show decide ((-1 : Int) < 0) = true from rfl, show decide ((2 : Int) < 1) = false from rfl, show decide ((2 : Int) < 2) = false from rfl, show decide ((1 : Int) = 2) = false from rfl, show decide ((2 : Int) = 2) = true from rfl]
        exact hQ _ _ (n : Int) 0 h2 rfl (lp _) hml E
      | true =>
        have h8 : e8 8 = .int .i64 (-1) := h8
        by_cases hn0 : n = 0
        case pos =>
          have z1 : decide ((n : Int) = 0) = true := decide_eq_true (by omega)
          have E : finN true n = (0, 2) := by unfold finN; rw [decide_eq_true hn0]; rfl
          simp (config := {contextual := true, implicitDefEqProofs := false, maxSteps := 4000000}) only [go_sem, ↓reduceIte, Bool.false_eq_true, Nat.reduceEqDiff, Nat.reduceAdd, Int.reduceLE, Int.reduceLT, Int.reduceEq, Int.reduceToNat, Int.toNat_natCast, Int.cast_ofNat_Int, Int.natCast_one, Nat.reduceMod, Nat.reduceDiv, UInt8.reduceToNat, Nat.reduceLT, h0, h2, h8, hlk, kp, s0, k1, hng, d9, wc, b0, e48, h8, z1, show decide ((1 : Int) < 0) = false from rfl, show decide ((-1 : Int) < 0) = true from rfl, show decide ((2 : Int) < 1) = false from rfl, show decide ((2 : Int) < 2) = false from rfl, show decide ((1 : Int) = 2) = false from rfl, show decide ((2 : Int) = 2) = true from rfl]
          exact hQ _ _ 0 2 h2 rfl (lp _) hml E
        have z1 : decide ((n : Int) = 0) = false := decide_eq_false (by omega)
        by_cases hbig : 1000000000000 < n
        case pos =>
          have z2 : decide ((1000000000000 : Int) < (n : Int)) = true := decide_eq_true (by omega)
          have E : finN true n = (0, 6) := by unfold finN; rw [decide_eq_false hn0, Bool.false_and, if_neg (by decide), if_pos hbig]
          simp (config := {contextual := true, implicitDefEqProofs := false, maxSteps := 4000000}) only [go_sem, ↓reduceIte, Bool.false_eq_true, Nat.reduceEqDiff, Nat.reduceAdd, Int.reduceLE, Int.reduceLT, Int.reduceEq, Int.reduceToNat, Int.toNat_natCast, Int.cast_ofNat_Int, Int.natCast_one, Nat.reduceMod, Nat.reduceDiv, UInt8.reduceToNat, Nat.reduceLT, h0, h2, h8, hlk, kp, s0, k1, hng, d9, wc, b0, e48, h8, z1, z2, show decide ((1 : Int) < 0) = false from rfl, show decide ((-1 : Int) < 0) = true from rfl, show decide ((2 : Int) < 1) = false from rfl, show decide ((2 : Int) < 2) = false from rfl, show decide ((1 : Int) = 2) = false from rfl, show decide ((2 : Int) = 2) = true from rfl]
          exact hQ _ _ 0 6 h2 rfl (lp _) hml E
        have z2 : decide ((1000000000000 : Int) < (n : Int)) = false := decide_eq_false (by omega)
        have E : finN true n = ((-(n : Int)), 0) := by unfold finN; rw [decide_eq_false hn0, Bool.false_and, if_neg (by decide), if_neg hbig]; rfl
        have z3 : IntKind.i64.wrap (-1 * (n : Int)) = (-(n : Int)) := by rw [wrap_i64 (by omega) (by omega)]; omega
        simp (config := {contextual := true, implicitDefEqProofs := false, maxSteps := 4000000}) only [go_sem, ↓reduceIte, Bool.false_eq_true, Nat.reduceEqDiff, Nat.reduceAdd, Int.reduceLE, Int.reduceLT, Int.reduceEq, Int.reduceToNat, Int.toNat_natCast, Int.cast_ofNat_Int, Int.natCast_one, Nat.reduceMod, Nat.reduceDiv, UInt8.reduceToNat, Nat.reduceLT, h0, h2, h8, hlk, kp, s0, k1, hng, d9, wc, b0, e48, h8, z1, z2, z3, show decide ((1 : Int) < 0) = false from rfl, show decide ((-1 : Int) < 0) = true from rfl, show decide ((2 : Int) < 1) = false from rfl, show decide ((2 : Int) < 2) = false from rfl, show decide ((1 : Int) = 2) = false from rfl, show decide ((2 : Int) = 2) = true from rfl]
        exact hQ _ _ (-(n : Int)) 0 h2 rfl (lp _) hml E
    have d9 : decide ((1 : Int) < (x.length : Int)) = false := decide_eq_false (by omega)
    have ok : wholeOk x = true := by unfold wholeOk; rw [← Bool.and_assoc, hw, decide_eq_false h1l]; rfl
    rw [ok] at hQ
    rw [hv] at hng k1
    generalize numC x 0 = c at *
    have wc : IntKind.i64.wrap (1000 * (c : Int)) = ((1000 * c : Nat) : Int) := by rw [wrap_i64 (by omega) (by omega)]; omega
    simp only [if_true] at hQ
    obtain ⟨n, hn⟩ : ∃ n, 1000 * c = n := ⟨_, rfl⟩
    rw [hn] at wc hQ
    cases neg with
    | false =>
      have h8 : e8 8 = .int .i64 (1) := h8
      by_cases hn0 : n = 0
      case pos =>
        have z1 : decide ((n : Int) = 0) = true := decide_eq_true (by omega)
        have E : finN false n = ((n : Int), 0) := by unfold finN; rw [Bool.and_false, if_neg (by decide), if_neg (by omega)]; rfl
        have z2 : decide ((1000000000000 : Int) < (n : Int)) = false := decide_eq_false (by omega)
        have z3 : IntKind.i64.wrap (1 * (n : Int)) = (n : Int) := by rw [wrap_i64 (by omega) (by omega)]; omega
        simp (config := {contextual := true, implicitDefEqProofs := false, maxSteps := 4000000}) only [go_sem, ↓reduceIte, Bool.false_eq_true, Nat.reduceEqDiff, Nat.reduceAdd, Int.reduceLE, Int.reduceLT, Int.reduceEq, Int.reduceToNat, Int.toNat_natCast, Int.cast_ofNat_Int, Int.natCast_one, Nat.reduceMod, Nat.reduceDiv, UInt8.reduceToNat, Nat.reduceLT, h0, h2, h8, hlk, kp, s0, k1, hng, d9, wc, h8, z1, z2, z3, show decide ((1 : Int) < 0) = false from rfl, show decide ((-1 : Int) < 0) = true from rfl, show decide ((2 : Int) < 1) = false from rfl, show decide ((2 : Int) < 2) = false from rfl, show decide ((1 : Int) = 2) = false from rfl, show decide ((2 : Int) = 2) = true from rfl]
        exact hQ _ _ (n : Int) 0 h2 rfl (lp _) hml E
      have z1 : decide ((n : Int) = 0) = false := decide_eq_false (by omega)
      by_cases hbig : 1000000000000 < n
      case pos =>
        have z2 : decide ((1000000000000 : Int) < (n : Int)) = true := decide_eq_true (by omega)
        have E : finN false n = (0, 6) := by unfold finN; rw [decide_eq_false hn0, Bool.false_and, if_neg (by decide), if_pos hbig]
        simp (config := {contextual := true, implicitDefEqProofs := false, maxSteps := 4000000}) only [go_sem, ↓reduceIte, Bool.false_eq_true, Nat.reduceEqDiff, Nat.reduceAdd, Int.reduceLE, Int.reduceLT, Int.reduceEq, Int.reduceToNat, Int.toNat_natCast, Int.cast_ofNat_Int, Int.natCast_one, Nat.reduceMod, Nat.reduceDiv, UInt8.reduceToNat, Nat.reduceLT, h0, h2, h8, hlk, kp, s0, k1, hng, d9, wc, h8, z1, z2, show decide ((1 : Int) < 0) = false from rfl, show decide ((-1 : Int) < 0) = true from rfl, show decide ((2 : Int) < 1) = false from rfl, show decide ((2 : Int) < 2) = false from rfl, show decide ((1 : Int) = 2) = false from rfl, show decide ((2 : Int) = 2) = true from rfl]
        exact hQ _ _ 0 6 h2 rfl (lp _) hml E
      have z2 : decide ((1000000000000 : Int) < (n : Int)) = false := decide_eq_false (by omega)
      have E : finN false n = ((n : Int), 0) := by unfold finN; rw [decide_eq_false hn0, Bool.false_and, if_neg (by decide), if_neg hbig]; rfl
      have z3 : IntKind.i64.wrap (1 * (n : Int)) = (n : Int) := by rw [wrap_i64 (by omega) (by omega)]; omega
      simp (config := {contextual := true, implicitDefEqProofs := false, maxSteps := 4000000}) only [go_sem, ↓reduceIte, Bool.false_eq_true, Nat.reduceEqDiff, Nat.reduceAdd, Int.reduceLE, Int.reduceLT, Int.reduceEq, Int.reduceToNat, Int.toNat_natCast, Int.cast_ofNat_Int, Int.natCast_one, Nat.reduceMod, Nat.reduceDiv, UInt8.reduceToNat, Nat.reduceLT, h0, h2, h8, hlk, kp, s0, k1, hng, d9, wc, h8, z1, z2, z3, show decide ((1 : Int) < 0) = false from rfl, show decide ((-1 : Int) < 0) = true from rfl, show decide ((2 : Int) < 1) = false from rfl, show decide ((2 : Int) < 2) = false from rfl, show decide ((1 : Int) = 2) = false from rfl, show decide ((2 : Int) = 2) = true from rfl]
      exact hQ _ _ (n : Int) 0 h2 rfl (lp _) hml E
    | true =>
      have h8 : e8 8 = .int .i64 (-1) := h8
      by_cases hn0 : n = 0
      case pos =>
        have z1 : decide ((n : Int) = 0) = true := decide_eq_true (by omega)
        have E : finN true n = (0, 2) := by unfold finN; rw [decide_eq_true hn0]; rfl
        simp (config := {contextual := true, implicitDefEqProofs := false, maxSteps := 4000000}) only [go_sem, ↓reduceIte, Bool.false_eq_true, Nat.reduceEqDiff, Nat.reduceAdd, Int.reduceLE, Int.reduceLT, Int.reduceEq, Int.reduceToNat, Int.toNat_natCast, Int.cast_ofNat_Int, Int.natCast_one, Nat.reduceMod, Nat.reduceDiv, UInt8.reduceToNat, Nat.reduceLT, h0, h2, h8, hlk, kp, s0, k1, hng, d9, wc, h8, z1, show decide ((1 : Int) < 0) = false from rfl, show decide ((-1 : Int) < 0) = true from rfl, show decide ((2 : Int) < 1) = false from rfl, show decide ((2 : Int) < 2) = false from rfl, show decide ((1 : Int) = 2) = false from rfl, show decide ((2 : Int) = 2) = true from rfl]
        exact hQ _ _ 0 2 h2 rfl (lp _) hml E
      have z1 : decide ((n : Int) = 0) = false := decide_eq_false (by omega)
      by_cases hbig : 1000000000000 < n
      case pos =>
        have z2 : decide ((1000000000000 : Int) < (n : Int)) = true := decide_eq_true (by omega)
        have E : finN true n = (0, 6) := by unfold finN; rw [decide_eq_false hn0, Bool.false_and, if_neg (by decide), if_pos hbig]
        simp (config := {contextual := true, implicitDefEqProofs := false, maxSteps := 4000000}) only [go_sem, ↓reduceIte, Bool.false_eq_true, Nat.reduceEqDiff, Nat.reduceAdd, Int.reduceLE, Int.reduceLT, Int.reduceEq, Int.reduceToNat, Int.toNat_natCast, Int.cast_ofNat_Int, Int.natCast_one, Nat.reduceMod, Nat.reduceDiv, UInt8.reduceToNat, Nat.reduceLT, h0, h2, h8, hlk, kp, s0, k1, hng, d9, wc, h8, z1, z2, show decide ((1 : Int) < 0) = false from rfl, show decide ((-1 : Int) < 0) = true from rfl, show decide ((2 : Int) < 1) = false from rfl, show decide ((2 : Int) < 2) = false from rfl, show decide ((1 : Int) = 2) = false from rfl, show decide ((2 : Int) = 2) = true from rfl]
        exact hQ _ _ 0 6 h2 rfl (lp _) hml E
      have z2 : decide ((1000000000000 : Int) < (n : Int)) = false := decide_eq_false (by omega)
      have E : finN true n = ((-(n : Int)), 0) := by unfold finN; rw [decide_eq_false hn0, Bool.false_and, if_neg (by decide), if_neg hbig]; rfl
      have z3 : IntKind.i64.wrap (-1 * (n : Int)) = (-(n : Int)) := by rw [wrap_i64 (by omega) (by omega)]; omega
      simp (config := {contextual := true, implicitDefEqProofs := false, maxSteps := 4000000}) only [go_sem, ↓reduceIte, Bool.false_eq_true, Nat.reduceEqDiff, Nat.reduceAdd, Int.reduceLE, Int.reduceLT, Int.reduceEq, Int.reduceToNat, Int.toNat_natCast, Int.cast_ofNat_Int, Int.natCast_one, Nat.reduceMod, Nat.reduceDiv, UInt8.reduceToNat, Nat.reduceLT, h0, h2, h8, hlk, kp, s0, k1, hng, d9, wc, h8, z1, z2, z3, show decide ((1 : Int) < 0) = false from rfl, show decide ((-1 : Int) < 0) = true from rfl, show decide ((2 : Int) < 1) = false from rfl, show decide ((2 : Int) < 2) = false from rfl, show decide ((1 : Int) = 2) = false from rfl, show decide ((2 : Int) = 2) = true from rfl]
      exact hQ _ _ (-(n : Int)) 0 h2 rfl (lp _) hml E
  | [x, f], _ =>
    have k1 := fun st K => c60 x (by have := hpl x (by simp); omega) st K
    have k2 := fun st K => c60 f (by have := hpl f (by simp); omega) st K
    have s0 : sub (encS [x, f]) 0 1 = some [.str x] := rfl
    have s1 : sub (encS [x, f]) 1 1 = some [.str f] := rfl
    simp only [List.length_cons, List.length_nil, Nat.zero_add, Nat.reduceAdd, Int.cast_ofNat_Int] at kp
    simp only [rnumB] at hQ
    cases hw : (decide (x ≠ []) && x.all isD) with
    | false =>
      have ok : wholeOk x = false := by unfold wholeOk; rw [← Bool.and_assoc, hw, Bool.false_and]
      have hng := numR_neg x
      rw [hw] at hng
      have hng : decide (numR x < 0) = true := hng
      rw [ok] at hQ
      simp (config := {contextual := true, implicitDefEqProofs := false, maxSteps := 4000000}) only [go_sem, ↓reduceIte, Bool.false_eq_true, Nat.reduceEqDiff, Nat.reduceAdd, Int.reduceLE, Int.reduceLT, Int.reduceEq, Int.reduceToNat, Int.toNat_natCast, Int.cast_ofNat_Int, Int.natCast_one, Nat.reduceMod, Nat.reduceDiv, UInt8.reduceToNat, Nat.reduceLT, h0, h2, h8, hlk, kp, s0, s1, k1, hng, show decide ((1 : Int) < 0) = false from rfl, show decide ((-1 : Int) < 0) = true from rfl, show decide ((2 : Int) < 1) = false from rfl, show decide ((2 : Int) < 2) = false from rfl, show decide ((1 : Int) = 2) = false from rfl, show decide ((2 : Int) = 2) = true from rfl]
      exact hQ _ _ 0 2 h2 rfl (lp _) hml rfl
    | true =>
    have hng := numR_neg x
    rw [hw] at hng
    have hng : decide (numR x < 0) = false := hng
    obtain ⟨hv, hvl⟩ := numR_ok hw
    have hxp : 0 < x.length := List.length_pos_iff.2 (by simp only [Bool.and_eq_true, decide_eq_true_eq] at hw; exact hw.1)
    have b0 : (0 : Int) < (x.length : Int) := by omega
    have e48 : decide ((((x.getD 0 0).toNat : Nat) : Int) = 48) = decide (x.getD 0 0 = 48) := eq_byte 48 _
    by_cases h1l : 1 < x.length
    case pos =>
      have d9 : decide ((1 : Int) < (x.length : Int)) = true := decide_eq_true (by omega)
      by_cases h48 : x.getD 0 0 = 48
      case pos =>
        rw [decide_eq_true h48] at e48
        have ok : wholeOk x = false := by unfold wholeOk; rw [decide_eq_true h1l, decide_eq_true h48]; simp
        rw [ok] at hQ
        simp (config := {contextual := true, implicitDefEqProofs := false, maxSteps := 4000000}) only [go_sem, ↓reduceIte, Bool.false_eq_true, Nat.reduceEqDiff, Nat.reduceAdd, Int.reduceLE, Int.reduceLT, Int.reduceEq, Int.reduceToNat, Int.toNat_natCast, Int.cast_ofNat_Int, Int.natCast_one, Nat.reduceMod, Nat.reduceDiv, UInt8.reduceToNat, Nat.reduceLT, h0, h2, h8, hlk, kp, s0, s1, k1, hng, d9, b0, e48, show decide ((1 : Int) < 0) = false from rfl, show decide ((-1 : Int) < 0) = true from rfl, show decide ((2 : Int) < 1) = false from rfl, show decide ((2 : Int) < 2) = false from rfl, show decide ((1 : Int) = 2) = false from rfl, show decide ((2 : Int) = 2) = true from rfl]
        exact hQ _ _ 0 2 h2 rfl (lp _) hml rfl
      rw [decide_eq_false h48] at e48
      have ok : wholeOk x = true := by unfold wholeOk; rw [← Bool.and_assoc, hw, decide_eq_true h1l, decide_eq_false h48]; rfl
      rw [ok] at hQ
      rw [hv] at hng k1
      generalize numC x 0 = c at *
      have wc : IntKind.i64.wrap (1000 * (c : Int)) = ((1000 * c : Nat) : Int) := by rw [wrap_i64 (by omega) (by omega)]; omega
      simp only [if_true] at hQ
      by_cases h3l : 3 < f.length
      case pos =>
        have d3 : decide ((3 : Int) < (f.length : Int)) = true := decide_eq_true (by omega)
        have okf : fracOk f = false := by unfold fracOk; rw [decide_eq_false (show ¬ f.length ≤ 3 by omega), Bool.false_and]
        rw [okf] at hQ
        simp (config := {contextual := true, implicitDefEqProofs := false, maxSteps := 4000000}) only [go_sem, ↓reduceIte, Bool.false_eq_true, Nat.reduceEqDiff, Nat.reduceAdd, Int.reduceLE, Int.reduceLT, Int.reduceEq, Int.reduceToNat, Int.toNat_natCast, Int.cast_ofNat_Int, Int.natCast_one, Nat.reduceMod, Nat.reduceDiv, UInt8.reduceToNat, Nat.reduceLT, h0, h2, h8, hlk, kp, s0, s1, k1, hng, d9, wc, b0, e48, d3, show decide ((1 : Int) < 0) = false from rfl, show decide ((-1 : Int) < 0) = true from rfl, show decide ((2 : Int) < 1) = false from rfl, show decide ((2 : Int) < 2) = false from rfl, show decide ((1 : Int) = 2) = false from rfl, show decide ((2 : Int) = 2) = true from rfl]
        exact hQ _ _ 0 2 h2 rfl (lp _) hml rfl
      have d3 : decide ((3 : Int) < (f.length : Int)) = false := decide_eq_false (by omega)
      cases hf : (decide (f ≠ []) && f.all isD) with
      | false =>
        have okf : fracOk f = false := by unfold fracOk; rw [hf, Bool.and_false]
        have hnf := numR_neg f
        rw [hf] at hnf
        have hnf : decide (numR f < 0) = true := hnf
        rw [okf] at hQ
        simp (config := {contextual := true, implicitDefEqProofs := false, maxSteps := 4000000}) only [go_sem, ↓reduceIte, Bool.false_eq_true, Nat.reduceEqDiff, Nat.reduceAdd, Int.reduceLE, Int.reduceLT, Int.reduceEq, Int.reduceToNat, Int.toNat_natCast, Int.cast_ofNat_Int, Int.natCast_one, Nat.reduceMod, Nat.reduceDiv, UInt8.reduceToNat, Nat.reduceLT, h0, h2, h8, hlk, kp, s0, s1, k1, hng, d9, wc, b0, e48, d3, k2, hnf, show decide ((1 : Int) < 0) = false from rfl, show decide ((-1 : Int) < 0) = true from rfl, show decide ((2 : Int) < 1) = false from rfl, show decide ((2 : Int) < 2) = false from rfl, show decide ((1 : Int) = 2) = false from rfl, show decide ((2 : Int) = 2) = true from rfl]
        exact hQ _ _ 0 2 h2 rfl (lp _) hml rfl
      | true =>
      have okf : fracOk f = true := by unfold fracOk; rw [hf, decide_eq_true (show f.length ≤ 3 by omega)]; rfl
      have hnf := numR_neg f
      rw [hf] at hnf
      have hnf : decide (numR f < 0) = false := hnf
      obtain ⟨hvf, _⟩ := numR_ok hf
      have hs := c3_small hf (by omega)
      rw [hvf] at hnf k2
      rw [okf] at hQ
      simp only [if_true] at hQ
      simp (config := {contextual := true, implicitDefEqProofs := false, maxSteps := 4000000}) only [go_sem, ↓reduceIte, Bool.false_eq_true, Nat.reduceEqDiff, Nat.reduceAdd, Int.reduceLE, Int.reduceLT, Int.reduceEq, Int.reduceToNat, Int.toNat_natCast, Int.cast_ofNat_Int, Int.natCast_one, Nat.reduceMod, Nat.reduceDiv, UInt8.reduceToNat, Nat.reduceLT, h0, h2, h8, hlk, kp, s0, s1, k1, hng, d9, wc, b0, e48, d3, k2, hnf, show decide ((1 : Int) < 0) = false from rfl, show decide ((-1 : Int) < 0) = true from rfl, show decide ((2 : Int) < 1) = false from rfl, show decide ((2 : Int) < 2) = false from rfl, show decide ((1 : Int) = 2) = false from rfl, show decide ((2 : Int) = 2) = true from rfl]
      refine l46 _ _ _ _ _ (3 - f.length) f.length (numC f 0) _ (by omega) hs h2 h8 rfl rfl rfl ?_
      intro e8 h2 h8 h10 h11
      generalize numC f 0 * 10 ^ (3 - f.length) = d at *
      have wd : IntKind.i64.wrap (((1000 * c : Nat) : Int) + (d : Int)) = ((1000 * c + d : Nat) : Int) := by rw [wrap_i64 (by omega) (by omega)]; omega
      obtain ⟨n, hn⟩ : ∃ n, 1000 * c + d = n := ⟨_, rfl⟩
      rw [hn] at wd hQ
      cases neg with
      | false =>
        have h8 : e8 8 = .int .i64 (1) := h8
        by_cases hn0 : n = 0
        case pos =>
          have z1 : decide ((n : Int) = 0) = true := decide_eq_true (by omega)
          have E : finN false n = ((n : Int), 0) := by unfold finN; rw [Bool.and_false, if_neg (by decide), if_neg (by omega)]; rfl
          have z2 : decide ((1000000000000 : Int) < (n : Int)) = false := decide_eq_false (by omega)
          have z3 : IntKind.i64.wrap (1 * (n : Int)) = (n : Int) := by rw [wrap_i64 (by omega) (by omega)]; omega
          simp (config := {contextual := true, implicitDefEqProofs := false, maxSteps := 4000000}) only [go_sem, ↓reduceIte, Bool.false_eq_true, Nat.reduceEqDiff, Nat.reduceAdd, Int.reduceLE, Int.reduceLT, Int.reduceEq, Int.reduceToNat, Int.toNat_natCast, Int.cast_ofNat_Int, Int.natCast_one, Nat.reduceMod, Nat.reduceDiv, UInt8.reduceToNat, Nat.reduceLT, h2, h10, h11, wd, hlk, h8, z1, z2, z3, show decide ((1 : Int) < 0) = false from rfl, show decide ((-1 : Int) < 0) = true from rfl, show decide ((2 : Int) < 1) = false from rfl, show decide ((2 : Int) < 2) = false from rfl, show decide ((1 : Int) = 2) = false from rfl, show decide ((2 : Int) = 2) = true from rfl]
          exact hQ _ _ (n : Int) 0 h2 rfl (lp _) hml E
        have z1 : decide ((n : Int) = 0) = false := decide_eq_false (by omega)
        by_cases hbig : 1000000000000 < n
        case pos =>
          have z2 : decide ((1000000000000 : Int) < (n : Int)) = true := decide_eq_true (by omega)
          have E : finN false n = (0, 6) := by unfold finN; rw [decide_eq_false hn0, Bool.false_and, if_neg (by decide), if_pos hbig]
          simp (config := {contextual := true, implicitDefEqProofs := false, maxSteps := 4000000}) only [go_sem, ↓reduceIte, Bool.false_eq_true, Nat.reduceEqDiff, Nat.reduceAdd, Int.reduceLE, Int.reduceLT, Int.reduceEq, Int.reduceToNat, Int.toNat_natCast, Int.cast_ofNat_Int, Int.natCast_one, Nat.reduceMod, Nat.reduceDiv, UInt8.reduceToNat, Nat.reduceLT, h2, h10, h11, wd, hlk, h8, z1, z2, show decide ((1 : Int) < 0) = false from rfl, show decide ((-1 : Int) < 0) = true from rfl, show decide ((2 : Int) < 1) = false from rfl, show decide ((2 : Int) < 2) = false from rfl, show decide ((1 : Int) = 2) = false from rfl, show decide ((2 : Int) = 2) = true from rfl]
          exact hQ _ _ 0 6 h2 rfl (lp _) hml E
        have z2 : decide ((1000000000000 : Int) < (n : Int)) = false := decide_eq_false (by omega)
        have E : finN false n = ((n : Int), 0) := by unfold finN; rw [decide_eq_false hn0, Bool.false_and, if_neg (by decide), if_neg hbig]; rfl
        have z3 : IntKind.i64.wrap (1 * (n : Int)) = (n : Int) := by rw [wrap_i64 (by omega) (by omega)]; omega
        simp (config := {contextual := true, implicitDefEqProofs := false, maxSteps := 4000000}) only [go_sem, ↓reduceIte, Bool.false_eq_true, Nat.reduceEqDiff, Nat.reduceAdd, Int.reduceLE, Int.reduceLT, Int.reduceEq, Int.reduceToNat, Int.toNat_natCast, Int.cast_ofNat_Int, Int.natCast_one, Nat.reduceMod, Nat.reduceDiv, UInt8.reduceToNat, Nat.reduceLT, h2, h10, h11, wd, hlk, h8, z1, z2, z3, show decide ((1 : Int) < 0) = false from rfl, show decide ((-1 : Int) < 0) = true from rfl, show decide ((2 : Int) < 1) = false from rfl, show decide ((2 : Int) < 2) = false from rfl, show decide ((1 : Int) = 2) = false from rfl, show decide ((2 : Int) = 2) = true from rfl]
        exact hQ _ _ (n : Int) 0 h2 rfl (lp _) hml E
      | true =>
        have h8 : e8 8 = .int .i64 (-1) := h8
        by_cases hn0 : n = 0
        case pos =>
          have z1 : decide ((n : Int) = 0) = true := decide_eq_true (by omega)
          have E : finN true n = (0, 2) := by unfold finN; rw [decide_eq_true hn0]; rfl
          simp (config := {contextual := true, implicitDefEqProofs := false, maxSteps := 4000000}) only [go_sem, ↓reduceIte, Bool.false_eq_true, Nat.reduceEqDiff, Nat.reduceAdd, Int.reduceLE, Int.reduceLT, Int.reduceEq, Int.reduceToNat, Int.toNat_natCast, Int.cast_ofNat_Int, Int.natCast_one, Nat.reduceMod, Nat.reduceDiv, UInt8.reduceToNat, Nat.reduceLT, h2, h10, h11, wd, hlk, h8, z1, show decide ((1 : Int) < 0) = false from rfl, show decide ((-1 : Int) < 0) = true from rfl, show decide ((2 : Int) < 1) = false from rfl, show decide ((2 : Int) < 2) = false from rfl, show decide ((1 : Int) = 2) = false from rfl, show decide ((2 : Int) = 2) = true from rfl]
          exact hQ _ _ 0 2 h2 rfl (lp _) hml E
        have z1 : decide ((n : Int) = 0) = false := decide_eq_false (by omega)
        by_cases hbig : 1000000000000 < n
        case pos =>
          have z2 : decide ((1000000000000 : Int) < (n : Int)) = true := decide_eq_true (by omega)
          have E : finN true n = (0, 6) := by unfold finN; rw [decide_eq_false hn0, Bool.false_and, if_neg (by decide), if_pos hbig]
          simp (config := {contextual := true, implicitDefEqProofs := false, maxSteps := 4000000}) only [go_sem, ↓reduceIte, Bool.false_eq_true, Nat.reduceEqDiff, Nat.reduceAdd, Int.reduceLE, Int.reduceLT, Int.reduceEq, Int.reduceToNat, Int.toNat_natCast, Int.cast_ofNat_Int, Int.natCast_one, Nat.reduceMod, Nat.reduceDiv, UInt8.reduceToNat, Nat.reduceLT, h2, h10, h11, wd, hlk, h8, z1, z2, show decide ((1 : Int) < 0) = false from rfl, show decide ((-1 : Int) < 0) = true from rfl, show decide ((2 : Int) < 1) = false from rfl, show decide ((2 : Int) < 2) = false from rfl, show decide ((1 : Int) = 2) = false from rfl, show decide ((2 : Int) = 2) = true from rfl]
          exact hQ _ _ 0 6 h2 rfl (lp _) hml E
        have z2 : decide ((1000000000000 : Int) < (n : Int)) = false := decide_eq_false (by omega)
        have E : finN true n = ((-(n : Int)), 0) := by unfold finN; rw [decide_eq_false hn0, Bool.false_and, if_neg (by decide), if_neg hbig]; rfl
        have z3 : IntKind.i64.wrap (-1 * (n : Int)) = (-(n : Int)) := by rw [wrap_i64 (by omega) (by omega)]; omega
        simp (config := {contextual := true, implicitDefEqProofs := false, maxSteps := 4000000}) only [go_sem, ↓reduceIte, Bool.false_eq_true, Nat.reduceEqDiff, Nat.reduceAdd, Int.reduceLE, Int.reduceLT, Int.reduceEq, Int.reduceToNat, Int.toNat_natCast, Int.cast_ofNat_Int, Int.natCast_one, Nat.reduceMod, Nat.reduceDiv, UInt8.reduceToNat, Nat.reduceLT, h2, h10, h11, wd, hlk, h8, z1, z2, z3, show decide ((1 : Int) < 0) = false from rfl, show decide ((-1 : Int) < 0) = true from rfl, show decide ((2 : Int) < 1) = false from rfl, show decide ((2 : Int) < 2) = false from rfl, show decide ((1 : Int) = 2) = false from rfl, show decide ((2 : Int) = 2) = true from rfl]
        exact hQ _ _ (-(n : Int)) 0 h2 rfl (lp _) hml E
    have d9 : decide ((1 : Int) < (x.length : Int)) = false := decide_eq_false (by omega)
    have ok : wholeOk x = true := by unfold wholeOk; rw [← Bool.and_assoc, hw, decide_eq_false h1l]; rfl
    rw [ok] at hQ
    rw [hv] at hng k1
    generalize numC x 0 = c at *
    have wc : IntKind.i64.wrap (1000 * (c : Int)) = ((1000 * c : Nat) : Int) := by rw [wrap_i64 (by omega) (by omega)]; omega
    simp only [if_true] at hQ
    by_cases h3l : 3 < f.length
    case pos =>
      have d3 : decide ((3 : Int) < (f.length : Int)) = true := decide_eq_true (by omega)
      have okf : fracOk f = false := by unfold fracOk; rw [decide_eq_false (show ¬ f.length ≤ 3 by omega), Bool.false_and]
      rw [okf] at hQ
      simp (config := {contextual := true, implicitDefEqProofs := false, maxSteps := 4000000}) only [go_sem, ↓reduceIte, Bool.false_eq_true, Nat.reduceEqDiff, Nat.reduceAdd, Int.reduceLE, Int.reduceLT, Int.reduceEq, Int.reduceToNat, Int.toNat_natCast, Int.cast_ofNat_Int, Int.natCast_one, Nat.reduceMod, Nat.reduceDiv, UInt8.reduceToNat, Nat.reduceLT, h0, h2, h8, hlk, kp, s0, s1, k1, hng, d9, wc, d3, show decide ((1 : Int) < 0) = false from rfl, show decide ((-1 : Int) < 0) = true from rfl, show decide ((2 : Int) < 1) = false from rfl, show decide ((2 : Int) < 2) = false from rfl, show decide ((1 : Int) = 2) = false from rfl, show decide ((2 : Int) = 2) = true from rfl]
      exact hQ _ _ 0 2 h2 rfl (lp _) hml rfl
    have d3 : decide ((3 : Int) < (f.length : Int)) = false := decide_eq_false (by omega)
    cases hf : (decide (f ≠ []) && f.all isD) with
    | false =>
      have okf : fracOk f = false := by unfold fracOk; rw [hf, Bool.and_false]
      have hnf := numR_neg f
      rw [hf] at hnf
      have hnf : decide (numR f < 0) = true := hnf
      rw [okf] at hQ
      simp (config := {contextual := true, implicitDefEqProofs := false, maxSteps := 4000000}) only [go_sem, ↓reduceIte, Bool.false_eq_true, Nat.reduceEqDiff, Nat.reduceAdd, Int.reduceLE, Int.reduceLT, Int.reduceEq, Int.reduceToNat, Int.toNat_natCast, Int.cast_ofNat_Int, Int.natCast_one, Nat.reduceMod, Nat.reduceDiv, UInt8.reduceToNat, Nat.reduceLT, h0, h2, h8, hlk, kp, s0, s1, k1, hng, d9, wc, d3, k2, hnf, show decide ((1 : Int) < 0) = false from rfl, show decide ((-1 : Int) < 0) = true from rfl, show decide ((2 : Int) < 1) = false from rfl, show decide ((2 : Int) < 2) = false from rfl, show decide ((1 : Int) = 2) = false from rfl, show decide ((2 : Int) = 2) = true from rfl]
      exact hQ _ _ 0 2 h2 rfl (lp _) hml rfl
    | true =>
    have okf : fracOk f = true := by unfold fracOk; rw [hf, decide_eq_true (show f.length ≤ 3 by omega)]; rfl
    have hnf := numR_neg f
    rw [hf] at hnf
    have hnf : decide (numR f < 0) = false := hnf
    obtain ⟨hvf, _⟩ := numR_ok hf
    have hs := c3_small hf (by omega)
    rw [hvf] at hnf k2
    rw [okf] at hQ
    simp only [if_true] at hQ
    simp (config := {contextual := true, implicitDefEqProofs := false, maxSteps := 4000000}) only [go_sem, ↓reduceIte, Bool.false_eq_true, Nat.reduceEqDiff, Nat.reduceAdd, Int.reduceLE, Int.reduceLT, Int.reduceEq, Int.reduceToNat, Int.toNat_natCast, Int.cast_ofNat_Int, Int.natCast_one, Nat.reduceMod, Nat.reduceDiv, UInt8.reduceToNat, Nat.reduceLT, h0, h2, h8, hlk, kp, s0, s1, k1, hng, d9, wc, d3, k2, hnf, show decide ((1 : Int) < 0) = false from rfl, show decide ((-1 : Int) < 0) = true from rfl, show decide ((2 : Int) < 1) = false from rfl, show decide ((2 : Int) < 2) = false from rfl, show decide ((1 : Int) = 2) = false from rfl, show decide ((2 : Int) = 2) = true from rfl]
    refine l46 _ _ _ _ _ (3 - f.length) f.length (numC f 0) _ (by omega) hs h2 h8 rfl rfl rfl ?_
    intro e8 h2 h8 h10 h11
    generalize numC f 0 * 10 ^ (3 - f.length) = d at *
    have wd : IntKind.i64.wrap (((1000 * c : Nat) : Int) + (d : Int)) = ((1000 * c + d : Nat) : Int) := by rw [wrap_i64 (by omega) (by omega)]; omega
    obtain ⟨n, hn⟩ : ∃ n, 1000 * c + d = n := ⟨_, rfl⟩
    rw [hn] at wd hQ
    cases neg with
    | false =>
      have h8 : e8 8 = .int .i64 (1) := h8
      by_cases hn0 : n = 0
      case pos =>
        have z1 : decide ((n : Int) = 0) = true := decide_eq_true (by omega)
        have E : finN false n = ((n : Int), 0) := by unfold finN; rw [Bool.and_false, if_neg (by decide), if_neg (by omega)]; rfl
        have z2 : decide ((1000000000000 : Int) < (n : Int)) = false := decide_eq_false (by omega)
        have z3 : IntKind.i64.wrap (1 * (n : Int)) = (n : Int) := by rw [wrap_i64 (by omega) (by omega)]; omega
        simp (config := {contextual := true, implicitDefEqProofs := false, maxSteps := 4000000}) only [go_sem, ↓reduceIte, Bool.false_eq_true, Nat.reduceEqDiff, Nat.reduceAdd, Int.reduceLE, Int.reduceLT, Int.reduceEq, Int.reduceToNat, Int.toNat_natCast, Int.cast_ofNat_Int, Int.natCast_one, Nat.reduceMod, Nat.reduceDiv, UInt8.reduceToNat, Nat.reduceLT, h2, h10, h11, wd, hlk, h8, z1, z2, z3, show decide ((1 : Int) < 0) = false from rfl, show decide ((-1 : Int) < 0) = true from rfl, show decide ((2 : Int) < 1) = false from rfl, show decide ((2 : Int) < 2) = false from rfl, show decide ((1 : Int) = 2) = false from rfl, show decide ((2 : Int) = 2) = true from rfl]
        exact hQ _ _ (n : Int) 0 h2 rfl (lp _) hml E
      have z1 : decide ((n : Int) = 0) = false := decide_eq_false (by omega)
      by_cases hbig : 1000000000000 < n
      case pos =>
        have z2 : decide ((1000000000000 : Int) < (n : Int)) = true := decide_eq_true (by omega)
        have E : finN false n = (0, 6) := by unfold finN; rw [decide_eq_false hn0, Bool.false_and, if_neg (by decide), if_pos hbig]
        simp (config := {contextual := true, implicitDefEqProofs := false, maxSteps := 4000000}) only [go_sem, ↓reduceIte, Bool.false_eq_true, Nat.reduceEqDiff, Nat.reduceAdd, Int.reduceLE, Int.reduceLT, Int.reduceEq, Int.reduceToNat, Int.toNat_natCast, Int.cast_ofNat_Int, Int.natCast_one, Nat.reduceMod, Nat.reduceDiv, UInt8.reduceToNat, Nat.reduceLT, h2, h10, h11, wd, hlk, h8, z1, z2, show decide ((1 : Int) < 0) = false from rfl, show decide ((-1 : Int) < 0) = true from rfl, show decide ((2 : Int) < 1) = false from rfl, show decide ((2 : Int) < 2) = false from rfl, show decide ((1 : Int) = 2) = false from rfl, show decide ((2 : Int) = 2) = true from rfl]
        exact hQ _ _ 0 6 h2 rfl (lp _) hml E
      have z2 : decide ((1000000000000 : Int) < (n : Int)) = false := decide_eq_false (by omega)
      have E : finN false n = ((n : Int), 0) := by unfold finN; rw [decide_eq_false hn0, Bool.false_and, if_neg (by decide), if_neg hbig]; rfl
      have z3 : IntKind.i64.wrap (1 * (n : Int)) = (n : Int) := by rw [wrap_i64 (by omega) (by omega)]; omega
      simp (config := {contextual := true, implicitDefEqProofs := false, maxSteps := 4000000}) only [go_sem, ↓reduceIte, Bool.false_eq_true, Nat.reduceEqDiff, Nat.reduceAdd, Int.reduceLE, Int.reduceLT, Int.reduceEq, Int.reduceToNat, Int.toNat_natCast, Int.cast_ofNat_Int, Int.natCast_one, Nat.reduceMod, Nat.reduceDiv, UInt8.reduceToNat, Nat.reduceLT, h2, h10, h11, wd, hlk, h8, z1, z2, z3, show decide ((1 : Int) < 0) = false from rfl, show decide ((-1 : Int) < 0) = true from rfl, show decide ((2 : Int) < 1) = false from rfl, show decide ((2 : Int) < 2) = false from rfl, show decide ((1 : Int) = 2) = false from rfl, show decide ((2 : Int) = 2) = true from rfl]
      exact hQ _ _ (n : Int) 0 h2 rfl (lp _) hml E
    | true =>
      have h8 : e8 8 = .int .i64 (-1) := h8
      by_cases hn0 : n = 0
      case pos =>
        have z1 : decide ((n : Int) = 0) = true := decide_eq_true (by omega)
        have E : finN true n = (0, 2) := by unfold finN; rw [decide_eq_true hn0]; rfl
        simp (config := {contextual := true, implicitDefEqProofs := false, maxSteps := 4000000}) only [go_sem, ↓reduceIte, Bool.false_eq_true, Nat.reduceEqDiff, Nat.reduceAdd, Int.reduceLE, Int.reduceLT, Int.reduceEq, Int.reduceToNat, Int.toNat_natCast, Int.cast_ofNat_Int, Int.natCast_one, Nat.reduceMod, Nat.reduceDiv, UInt8.reduceToNat, Nat.reduceLT, h2, h10, h11, wd, hlk, h8, z1, show decide ((1 : Int) < 0) = false from rfl, show decide ((-1 : Int) < 0) = true from rfl, show decide ((2 : Int) < 1) = false from rfl, show decide ((2 : Int) < 2) = false from rfl, show decide ((1 : Int) = 2) = false from rfl, show decide ((2 : Int) = 2) = true from rfl]
        exact hQ _ _ 0 2 h2 rfl (lp _) hml E
      have z1 : decide ((n : Int) = 0) = false := decide_eq_false (by omega)
      by_cases hbig : 1000000000000 < n
      case pos =>
        have z2 : decide ((1000000000000 : Int) < (n : Int)) = true := decide_eq_true (by omega)
        have E : finN true n = (0, 6) := by unfold finN; rw [decide_eq_false hn0, Bool.false_and, if_neg (by decide), if_pos hbig]
        simp (config := {contextual := true, implicitDefEqProofs := false, maxSteps := 4000000}) only [go_sem, ↓reduceIte, Bool.false_eq_true, Nat.reduceEqDiff, Nat.reduceAdd, Int.reduceLE, Int.reduceLT, Int.reduceEq, Int.reduceToNat, Int.toNat_natCast, Int.cast_ofNat_Int, Int.natCast_one, Nat.reduceMod, Nat.reduceDiv, UInt8.reduceToNat, Nat.reduceLT, h2, h10, h11, wd, hlk, h8, z1, z2, show decide ((1 : Int) < 0) = false from rfl, show decide ((-1 : Int) < 0) = true from rfl, show decide ((2 : Int) < 1) = false from rfl, show decide ((2 : Int) < 2) = false from rfl, show decide ((1 : Int) = 2) = false from rfl, show decide ((2 : Int) = 2) = true from rfl]
        exact hQ _ _ 0 6 h2 rfl (lp _) hml E
      have z2 : decide ((1000000000000 : Int) < (n : Int)) = false := decide_eq_false (by omega)
      have E : finN true n = ((-(n : Int)), 0) := by unfold finN; rw [decide_eq_false hn0, Bool.false_and, if_neg (by decide), if_neg hbig]; rfl
      have z3 : IntKind.i64.wrap (-1 * (n : Int)) = (-(n : Int)) := by rw [wrap_i64 (by omega) (by omega)]; omega
      simp (config := {contextual := true, implicitDefEqProofs := false, maxSteps := 4000000}) only [go_sem, ↓reduceIte, Bool.false_eq_true, Nat.reduceEqDiff, Nat.reduceAdd, Int.reduceLE, Int.reduceLT, Int.reduceEq, Int.reduceToNat, Int.toNat_natCast, Int.cast_ofNat_Int, Int.natCast_one, Nat.reduceMod, Nat.reduceDiv, UInt8.reduceToNat, Nat.reduceLT, h2, h10, h11, wd, hlk, h8, z1, z2, z3, show decide ((1 : Int) < 0) = false from rfl, show decide ((-1 : Int) < 0) = true from rfl, show decide ((2 : Int) < 1) = false from rfl, show decide ((2 : Int) < 2) = false from rfl, show decide ((1 : Int) = 2) = false from rfl, show decide ((2 : Int) = 2) = true from rfl]
      exact hQ _ _ (-(n : Int)) 0 h2 rfl (lp _) hml E
  | x :: y :: z :: l, _ =>
    have E : rnumB neg (x :: y :: z :: l) = (0, 2) := rfl
    have hlen : 2 < (x :: y :: z :: l).length := by simp only [List.length_cons]; omega
    generalize hq : (x :: y :: z :: l) = q at *
    clear hq
    have d2 : decide ((2 : Int) < (q.length : Int)) = true := decide_eq_true (by omega)
    simp (config := {contextual := true, implicitDefEqProofs := false, maxSteps := 4000000}) only [go_sem, ↓reduceIte, Bool.false_eq_true, Nat.reduceEqDiff, Nat.reduceAdd, Int.reduceLE, Int.reduceLT, Int.reduceEq, Int.reduceToNat, Int.toNat_natCast, Int.cast_ofNat_Int, Int.natCast_one, Nat.reduceMod, Nat.reduceDiv, UInt8.reduceToNat, Nat.reduceLT, h0, h2, h8, hlk, kp, d2, show decide ((1 : Int) < 0) = false from rfl, show decide ((-1 : Int) < 0) = true from rfl, show decide ((2 : Int) < 1) = false from rfl, show decide ((2 : Int) < 2) = false from rfl, show decide ((1 : Int) = 2) = false from rfl, show decide ((2 : Int) = 2) = true from rfl]
    exact hQ _ _ 0 2 h2 rfl (lp _) hml E
/-- What follows the time's form. -/
theorem restPart (a : List UInt8) (hl : a.length ≤ 100000) (hcl : (clockB a).2.1 = false) (N : Nat) (old : List AV) (st : St) (e : FE) (h0 : e 0 = .str a) (h2 : e 2 = .ptr N 0) (hold : old = [.int .i64 0, .str [], .int .i64 0, .int .i64 0]) (hlk : Fw.look N st.heap = some (.cells (some 52) old)) (hlow : N ≤ st.low) (Q : Sig → FE → St → Prop)
    (hQ : ∀ (e' : FE) (st' : St), e' 2 = .ptr N 0 → e' 3 = .int .i64 (figB a).2 → Fw.look N st'.heap = some (.cells (some 52) (figB a).1) → N ≤ st'.low → Q .ret e' st') : W cx irT e st Q := by
  refine W_open irT.eq_1 ?_
  have lp : ∀ x : AObj, Fw.look N (put N x st.heap) = some x := fun x => look_put_self hlk
  have hml : N ≤ min st.low N := by omega
  have kd := fun st K => c61 a hl st K
  have hlk' := hlk
  rw [hold] at hlk'
  cases hd1 : (dateB a).1 with
  | true =>
    rw [hd1] at kd
    cases hd2 : (dateB a).2 with
    | true =>
      rw [hd2] at kd
      have E : figB a = ([.int .i64 5, .str a, .int .i64 0, .int .i64 0], 0) := by unfold figB; rw [hcl, hd1, hd2]; rfl
      rw [E] at hQ
      simp (config := {contextual := true, implicitDefEqProofs := false, maxSteps := 4000000}) only [go_sem, ↓reduceIte, Bool.false_eq_true, Nat.reduceEqDiff, Nat.reduceAdd, Int.reduceLE, Int.reduceLT, Int.reduceEq, Int.reduceToNat, Int.toNat_natCast, Int.cast_ofNat_Int, Int.natCast_one, Nat.reduceMod, Nat.reduceDiv, UInt8.reduceToNat, Nat.reduceLT, h0, h2, hlk', kd]
      exact hQ _ _ h2 rfl (lp _) hml
    | false =>
      rw [hd2] at kd
      have E : figB a = ([.int .i64 0, .str [], .int .i64 0, .int .i64 0], 6) := by unfold figB; rw [hcl, hd1, hd2]; rfl
      rw [E] at hQ
      simp (config := {contextual := true, implicitDefEqProofs := false, maxSteps := 4000000}) only [go_sem, ↓reduceIte, Bool.false_eq_true, Nat.reduceEqDiff, Nat.reduceAdd, Int.reduceLE, Int.reduceLT, Int.reduceEq, Int.reduceToNat, Int.toNat_natCast, Int.cast_ofNat_Int, Int.natCast_one, Nat.reduceMod, Nat.reduceDiv, UInt8.reduceToNat, Nat.reduceLT, h0, h2, hlk', kd]
      exact hQ _ _ h2 rfl (lp _) hml
  | false =>
  rw [hd1] at kd
  rw [fig_num a hcl hd1] at hQ
  have wm1 : IntKind.i64.wrap (-1) = -1 := by rw [wrap_i64 (by omega) (by omega)]
  have go : ∀ (neg : Bool) (b : List UInt8), decide (a.head? = some 45) = neg → bodyB a = b → b.length ≤ 100000 → ∀ e1 : FE, e1 0 = .str b → e1 2 = .ptr N 0 → e1 8 = .int .i64 (if neg = true then -1 else 1) → W cx irV e1 st Q := by
    intro neg b hh hb hbl e1 g0 g2 g8
    rw [hh, hb] at hQ
    refine numPart b neg hbl N old st e1 g0 g2 g8 hold hlk hlow Q ?_
    intro e' st' x y a1 a2 a3 a4 a5
    rw [a5] at hQ
    simp only at hQ
    by_cases hy : y ≠ 0
    · rw [if_pos hy] at hQ a3
      exact hQ e' st' a1 a2 a3 a4
    · rw [if_neg hy] at hQ a3
      have hy0 : y = 0 := by omega
      subst hy0
      exact hQ e' st' a1 a2 a3 a4
  by_cases h0a : a = []
  case pos =>
    have p0 : decide ((0 : Int) < (a.length : Int)) = false := by rw [h0a]; rfl
    simp (config := {contextual := true, implicitDefEqProofs := false, maxSteps := 4000000}) only [go_sem, ↓reduceIte, Bool.false_eq_true, Nat.reduceEqDiff, Nat.reduceAdd, Int.reduceLE, Int.reduceLT, Int.reduceEq, Int.reduceToNat, Int.toNat_natCast, Int.cast_ofNat_Int, Int.natCast_one, Nat.reduceMod, Nat.reduceDiv, UInt8.reduceToNat, Nat.reduceLT, h0, h2, hlk', kd, p0, ↓W_irV]
    refine WTail.of (go false [] (by rw [h0a]; rfl) (by rw [h0a]; rfl) (Nat.zero_le _) _ ?_ h2 rfl)
    show e 0 = _
    rw [h0, h0a]
  have hap : 0 < a.length := List.length_pos_iff.2 h0a
  have p0 : decide ((0 : Int) < (a.length : Int)) = true := decide_eq_true (by omega)
  have p1 : (0 : Int) < (a.length : Int) := by omega
  have e45 : decide ((((a.getD 0 0).toNat : Nat) : Int) = 45) = decide (a.getD 0 0 = 45) := eq_byte 45 _
  by_cases h45 : a.getD 0 0 = 45
  case pos =>
    rw [decide_eq_true h45] at e45
    have hh : decide (a.head? = some 45) = true ∧ bodyB a = a.drop 1 := by
      cases a with
      | nil => simp at hap
      | cons q l =>
        have h45 : q = 45 := h45
        subst h45
        exact ⟨rfl, rfl⟩
    have s9 : (0 : Int) ≤ 1 ∧ (1 : Int) ≤ (a.length : Int) := by omega
    simp (config := {contextual := true, implicitDefEqProofs := false, maxSteps := 4000000}) only [go_sem, ↓reduceIte, Bool.false_eq_true, Nat.reduceEqDiff, Nat.reduceAdd, Int.reduceLE, Int.reduceLT, Int.reduceEq, Int.reduceToNat, Int.toNat_natCast, Int.cast_ofNat_Int, Int.natCast_one, Nat.reduceMod, Nat.reduceDiv, UInt8.reduceToNat, Nat.reduceLT, h0, h2, hlk', kd, p0, p1, e45, s9, wm1, ↓W_irV]
    exact WTail.of (go true (a.drop 1) hh.1 hh.2 (by rw [List.length_drop]; omega) _ rfl h2 rfl)
  rw [decide_eq_false h45] at e45
  have hh : decide (a.head? = some 45) = false ∧ bodyB a = a := by
    cases a with
    | nil => simp at hap
    | cons q l =>
      have h45 : q ≠ 45 := h45
      unfold bodyB
      simp [h45]
  simp (config := {contextual := true, implicitDefEqProofs := false, maxSteps := 4000000}) only [go_sem, ↓reduceIte, Bool.false_eq_true, Nat.reduceEqDiff, Nat.reduceAdd, Int.reduceLE, Int.reduceLT, Int.reduceEq, Int.reduceToNat, Int.toNat_natCast, Int.cast_ofNat_Int, Int.natCast_one, Nat.reduceMod, Nat.reduceDiv, UInt8.reduceToNat, Nat.reduceLT, h0, h2, hlk', kd, p0, p1, e45, ↓W_irV]
  exact WTail.of (go false a hh.1 hh.2 hl _ h0 h2 rfl)
theorem fig_shape (a : List UInt8) : ∃ (x : Int) (y : List UInt8) (z : Int), (figB a).1 = [.int .i64 x, .str y, .int .i64 z, .int .i64 0] := by
  unfold figB
  split
  · split
    · exact ⟨_, _, _, rfl⟩
    · exact ⟨_, _, _, rfl⟩
  split
  · split
    · exact ⟨_, _, _, rfl⟩
    · exact ⟨_, _, _, rfl⟩
  split
  · exact ⟨_, _, _, rfl⟩
  · exact ⟨_, _, _, rfl⟩
theorem c46a (a : List UInt8) (hl : a.length ≤ 100000) (h5 : a.length ≠ 5) (s : St) (K : AV → St → Prop) : CallW cx 46 [.str a] s K = K (.tuple [.agg (figB a).1, .int .i64 (figB a).2]) s := by
  refine CallW.eq (CallW.fn' (fn := ir46) rfl rfl (by kernel_rfl) irR_eq ?_) K
  have q1 : decide ((a.length : Int) = 5) = false := decide_eq_false (by omega)
  have hcl : (clockB a).2.1 = false := by unfold clockB clockF; rw [decide_eq_false h5]; rfl
  simp (config := {contextual := true, implicitDefEqProofs := false, maxSteps := 4000000}) only [go_sem, ↓reduceIte, Bool.false_eq_true, Nat.reduceEqDiff, Nat.reduceAdd, Int.reduceLE, Int.reduceLT, Int.reduceEq, Int.reduceToNat, Int.toNat_natCast, Int.cast_ofNat_Int, Int.natCast_one, Nat.reduceMod, Nat.reduceDiv, UInt8.reduceToNat, Nat.reduceLT, q1, ↓W_irT]
  refine WTail.of (restPart a hl hcl s.next _ _ _ rfl rfl rfl (by simp [Fw.look]) (by simp) _ ?_)
  intro e' st' a1 a2 a3 a4
  obtain ⟨f1, f2, f3, hf⟩ := fig_shape a
  rw [hf] at a3 ⊢
  have hl := fun K => LeaveW_tfreeA (s := s) (s' := st') (vs := [.agg [.int .i64 f1, .str f2, .int .i64 f3, .int .i64 0], .int .i64 (figB a).2]) rfl a4 K
  simp (config := {contextual := true, implicitDefEqProofs := false, maxSteps := 4000000}) only [go_sem, ↓reduceIte, Bool.false_eq_true, Nat.reduceEqDiff, Nat.reduceAdd, Int.reduceLE, Int.reduceLT, Int.reduceEq, Int.reduceToNat, Int.toNat_natCast, Int.cast_ofNat_Int, Int.natCast_one, Nat.reduceMod, Nat.reduceDiv, UInt8.reduceToNat, Nat.reduceLT, a1, a2, a3, hl]
  rfl
theorem c46b (a : List UInt8) (hl : a.length ≤ 100000) (h5 : a.length = 5) (h58 : a.getD 2 0 ≠ 58) (s : St) (K : AV → St → Prop) : CallW cx 46 [.str a] s K = K (.tuple [.agg (figB a).1, .int .i64 (figB a).2]) s := by
  refine CallW.eq (CallW.fn' (fn := ir46) rfl rfl (by kernel_rfl) irR_eq ?_) K
  have q1 : decide ((a.length : Int) = 5) = true := decide_eq_true (by omega)
  have q2 : decide ((((a.getD 2 0).toNat : Nat) : Int) = 58) = false := by rw [show (58 : Int) = (((58 : UInt8).toNat : Nat) : Int) from rfl, eq_byte 58]; exact decide_eq_false h58
  have q3 : (2 : Int) < (a.length : Int) := by omega
  have hcl : (clockB a).2.1 = false := by unfold clockB clockF; rw [decide_eq_false h58]; simp
  simp (config := {contextual := true, implicitDefEqProofs := false, maxSteps := 4000000}) only [go_sem, ↓reduceIte, Bool.false_eq_true, Nat.reduceEqDiff, Nat.reduceAdd, Int.reduceLE, Int.reduceLT, Int.reduceEq, Int.reduceToNat, Int.toNat_natCast, Int.cast_ofNat_Int, Int.natCast_one, Nat.reduceMod, Nat.reduceDiv, UInt8.reduceToNat, Nat.reduceLT, q1, q2, q3, ↓W_irT]
  refine WTail.of (restPart a hl hcl s.next _ _ _ rfl rfl rfl (by simp [Fw.look]) (by simp) _ ?_)
  intro e' st' a1 a2 a3 a4
  obtain ⟨f1, f2, f3, hf⟩ := fig_shape a
  rw [hf] at a3 ⊢
  have hl := fun K => LeaveW_tfreeA (s := s) (s' := st') (vs := [.agg [.int .i64 f1, .str f2, .int .i64 f3, .int .i64 0], .int .i64 (figB a).2]) rfl a4 K
  simp (config := {contextual := true, implicitDefEqProofs := false, maxSteps := 4000000}) only [go_sem, ↓reduceIte, Bool.false_eq_true, Nat.reduceEqDiff, Nat.reduceAdd, Int.reduceLE, Int.reduceLT, Int.reduceEq, Int.reduceToNat, Int.toNat_natCast, Int.cast_ofNat_Int, Int.natCast_one, Nat.reduceMod, Nat.reduceDiv, UInt8.reduceToNat, Nat.reduceLT, a1, a2, a3, hl]
  rfl
theorem c46c (a : List UInt8) (hl : a.length ≤ 100000) (h5 : a.length = 5) (h58 : a.getD 2 0 = 58) (ht : (a.take 2).all isD = false) (s : St) (K : AV → St → Prop) : CallW cx 46 [.str a] s K = K (.tuple [.agg (figB a).1, .int .i64 (figB a).2]) s := by
  refine CallW.eq (CallW.fn' (fn := ir46) rfl rfl (by kernel_rfl) irR_eq ?_) K
  have q1 : decide ((a.length : Int) = 5) = true := decide_eq_true (by omega)
  have q2 : decide ((((a.getD 2 0).toNat : Nat) : Int) = 58) = true := by rw [show (58 : Int) = (((58 : UInt8).toNat : Nat) : Int) from rfl, eq_byte 58]; exact decide_eq_true h58
  have q3 : (2 : Int) < (a.length : Int) := by omega
  have q4 : (0 : Int) ≤ 2 ∧ (2 : Int) ≤ (a.length : Int) := by omega
  have q5 := fun st K => c60 (a.take 2) (by rw [List.length_take]; omega) st K
  have q6 := numR_nonneg (a.take 2)
  rw [ht, Bool.and_false] at q6
  have hcl : (clockB a).2.1 = false := by unfold clockB clockF; rw [ht]; simp
  simp (config := {contextual := true, implicitDefEqProofs := false, maxSteps := 4000000}) only [go_sem, ↓reduceIte, Bool.false_eq_true, Nat.reduceEqDiff, Nat.reduceAdd, Int.reduceLE, Int.reduceLT, Int.reduceEq, Int.reduceToNat, Int.toNat_natCast, Int.cast_ofNat_Int, Int.natCast_one, Nat.reduceMod, Nat.reduceDiv, UInt8.reduceToNat, Nat.reduceLT, q1, q2, q3, q4, q5, q6, ↓W_irT]
  refine WTail.of (restPart a hl hcl s.next _ _ _ rfl rfl rfl (by simp [Fw.look]) (by simp) _ ?_)
  intro e' st' a1 a2 a3 a4
  obtain ⟨f1, f2, f3, hf⟩ := fig_shape a
  rw [hf] at a3 ⊢
  have hl := fun K => LeaveW_tfreeA (s := s) (s' := st') (vs := [.agg [.int .i64 f1, .str f2, .int .i64 f3, .int .i64 0], .int .i64 (figB a).2]) rfl a4 K
  simp (config := {contextual := true, implicitDefEqProofs := false, maxSteps := 4000000}) only [go_sem, ↓reduceIte, Bool.false_eq_true, Nat.reduceEqDiff, Nat.reduceAdd, Int.reduceLE, Int.reduceLT, Int.reduceEq, Int.reduceToNat, Int.toNat_natCast, Int.cast_ofNat_Int, Int.natCast_one, Nat.reduceMod, Nat.reduceDiv, UInt8.reduceToNat, Nat.reduceLT, a1, a2, a3, hl]
  rfl
theorem c46d (a : List UInt8) (hl : a.length ≤ 100000) (h5 : a.length = 5) (h58 : a.getD 2 0 = 58) (ht : (a.take 2).all isD = true) (hd : (a.drop 3).all isD = false) (s : St) (K : AV → St → Prop) : CallW cx 46 [.str a] s K = K (.tuple [.agg (figB a).1, .int .i64 (figB a).2]) s := by
  refine CallW.eq (CallW.fn' (fn := ir46) rfl rfl (by kernel_rfl) irR_eq ?_) K
  have q1 : decide ((a.length : Int) = 5) = true := decide_eq_true (by omega)
  have q2 : decide ((((a.getD 2 0).toNat : Nat) : Int) = 58) = true := by rw [show (58 : Int) = (((58 : UInt8).toNat : Nat) : Int) from rfl, eq_byte 58]; exact decide_eq_true h58
  have q3 : (2 : Int) < (a.length : Int) := by omega
  have q4 : (0 : Int) ≤ 2 ∧ (2 : Int) ≤ (a.length : Int) := by omega
  have q5 := fun st K => c60 (a.take 2) (by rw [List.length_take]; omega) st K
  have q6 := numR_nonneg (a.take 2)
  have hz : a.take 2 ≠ [] := fun h => by have := congrArg List.length h; rw [List.length_take, h5] at this; simp at this
  rw [ht, Bool.and_true, decide_eq_true hz] at q6
  have q7 : (0 : Int) ≤ 3 ∧ (3 : Int) ≤ (a.length : Int) := by omega
  have q8 := fun st K => c60 (a.drop 3) (by rw [List.length_drop]; omega) st K
  have q9 := numR_nonneg (a.drop 3)
  rw [hd, Bool.and_false] at q9
  have hcl : (clockB a).2.1 = false := by unfold clockB clockF; rw [hd]; simp
  simp (config := {contextual := true, implicitDefEqProofs := false, maxSteps := 4000000}) only [go_sem, ↓reduceIte, Bool.false_eq_true, Nat.reduceEqDiff, Nat.reduceAdd, Int.reduceLE, Int.reduceLT, Int.reduceEq, Int.reduceToNat, Int.toNat_natCast, Int.cast_ofNat_Int, Int.natCast_one, Nat.reduceMod, Nat.reduceDiv, UInt8.reduceToNat, Nat.reduceLT, q1, q2, q3, q4, q5, q6, q7, q8, q9, ↓W_irT]
  refine WTail.of (restPart a hl hcl s.next _ _ _ rfl rfl rfl (by simp [Fw.look]) (by simp) _ ?_)
  intro e' st' a1 a2 a3 a4
  obtain ⟨f1, f2, f3, hf⟩ := fig_shape a
  rw [hf] at a3 ⊢
  have hl := fun K => LeaveW_tfreeA (s := s) (s' := st') (vs := [.agg [.int .i64 f1, .str f2, .int .i64 f3, .int .i64 0], .int .i64 (figB a).2]) rfl a4 K
  simp (config := {contextual := true, implicitDefEqProofs := false, maxSteps := 4000000}) only [go_sem, ↓reduceIte, Bool.false_eq_true, Nat.reduceEqDiff, Nat.reduceAdd, Int.reduceLE, Int.reduceLT, Int.reduceEq, Int.reduceToNat, Int.toNat_natCast, Int.cast_ofNat_Int, Int.natCast_one, Nat.reduceMod, Nat.reduceDiv, UInt8.reduceToNat, Nat.reduceLT, a1, a2, a3, hl]
  rfl
theorem c46e (a : List UInt8) (h5 : a.length = 5) (h58 : a.getD 2 0 = 58) (ht : (a.take 2).all isD = true) (hd : (a.drop 3).all isD = true) (s : St) (K : AV → St → Prop) : CallW cx 46 [.str a] s K = K (.tuple [.agg (figB a).1, .int .i64 (figB a).2]) s := by
  refine CallW.eq (CallW.fn' (fn := ir46) rfl rfl (by kernel_rfl) ir46.eq_1 ?_) K
  have q1 : decide ((a.length : Int) = 5) = true := decide_eq_true (by omega)
  have q2 : decide ((((a.getD 2 0).toNat : Nat) : Int) = 58) = true := by rw [show (58 : Int) = (((58 : UInt8).toNat : Nat) : Int) from rfl, eq_byte 58]; exact decide_eq_true h58
  have q3 : (2 : Int) < (a.length : Int) := by omega
  have q4 : (0 : Int) ≤ 2 ∧ (2 : Int) ≤ (a.length : Int) := by omega
  have q5 := fun st K => c60 (a.take 2) (by rw [List.length_take]; omega) st K
  have q6 := numR_nonneg (a.take 2)
  have hz : a.take 2 ≠ [] := fun h => by have := congrArg List.length h; rw [List.length_take, h5] at this; simp at this
  rw [ht, Bool.and_true, decide_eq_true hz] at q6
  have q7 : (0 : Int) ≤ 3 ∧ (3 : Int) ≤ (a.length : Int) := by omega
  have q8 := fun st K => c60 (a.drop 3) (by rw [List.length_drop]; omega) st K
  have q9 := numR_nonneg (a.drop 3)
  have hz2 : a.drop 3 ≠ [] := fun h => by have := congrArg List.length h; rw [List.length_drop, h5] at this; simp at this
  rw [hd, Bool.and_true, decide_eq_true hz2] at q9
  have hcf : clockF a = true := by unfold clockF; rw [decide_eq_true h5, decide_eq_true h58, ht, hd]; rfl
  have hH : numR (a.take 2) = clockH a ∧ numR (a.drop 3) = clockM a ∧ (0 ≤ clockH a ∧ clockH a ≤ 99) ∧ (0 ≤ clockM a ∧ clockM a ≤ 99) := by
    match a, h5 with
    | [x, y, z, u, v], _ =>
      simp only [List.take_succ_cons, List.take_zero, List.drop_succ_cons, List.drop_zero, List.all_cons, List.all_nil, Bool.and_true, Bool.and_eq_true] at ht hd
      have g1 := isD_9 ht.1
      have g2 := isD_9 ht.2
      have g3 := isD_9 hd.1
      have g4 := isD_9 hd.2
      have c1 : clockH [x, y, z, u, v] = dg x * 10 + dg y := rfl
      have c2 : clockM [x, y, z, u, v] = dg u * 10 + dg v := rfl
      rw [c1, c2]
      refine ⟨num2 ht.1 ht.2, num2 hd.1 hd.2, ?_, ?_⟩
      · unfold dg; omega
      · unfold dg; omega
  obtain ⟨hH1, hM1, hH2, hM2⟩ := hH
  rw [hH1] at q5 q6
  rw [hM1] at q8 q9
  have hcb : clockB a = (60 * clockH a + clockM a, true, decide (clockH a < 24) && decide (clockM a < 60)) := by unfold clockB; rw [hcf]; rfl
  have E : figB a = (if (decide (clockH a < 24) && decide (clockM a < 60)) then ([.int .i64 4, .str [], .int .i64 (60 * clockH a + clockM a), .int .i64 0], 0) else ([.int .i64 0, .str [], .int .i64 0, .int .i64 0], 6)) := by unfold figB; rw [hcb]; rfl
  rw [E]
  generalize clockH a = H at *
  generalize clockM a = M at *
  by_cases h1 : H < 24
  · have d1 : decide ((23 : Int) < H) = false := decide_eq_false (by omega)
    by_cases h2 : M < 60
    · have d2 : decide ((59 : Int) < M) = false := decide_eq_false (by omega)
      have w1 : IntKind.i64.wrap (60 * H) = 60 * H := wrap_i64 (by omega) (by omega)
      have w2 : IntKind.i64.wrap (60 * H + M) = 60 * H + M := wrap_i64 (by omega) (by omega)
      rw [decide_eq_true h1, decide_eq_true h2]
      simp (config := {contextual := true, implicitDefEqProofs := false, maxSteps := 4000000}) only [go_sem, ↓reduceIte, Bool.false_eq_true, Nat.reduceEqDiff, Nat.reduceAdd, Int.reduceLE, Int.reduceLT, Int.reduceEq, Int.reduceToNat, Int.toNat_natCast, Int.cast_ofNat_Int, Int.natCast_one, Nat.reduceMod, Nat.reduceDiv, UInt8.reduceToNat, Nat.reduceLT, q1, q2, q3, q4, q5, q6, q7, q8, q9, d1, d2, w1, w2]
    · have d2 : decide ((59 : Int) < M) = true := decide_eq_true (by omega)
      rw [decide_eq_true h1, decide_eq_false h2]
      simp (config := {contextual := true, implicitDefEqProofs := false, maxSteps := 4000000}) only [go_sem, ↓reduceIte, Bool.false_eq_true, Nat.reduceEqDiff, Nat.reduceAdd, Int.reduceLE, Int.reduceLT, Int.reduceEq, Int.reduceToNat, Int.toNat_natCast, Int.cast_ofNat_Int, Int.natCast_one, Nat.reduceMod, Nat.reduceDiv, UInt8.reduceToNat, Nat.reduceLT, q1, q2, q3, q4, q5, q6, q7, q8, q9, d1, d2]
  · have d1 : decide ((23 : Int) < H) = true := decide_eq_true (by omega)
    rw [decide_eq_false h1]
    simp (config := {contextual := true, implicitDefEqProofs := false, maxSteps := 4000000}) only [go_sem, ↓reduceIte, Bool.false_eq_true, Nat.reduceEqDiff, Nat.reduceAdd, Int.reduceLE, Int.reduceLT, Int.reduceEq, Int.reduceToNat, Int.toNat_natCast, Int.cast_ofNat_Int, Int.natCast_one, Nat.reduceMod, Nat.reduceDiv, UInt8.reduceToNat, Nat.reduceLT, q1, q2, q3, q4, q5, q6, q7, q8, q9, d1]
theorem c46 (a : List UInt8) (hl : a.length ≤ 100000) (s : St) (K : AV → St → Prop) : CallW cx 46 [.str a] s K = K (.tuple [.agg (figB a).1, .int .i64 (figB a).2]) s := by
  by_cases h5 : a.length = 5
  case neg => exact c46a a hl h5 s K
  by_cases h58 : a.getD 2 0 = 58
  case neg => exact c46b a hl h5 h58 s K
  cases ht : (a.take 2).all isD with
  | false => exact c46c a hl h5 h58 ht s K
  | true =>
    cases hd : (a.drop 3).all isD with
    | false => exact c46d a hl h5 h58 ht hd s K
    | true => exact c46e a h5 h58 ht hd s K
end T18


/- The reference's letters, signs, and what belongs to a run. -/
namespace T18
open Go Fw Go.Proofs
set_option maxRecDepth 100000
set_option maxHeartbeats 4000000
set_option linter.unusedSimpArgs false
set_option linter.unusedVariables false
theorem c43 (b : UInt8) (s : St) (K : AV → St → Prop) : CallW cx 43 [.int .u8 b.toNat] s K = K (.bool (isLet b)) s := by
  refine CallW.eq (CallW.fn' (fn := ir43) rfl rfl (by kernel_rfl) ir43.eq_1 ?_) K
  have h3 : decide ((65 : Int) ≤ ((b.toNat : Nat) : Int)) = decide (65 ≤ b.toNat) := le_nat 65 b
  have h4 : decide (((b.toNat : Nat) : Int) ≤ (90 : Int)) = decide (b.toNat ≤ 90) := nat_le 90 b
  have e : isLet b = (isLow b || (decide (65 ≤ b.toNat) && decide (b.toNat ≤ 90))) := rfl
  rw [e]
  cases g1 : isLow b with
  | true => simp (config := {contextual := true, implicitDefEqProofs := false, maxSteps := 4000000}) only [go_sem, ↓reduceIte, Bool.false_eq_true, Nat.reduceEqDiff, Nat.reduceAdd, Int.reduceLE, Int.reduceLT, Int.reduceEq, Int.reduceToNat, Int.toNat_natCast, Int.cast_ofNat_Int, Int.natCast_one, Nat.reduceMod, Nat.reduceDiv, UInt8.reduceToNat, Nat.reduceLT, c59, g1]
  | false =>
    cases g3 : decide (65 ≤ b.toNat) with
    | false => rw [g3] at h3; simp (config := {contextual := true, implicitDefEqProofs := false, maxSteps := 4000000}) only [go_sem, ↓reduceIte, Bool.false_eq_true, Nat.reduceEqDiff, Nat.reduceAdd, Int.reduceLE, Int.reduceLT, Int.reduceEq, Int.reduceToNat, Int.toNat_natCast, Int.cast_ofNat_Int, Int.natCast_one, Nat.reduceMod, Nat.reduceDiv, UInt8.reduceToNat, Nat.reduceLT, c59, g1, h3]
    | true => rw [g3] at h3; simp (config := {contextual := true, implicitDefEqProofs := false, maxSteps := 4000000}) only [go_sem, ↓reduceIte, Bool.false_eq_true, Nat.reduceEqDiff, Nat.reduceAdd, Int.reduceLE, Int.reduceLT, Int.reduceEq, Int.reduceToNat, Int.toNat_natCast, Int.cast_ofNat_Int, Int.natCast_one, Nat.reduceMod, Nat.reduceDiv, UInt8.reduceToNat, Nat.reduceLT, c59, g1, h3, h4]
def signB (a : List UInt8) : Bool := decide (a = [40]) || (decide (a = [41]) || (decide (a = [44]) || (decide (a = [61]) || (decide (a = [58]) || (decide (a = [60]) || decide (a = [62]))))))
theorem c49 (a : List UInt8) (s : St) (K : AV → St → Prop) : CallW cx 49 [.str a] s K = K (.bool (signB a)) s := by
  refine CallW.eq (CallW.fn' (fn := ir49) rfl rfl (by kernel_rfl) ir49.eq_1 ?_) K
  unfold signB
  cases e1 : decide (a = [40]) with
  | true => simp (config := {contextual := true, implicitDefEqProofs := false, maxSteps := 4000000}) only [go_sem, ↓reduceIte, Bool.false_eq_true, Nat.reduceEqDiff, Nat.reduceAdd, Int.reduceLE, Int.reduceLT, Int.reduceEq, Int.reduceToNat, Int.toNat_natCast, Int.cast_ofNat_Int, Int.natCast_one, Nat.reduceMod, Nat.reduceDiv, UInt8.reduceToNat, Nat.reduceLT, e1]
  | false =>
  cases e2 : decide (a = [41]) with
  | true => simp (config := {contextual := true, implicitDefEqProofs := false, maxSteps := 4000000}) only [go_sem, ↓reduceIte, Bool.false_eq_true, Nat.reduceEqDiff, Nat.reduceAdd, Int.reduceLE, Int.reduceLT, Int.reduceEq, Int.reduceToNat, Int.toNat_natCast, Int.cast_ofNat_Int, Int.natCast_one, Nat.reduceMod, Nat.reduceDiv, UInt8.reduceToNat, Nat.reduceLT, e1, e2]
  | false =>
  cases e3 : decide (a = [44]) with
  | true => simp (config := {contextual := true, implicitDefEqProofs := false, maxSteps := 4000000}) only [go_sem, ↓reduceIte, Bool.false_eq_true, Nat.reduceEqDiff, Nat.reduceAdd, Int.reduceLE, Int.reduceLT, Int.reduceEq, Int.reduceToNat, Int.toNat_natCast, Int.cast_ofNat_Int, Int.natCast_one, Nat.reduceMod, Nat.reduceDiv, UInt8.reduceToNat, Nat.reduceLT, e1, e2, e3]
  | false =>
  cases e4 : decide (a = [61]) with
  | true => simp (config := {contextual := true, implicitDefEqProofs := false, maxSteps := 4000000}) only [go_sem, ↓reduceIte, Bool.false_eq_true, Nat.reduceEqDiff, Nat.reduceAdd, Int.reduceLE, Int.reduceLT, Int.reduceEq, Int.reduceToNat, Int.toNat_natCast, Int.cast_ofNat_Int, Int.natCast_one, Nat.reduceMod, Nat.reduceDiv, UInt8.reduceToNat, Nat.reduceLT, e1, e2, e3, e4]
  | false =>
  cases e5 : decide (a = [58]) with
  | true => simp (config := {contextual := true, implicitDefEqProofs := false, maxSteps := 4000000}) only [go_sem, ↓reduceIte, Bool.false_eq_true, Nat.reduceEqDiff, Nat.reduceAdd, Int.reduceLE, Int.reduceLT, Int.reduceEq, Int.reduceToNat, Int.toNat_natCast, Int.cast_ofNat_Int, Int.natCast_one, Nat.reduceMod, Nat.reduceDiv, UInt8.reduceToNat, Nat.reduceLT, e1, e2, e3, e4, e5]
  | false =>
  cases e6 : decide (a = [60]) with
  | true => simp (config := {contextual := true, implicitDefEqProofs := false, maxSteps := 4000000}) only [go_sem, ↓reduceIte, Bool.false_eq_true, Nat.reduceEqDiff, Nat.reduceAdd, Int.reduceLE, Int.reduceLT, Int.reduceEq, Int.reduceToNat, Int.toNat_natCast, Int.cast_ofNat_Int, Int.natCast_one, Nat.reduceMod, Nat.reduceDiv, UInt8.reduceToNat, Nat.reduceLT, e1, e2, e3, e4, e5, e6]
  | false => simp (config := {contextual := true, implicitDefEqProofs := false, maxSteps := 4000000}) only [go_sem, ↓reduceIte, Bool.false_eq_true, Nat.reduceEqDiff, Nat.reduceAdd, Int.reduceLE, Int.reduceLT, Int.reduceEq, Int.reduceToNat, Int.toNat_natCast, Int.cast_ofNat_Int, Int.natCast_one, Nat.reduceMod, Nat.reduceDiv, UInt8.reduceToNat, Nat.reduceLT, e1, e2, e3, e4, e5, e6]
theorem sign_one (b : UInt8) : signB [b] = decide (0 ≤ findByte b sgB 0) := by
  have : ∀ i : Fin 256, signB [UInt8.ofNat i.val] = decide (0 ≤ findByte (UInt8.ofNat i.val) sgB 0) := by decide +kernel
  have h := this ⟨b.toNat, b.toNat_lt⟩
  simpa using h
/-- Whether a byte behind a run's first belongs to it: as the lexer says. -/
theorem bel_find (b : UInt8) : decide (0 ≤ findByte b [45, 42, 46] 0) = (decide (b = 45) || (decide (b = 42) || decide (b = 46))) := by
  have : ∀ i : Fin 256, decide (0 ≤ findByte (UInt8.ofNat i.val) [45, 42, 46] 0) = (decide (UInt8.ofNat i.val = 45) || (decide (UInt8.ofNat i.val = 42) || decide (UInt8.ofNat i.val = 46))) := by decide +kernel
  have h := this ⟨b.toNat, b.toNat_lt⟩
  simpa using h
theorem c45 (a : List UInt8) (hl : a.length ≤ 4611686018427387904) (p j : Nat) (hp : p < j) (hi : j < a.length) (s : St) (K : AV → St → Prop) : CallW cx 45 [.str a, .int .i64 (j : Int)] s K = K (.bool (belB a p j)) s := by
  refine CallW.eq (CallW.fn' (fn := ir45) rfl rfl (by kernel_rfl) ir45.eq_1 ?_) K
  have b1 : (0 : Int) ≤ (j : Int) := by omega
  have b2 : (j : Int) < (a.length : Int) := by omega
  obtain ⟨b, hb⟩ : ∃ b, a.getD j 0 = b := ⟨_, rfl⟩
  have f1 : decide (((b.toNat : Nat) : Int) = 58) = decide (b = 58) := is_byte 58 b
  have f2 : decide (((b.toNat : Nat) : Int) = 45) = decide (b = 45) := is_byte 45 b
  have f3 : decide (((b.toNat : Nat) : Int) = 42) = decide (b = 42) := is_byte 42 b
  have f4 : decide (((b.toNat : Nat) : Int) = 46) = decide (b = 46) := is_byte 46 b
  unfold belB
  rw [hb, bel_find]
  by_cases h58 : b = 58
  · subst h58
    have d1 : decide ((((58 : UInt8).toNat : Nat) : Int) = 58) = true := rfl
    have hz : isD 58 = false := rfl
    rw [hz, show decide ((58 : UInt8) = 45) = false from rfl, show decide ((58 : UInt8) = 42) = false from rfl, show decide ((58 : UInt8) = 46) = false from rfl, show decide ((58 : UInt8) = 58) = true from rfl, decide_eq_true hp]
    simp only [Bool.false_or, Bool.true_and]
    have p0 : decide ((0 : Int) < (j : Int)) = true := decide_eq_true (by omega)
    have w1 : IntKind.i64.wrap ((j : Int) - 1) = ((j - 1 : Nat) : Int) := by rw [wrap_i64 (by omega) (by omega)]; omega
    have w2 := wrap_one (i := j) (by omega)
    have b3 : (0 : Int) ≤ ((j - 1 : Nat) : Int) := by omega
    have b4 : ((j - 1 : Nat) : Int) < (a.length : Int) := by omega
    have f5 : decide (((j + 1 : Nat) : Int) < (a.length : Int)) = decide (j + 1 < a.length) := decide_eq_decide.2 (by omega)
    by_cases h6 : j + 1 < a.length
    case neg =>
      rw [decide_eq_false h6] at f5 ⊢
      simp only [Bool.false_and, Bool.and_false]
      simp (config := {contextual := true, implicitDefEqProofs := false, maxSteps := 4000000}) only [go_sem, ↓reduceIte, Bool.false_eq_true, Nat.reduceEqDiff, Nat.reduceAdd, Int.reduceLE, Int.reduceLT, Int.reduceEq, Int.reduceToNat, Int.toNat_natCast, Int.cast_ofNat_Int, Int.natCast_one, Nat.reduceMod, Nat.reduceDiv, UInt8.reduceToNat, Nat.reduceLT, b1, b2, hb, d1, p0, w2, f5]
    rw [decide_eq_true h6] at f5 ⊢
    have b5 : (0 : Int) ≤ ((j + 1 : Nat) : Int) := by omega
    have b6 : ((j + 1 : Nat) : Int) < (a.length : Int) := by omega
    cases e5 : isD (a.getD (j - 1) 0) with
    | false => simp (config := {contextual := true, implicitDefEqProofs := false, maxSteps := 4000000}) only [go_sem, ↓reduceIte, Bool.false_eq_true, Nat.reduceEqDiff, Nat.reduceAdd, Int.reduceLE, Int.reduceLT, Int.reduceEq, Int.reduceToNat, Int.toNat_natCast, Int.cast_ofNat_Int, Int.natCast_one, Nat.reduceMod, Nat.reduceDiv, UInt8.reduceToNat, Nat.reduceLT, b1, b2, hb, d1, p0, w1, w2, b3, b4, f5, c44, e5]
    | true => simp (config := {contextual := true, implicitDefEqProofs := false, maxSteps := 4000000}) only [go_sem, ↓reduceIte, Bool.false_eq_true, Nat.reduceEqDiff, Nat.reduceAdd, Int.reduceLE, Int.reduceLT, Int.reduceEq, Int.reduceToNat, Int.toNat_natCast, Int.cast_ofNat_Int, Int.natCast_one, Nat.reduceMod, Nat.reduceDiv, UInt8.reduceToNat, Nat.reduceLT, b1, b2, hb, d1, p0, w1, w2, b3, b4, b5, b6, f5, c44, e5]
  · rw [decide_eq_false h58] at f1 ⊢
    simp only [Bool.false_and, Bool.or_false]
    cases e1 : isD b with
    | true => simp (config := {contextual := true, implicitDefEqProofs := false, maxSteps := 4000000}) only [go_sem, ↓reduceIte, Bool.false_eq_true, Nat.reduceEqDiff, Nat.reduceAdd, Int.reduceLE, Int.reduceLT, Int.reduceEq, Int.reduceToNat, Int.toNat_natCast, Int.cast_ofNat_Int, Int.natCast_one, Nat.reduceMod, Nat.reduceDiv, UInt8.reduceToNat, Nat.reduceLT, b1, b2, hb, f1, c44, e1]
    | false =>
    cases e2 : decide (b = 45) with
    | true => rw [e2] at f2; simp (config := {contextual := true, implicitDefEqProofs := false, maxSteps := 4000000}) only [go_sem, ↓reduceIte, Bool.false_eq_true, Nat.reduceEqDiff, Nat.reduceAdd, Int.reduceLE, Int.reduceLT, Int.reduceEq, Int.reduceToNat, Int.toNat_natCast, Int.cast_ofNat_Int, Int.natCast_one, Nat.reduceMod, Nat.reduceDiv, UInt8.reduceToNat, Nat.reduceLT, b1, b2, hb, f1, c44, e1, f2]
    | false =>
    rw [e2] at f2
    cases e3 : decide (b = 42) with
    | true => rw [e3] at f3; simp (config := {contextual := true, implicitDefEqProofs := false, maxSteps := 4000000}) only [go_sem, ↓reduceIte, Bool.false_eq_true, Nat.reduceEqDiff, Nat.reduceAdd, Int.reduceLE, Int.reduceLT, Int.reduceEq, Int.reduceToNat, Int.toNat_natCast, Int.cast_ofNat_Int, Int.natCast_one, Nat.reduceMod, Nat.reduceDiv, UInt8.reduceToNat, Nat.reduceLT, b1, b2, hb, f1, c44, e1, f2, f3]
    | false => rw [e3] at f3; simp (config := {contextual := true, implicitDefEqProofs := false, maxSteps := 4000000}) only [go_sem, ↓reduceIte, Bool.false_eq_true, Nat.reduceEqDiff, Nat.reduceAdd, Int.reduceLE, Int.reduceLT, Int.reduceEq, Int.reduceToNat, Int.toNat_natCast, Int.cast_ofNat_Int, Int.natCast_one, Nat.reduceMod, Nat.reduceDiv, UInt8.reduceToNat, Nat.reduceLT, b1, b2, hb, f1, c44, e1, f2, f3, f4]
end T18


/- The reference's next token. -/
namespace T18
open Go Fw Go.Proofs
set_option maxRecDepth 100000
set_option maxHeartbeats 4000000
set_option linter.unusedSimpArgs false
set_option linter.unusedVariables false
theorem l32a (a : List UInt8) (hl : a.length ≤ 4611686018427387904) (x1 x4 : AV) (st : St) (Q : Sig → FE → St → Prop) : ∀ (n j : Nat) (e : FE), j + n = a.length → e 0 = .str a → e 1 = x1 → e 4 = x4 → e 8 = .int .i64 (j : Int) →
    (∀ e', e' 0 = .str a → e' 1 = x1 → e' 4 = x4 → e' 8 = .int .i64 ((runI (fun j => isWd (a.getD j 0)) n j : Nat) : Int) → Q (.exit 1) e' st) → WLoop cx ir32L0 e st Q
  | 0, j, e, hj, h0, h1, h4, h8, hQ => by
    refine WLoop.rnd (c := _) ir32L0.eq_1 ?_
    have hd : decide ((j : Int) < (a.length : Int)) = false := decide_eq_false (by omega)
    simp (config := {contextual := true, implicitDefEqProofs := false, maxSteps := 4000000}) only [go_sem, ↓reduceIte, Bool.false_eq_true, Nat.reduceEqDiff, Nat.reduceAdd, Int.reduceLE, Int.reduceLT, Int.reduceEq, Int.reduceToNat, Int.toNat_natCast, Int.cast_ofNat_Int, Int.natCast_one, Nat.reduceMod, Nat.reduceDiv, UInt8.reduceToNat, Nat.reduceLT, h0, h8, hd]
    exact hQ _ h0 h1 h4 h8
  | n + 1, j, e, hj, h0, h1, h4, h8, hQ => by
    refine WLoop.rnd (c := _) ir32L0.eq_1 ?_
    have hd : decide ((j : Int) < (a.length : Int)) = true := decide_eq_true (by omega)
    have hw := wrap_one (i := j) (by omega)
    have b1 : (0 : Int) ≤ (j : Int) := by omega
    have b2 : (j : Int) < (a.length : Int) := by omega
    have ih := fun e a0 a1 a4 a8 a9 => l32a a hl x1 x4 st Q n (j + 1) e (by omega) a0 a1 a4 a8 a9
    obtain ⟨b, hb⟩ : ∃ b, a.getD j 0 = b := ⟨_, rfl⟩
    have hr : runI (fun j => isWd (a.getD j 0)) (n + 1) j = if isWd b = true then runI (fun j => isWd (a.getD j 0)) n (j + 1) else j := by rw [← hb]; rfl
    rw [hr] at hQ
    have f1 : decide (((b.toNat : Nat) : Int) = 95) = decide (b = 95) := is_byte 95 b
    have f2 : decide (((b.toNat : Nat) : Int) = 47) = decide (b = 47) := is_byte 47 b
    have qb : isWd b = (isLet b || (isD b || (decide (b = 95) || decide (b = 47)))) := rfl
    rw [qb] at hQ
    cases e1 : isLet b with
    | true =>
      rw [e1, Bool.true_or, if_pos rfl] at hQ
      simp (config := {contextual := true, implicitDefEqProofs := false, maxSteps := 4000000}) only [go_sem, ↓reduceIte, Bool.false_eq_true, Nat.reduceEqDiff, Nat.reduceAdd, Int.reduceLE, Int.reduceLT, Int.reduceEq, Int.reduceToNat, Int.toNat_natCast, Int.cast_ofNat_Int, Int.natCast_one, Nat.reduceMod, Nat.reduceDiv, UInt8.reduceToNat, Nat.reduceLT, h0, h8, hd, b1, b2, hb, c43, e1, hw]
      exact ih _ h0 h1 h4 rfl hQ
    | false =>
    cases e2 : isD b with
    | true =>
      rw [e1, e2, Bool.true_or, Bool.or_true, if_pos rfl] at hQ
      simp (config := {contextual := true, implicitDefEqProofs := false, maxSteps := 4000000}) only [go_sem, ↓reduceIte, Bool.false_eq_true, Nat.reduceEqDiff, Nat.reduceAdd, Int.reduceLE, Int.reduceLT, Int.reduceEq, Int.reduceToNat, Int.toNat_natCast, Int.cast_ofNat_Int, Int.natCast_one, Nat.reduceMod, Nat.reduceDiv, UInt8.reduceToNat, Nat.reduceLT, h0, h8, hd, b1, b2, hb, c43, c44, e1, e2, hw]
      exact ih _ h0 h1 h4 rfl hQ
    | false =>
    cases e3 : decide (b = 95) with
    | true =>
      rw [e3] at f1
      rw [e1, e2, e3, Bool.true_or, Bool.or_true, Bool.or_true, if_pos rfl] at hQ
      simp (config := {contextual := true, implicitDefEqProofs := false, maxSteps := 4000000}) only [go_sem, ↓reduceIte, Bool.false_eq_true, Nat.reduceEqDiff, Nat.reduceAdd, Int.reduceLE, Int.reduceLT, Int.reduceEq, Int.reduceToNat, Int.toNat_natCast, Int.cast_ofNat_Int, Int.natCast_one, Nat.reduceMod, Nat.reduceDiv, UInt8.reduceToNat, Nat.reduceLT, h0, h8, hd, b1, b2, hb, c43, c44, e1, e2, f1, hw]
      exact ih _ h0 h1 h4 rfl hQ
    | false =>
    rw [e3] at f1
    cases e4 : decide (b = 47) with
    | true =>
      rw [e4] at f2
      rw [e1, e2, e3, e4, Bool.or_true, Bool.or_true, Bool.or_true, if_pos rfl] at hQ
      simp (config := {contextual := true, implicitDefEqProofs := false, maxSteps := 4000000}) only [go_sem, ↓reduceIte, Bool.false_eq_true, Nat.reduceEqDiff, Nat.reduceAdd, Int.reduceLE, Int.reduceLT, Int.reduceEq, Int.reduceToNat, Int.toNat_natCast, Int.cast_ofNat_Int, Int.natCast_one, Nat.reduceMod, Nat.reduceDiv, UInt8.reduceToNat, Nat.reduceLT, h0, h8, hd, b1, b2, hb, c43, c44, e1, e2, f1, f2, hw]
      exact ih _ h0 h1 h4 rfl hQ
    | false =>
      rw [e4] at f2
      rw [e1, e2, e3, e4] at hQ
      simp (config := {contextual := true, implicitDefEqProofs := false, maxSteps := 4000000}) only [go_sem, ↓reduceIte, Bool.false_eq_true, Nat.reduceEqDiff, Nat.reduceAdd, Int.reduceLE, Int.reduceLT, Int.reduceEq, Int.reduceToNat, Int.toNat_natCast, Int.cast_ofNat_Int, Int.natCast_one, Nat.reduceMod, Nat.reduceDiv, UInt8.reduceToNat, Nat.reduceLT, h0, h8, hd, b1, b2, hb, c43, c44, e1, e2, f1, f2]
      exact hQ _ h0 h1 h4 h8
theorem l32b (a : List UInt8) (hl : a.length ≤ 4611686018427387904) (p : Nat) (x1 x4 : AV) (st : St) (Q : Sig → FE → St → Prop) : ∀ (n j : Nat) (e : FE), j + n = a.length → p < j → e 0 = .str a → e 1 = x1 → e 4 = x4 → e 8 = .int .i64 (j : Int) →
    (∀ e', e' 0 = .str a → e' 1 = x1 → e' 4 = x4 → e' 8 = .int .i64 ((runI (belB a p) n j : Nat) : Int) → Q (.exit 3) e' st) → WLoop cx ir32L1 e st Q
  | 0, j, e, hj, hp, h0, h1, h4, h8, hQ => by
    refine WLoop.rnd (c := _) ir32L1.eq_1 ?_
    have hd : decide ((j : Int) < (a.length : Int)) = false := decide_eq_false (by omega)
    simp (config := {contextual := true, implicitDefEqProofs := false, maxSteps := 4000000}) only [go_sem, ↓reduceIte, Bool.false_eq_true, Nat.reduceEqDiff, Nat.reduceAdd, Int.reduceLE, Int.reduceLT, Int.reduceEq, Int.reduceToNat, Int.toNat_natCast, Int.cast_ofNat_Int, Int.natCast_one, Nat.reduceMod, Nat.reduceDiv, UInt8.reduceToNat, Nat.reduceLT, h0, h8, hd]
    exact hQ _ h0 h1 h4 h8
  | n + 1, j, e, hj, hp, h0, h1, h4, h8, hQ => by
    refine WLoop.rnd (c := _) ir32L1.eq_1 ?_
    have hd : decide ((j : Int) < (a.length : Int)) = true := decide_eq_true (by omega)
    have hw := wrap_one (i := j) (by omega)
    simp only [runI] at hQ
    have k := fun st K => c45 a hl p j hp (by omega) st K
    cases e1 : belB a p j with
    | true =>
      rw [e1] at k hQ
      rw [if_pos rfl] at hQ
      simp (config := {contextual := true, implicitDefEqProofs := false, maxSteps := 4000000}) only [go_sem, ↓reduceIte, Bool.false_eq_true, Nat.reduceEqDiff, Nat.reduceAdd, Int.reduceLE, Int.reduceLT, Int.reduceEq, Int.reduceToNat, Int.toNat_natCast, Int.cast_ofNat_Int, Int.natCast_one, Nat.reduceMod, Nat.reduceDiv, UInt8.reduceToNat, Nat.reduceLT, h0, h8, hd, k, hw]
      exact l32b a hl p x1 x4 st Q n (j + 1) _ (by omega) (by omega) h0 h1 h4 rfl hQ
    | false =>
      rw [e1] at k hQ
      rw [if_neg (by decide)] at hQ
      simp (config := {contextual := true, implicitDefEqProofs := false, maxSteps := 4000000}) only [go_sem, ↓reduceIte, Bool.false_eq_true, Nat.reduceEqDiff, Nat.reduceAdd, Int.reduceLE, Int.reduceLT, Int.reduceEq, Int.reduceToNat, Int.toNat_natCast, Int.cast_ofNat_Int, Int.natCast_one, Nat.reduceMod, Nat.reduceDiv, UInt8.reduceToNat, Nat.reduceLT, h0, h8, hd, k]
      exact hQ _ h0 h1 h4 h8
theorem l32c (a : List UInt8) (hl : a.length ≤ 4611686018427387904) (x1 x4 : AV) (st : St) (Q : Sig → FE → St → Prop) : ∀ (n j : Nat) (e : FE), j + n = a.length → e 0 = .str a → e 1 = x1 → e 4 = x4 → e 8 = .int .i64 (j : Int) →
    (∀ e', e' 0 = .str a → e' 1 = x1 → e' 4 = x4 → e' 8 = .int .i64 ((runI (fun j => !decide (a.getD j 0 = 34)) n j : Nat) : Int) → Q (.exit 5) e' st) → WLoop cx ir32L2 e st Q
  | 0, j, e, hj, h0, h1, h4, h8, hQ => by
    refine WLoop.rnd (c := _) ir32L2.eq_1 ?_
    have hd : decide ((j : Int) < (a.length : Int)) = false := decide_eq_false (by omega)
    simp (config := {contextual := true, implicitDefEqProofs := false, maxSteps := 4000000}) only [go_sem, ↓reduceIte, Bool.false_eq_true, Nat.reduceEqDiff, Nat.reduceAdd, Int.reduceLE, Int.reduceLT, Int.reduceEq, Int.reduceToNat, Int.toNat_natCast, Int.cast_ofNat_Int, Int.natCast_one, Nat.reduceMod, Nat.reduceDiv, UInt8.reduceToNat, Nat.reduceLT, h0, h8, hd]
    exact hQ _ h0 h1 h4 h8
  | n + 1, j, e, hj, h0, h1, h4, h8, hQ => by
    refine WLoop.rnd (c := _) ir32L2.eq_1 ?_
    have hd : decide ((j : Int) < (a.length : Int)) = true := decide_eq_true (by omega)
    have hw := wrap_one (i := j) (by omega)
    have b1 : (0 : Int) ≤ (j : Int) := by omega
    have b2 : (j : Int) < (a.length : Int) := by omega
    obtain ⟨b, hb⟩ : ∃ b, a.getD j 0 = b := ⟨_, rfl⟩
    have hr : runI (fun j => !decide (a.getD j 0 = 34)) (n + 1) j = if (!decide (b = 34)) = true then runI (fun j => !decide (a.getD j 0 = 34)) n (j + 1) else j := by rw [← hb]; rfl
    rw [hr] at hQ
    have f1 : decide (((b.toNat : Nat) : Int) ≠ 34) = !decide (b = 34) := byte_isnt 34 b
    cases e1 : decide (b = 34) with
    | false =>
      rw [e1] at f1 hQ
      rw [if_pos (by decide)] at hQ
      simp (config := {contextual := true, implicitDefEqProofs := false, maxSteps := 4000000}) only [go_sem, ↓reduceIte, Bool.false_eq_true, Nat.reduceEqDiff, Nat.reduceAdd, Int.reduceLE, Int.reduceLT, Int.reduceEq, Int.reduceToNat, Int.toNat_natCast, Int.cast_ofNat_Int, Int.natCast_one, Nat.reduceMod, Nat.reduceDiv, UInt8.reduceToNat, Nat.reduceLT, h0, h8, hd, b1, b2, hb, f1, Bool.not_false, hw]
      exact l32c a hl x1 x4 st Q n (j + 1) _ (by omega) h0 h1 h4 rfl hQ
    | true =>
      rw [e1] at f1 hQ
      rw [if_neg (by decide)] at hQ
      simp (config := {contextual := true, implicitDefEqProofs := false, maxSteps := 4000000}) only [go_sem, ↓reduceIte, Bool.false_eq_true, Nat.reduceEqDiff, Nat.reduceAdd, Int.reduceLE, Int.reduceLT, Int.reduceEq, Int.reduceToNat, Int.toNat_natCast, Int.cast_ofNat_Int, Int.natCast_one, Nat.reduceMod, Nat.reduceDiv, UInt8.reduceToNat, Nat.reduceLT, h0, h8, hd, b1, b2, hb, f1, Bool.not_true]
      exact hQ _ h0 h1 h4 h8
theorem find_run (a : List UInt8) : ∀ (n i k : Nat), i + n = a.length → findByte 34 (a.drop i) k = if runI (fun j => !decide (a.getD j 0 = 34)) n i < a.length then ((k + (runI (fun j => !decide (a.getD j 0 = 34)) n i - i) : Nat) : Int) else -1
  | 0, i, k, h => by
    rw [List.drop_eq_nil_of_le (by omega), show runI (fun j => !decide (a.getD j 0 = 34)) 0 i = i from rfl, if_neg (by omega)]
    rfl
  | n + 1, i, k, h => by
    rw [drop_at (show i < a.length by omega)]
    have ih := find_run a n (i + 1) (k + 1) (by omega)
    have hr := runI_le (fun j => !decide (a.getD j 0 = 34)) n (i + 1)
    obtain ⟨b, hb⟩ : ∃ b, a.getD i 0 = b := ⟨_, rfl⟩
    have hs : runI (fun j => !decide (a.getD j 0 = 34)) (n + 1) i = if (!decide (b = 34)) = true then runI (fun j => !decide (a.getD j 0 = 34)) n (i + 1) else i := by rw [← hb]; rfl
    rw [hs, hb]
    simp only [findByte]
    by_cases h34 : b = 34
    · rw [if_pos h34, decide_eq_true h34, if_neg (show ¬ (!true) = true by decide), if_pos (by omega)]
      congr 1
      omega
    · rw [if_neg h34, decide_eq_false h34, if_pos (show (!false) = true by decide), ih]
      split
      · congr 1; omega
      · rfl
theorem c32 (a : List UInt8) (hl : a.length ≤ 100000) (i : Nat) (hi : i < a.length) (s : St) (K : AV → St → Prop) : CallW cx 32 [.str a, .int .i64 (i : Int)] s K = K (nxo (nextB a i)) s := by
  refine CallW.eq (CallW.fn' (fn := ir32) rfl rfl (by kernel_rfl) ir32.eq_1 ?_) K
  have b1 : (0 : Int) ≤ (i : Int) := by omega
  have b2 : (i : Int) < (a.length : Int) := by omega
  have w1 := wrap_one (i := i) (by omega)
  obtain ⟨b, hb⟩ : ∃ b, a.getD i 0 = b := ⟨_, rfl⟩
  obtain ⟨n, hn⟩ : ∃ n, i + 1 + n = a.length := ⟨a.length - (i + 1), by omega⟩
  have hni : a.length - i = n + 1 := by omega
  unfold nextB
  rw [hb]
  cases e1 : isLet b with
  | true =>
    rw [if_pos rfl]
    have hr : runB isWd a i = runI (fun j => isWd (a.getD j 0)) n (i + 1) := by
      unfold runB
      rw [hni]
      have hs : runI (fun j => isWd (a.getD j 0)) (n + 1) i = if isWd b = true then runI (fun j => isWd (a.getD j 0)) n (i + 1) else i := by rw [← hb]; rfl
      rw [hs, show isWd b = true by unfold isWd; rw [e1]; rfl, if_pos rfl]
    have hrl := runI_le (fun j => isWd (a.getD j 0)) n (i + 1)
    unfold wordB
    rw [hr]
    simp (config := {contextual := true, implicitDefEqProofs := false, maxSteps := 4000000}) only [go_sem, ↓reduceIte, Bool.false_eq_true, Nat.reduceEqDiff, Nat.reduceAdd, Int.reduceLE, Int.reduceLT, Int.reduceEq, Int.reduceToNat, Int.toNat_natCast, Int.cast_ofNat_Int, Int.natCast_one, Nat.reduceMod, Nat.reduceDiv, UInt8.reduceToNat, Nat.reduceLT, b1, b2, hb, w1, c43, e1]
    refine l32a a (by omega) _ _ _ _ n (i + 1) _ hn rfl rfl rfl rfl ?_
    intro e' h0 h1 h4 h8
    generalize runI (fun j => isWd (a.getD j 0)) n (i + 1) = r at *
    have w2 : IntKind.i64.wrap ((r : Int) - (i : Int)) = ((r - i : Nat) : Int) := by rw [wrap_i64 (by omega) (by omega)]; omega
    have g1 : slOk a.length (i : Int) (r : Int) := ⟨by omega, by omega, by omega⟩
    by_cases h49 : 49 < r - i
    · have d1 : decide ((49 : Int) < ((r - i : Nat) : Int)) = true := decide_eq_true (by omega)
      rw [if_pos h49]
      simp (config := {contextual := true, implicitDefEqProofs := false, maxSteps := 4000000}) only [go_sem, ↓reduceIte, Bool.false_eq_true, Nat.reduceEqDiff, Nat.reduceAdd, Int.reduceLE, Int.reduceLT, Int.reduceEq, Int.reduceToNat, Int.toNat_natCast, Int.cast_ofNat_Int, Int.natCast_one, Nat.reduceMod, Nat.reduceDiv, UInt8.reduceToNat, Nat.reduceLT, h0, h1, h4, h8, w2, d1]
      rfl
    · have d1 : decide ((49 : Int) < ((r - i : Nat) : Int)) = false := decide_eq_false (by omega)
      rw [if_neg h49]
      simp (config := {contextual := true, implicitDefEqProofs := false, maxSteps := 4000000}) only [go_sem, ↓reduceIte, Bool.false_eq_true, Nat.reduceEqDiff, Nat.reduceAdd, Int.reduceLE, Int.reduceLT, Int.reduceEq, Int.reduceToNat, Int.toNat_natCast, Int.cast_ofNat_Int, Int.natCast_one, Nat.reduceMod, Nat.reduceDiv, UInt8.reduceToNat, Nat.reduceLT, h0, h1, h4, h8, w2, d1, g1]
  | false =>
  rw [if_neg (by decide)]
  have f1 : decide (((b.toNat : Nat) : Int) = 45) = decide (b = 45) := is_byte 45 b
  have f2 : decide (((b.toNat : Nat) : Int) = 42) = decide (b = 42) := is_byte 42 b
  have f3 : decide (((b.toNat : Nat) : Int) = 34) = decide (b = 34) := is_byte 34 b
  by_cases e2 : (isD b || (decide (b = 45) || decide (b = 42))) = true
  case pos =>
    rw [if_pos e2]
    have hbel : belB a i i = true := by
      unfold belB
      rw [hb]
      simp only [Bool.or_eq_true, decide_eq_true_eq] at e2
      rcases e2 with h | h | h
      · rw [h]; rfl
      · rw [h]; rfl
      · rw [h]; rfl
    have hr : fend a i = runI (belB a i) n (i + 1) := by
      unfold fend
      rw [hni]
      have hs : runI (belB a i) (n + 1) i = if belB a i i = true then runI (belB a i) n (i + 1) else i := rfl
      rw [hs, hbel, if_pos rfl]
    have hrl := runI_le (belB a i) n (i + 1)
    unfold numB
    rw [hr]
    have go : ∀ (e : FE) (st : St) (Q : Sig → FE → St → Prop), True := fun _ _ _ => trivial
    have fin : ∀ (r : Nat), r ≤ a.length → i ≤ r → slOk a.length (i : Int) (r : Int) ∧ ∀ st K, CallW cx 46 [.str (cut a (i : Int) (r : Int))] st K = K (.tuple [.agg (encT (figT (cut a (i : Int) (r : Int))).1), .int .i64 (figT (cut a (i : Int) (r : Int))).2]) st := by
      intro r h1 h2
      refine ⟨⟨by omega, by omega, by omega⟩, fun st K => ?_⟩
      rw [c46 _ (Nat.le_trans (cut_le a _ _) hl) st K, figB_eq]
    cases d1 : isD b with
    | true =>
      simp (config := {contextual := true, implicitDefEqProofs := false, maxSteps := 4000000}) only [go_sem, ↓reduceIte, Bool.false_eq_true, Nat.reduceEqDiff, Nat.reduceAdd, Int.reduceLE, Int.reduceLT, Int.reduceEq, Int.reduceToNat, Int.toNat_natCast, Int.cast_ofNat_Int, Int.natCast_one, Nat.reduceMod, Nat.reduceDiv, UInt8.reduceToNat, Nat.reduceLT, b1, b2, hb, w1, c43, e1, c44, d1]
      refine l32b a (by omega) i _ _ _ _ n (i + 1) _ hn (by omega) rfl rfl rfl rfl ?_
      intro e' h0 h1 h4 h8
      obtain ⟨g1, g2⟩ := fin (runI (belB a i) n (i + 1)) (by omega) (by omega)
      generalize runI (belB a i) n (i + 1) = r at *
      generalize figT (cut a (i : Int) (r : Int)) = x at *
      obtain ⟨⟨x1, x2, x3, x4⟩, x5⟩ := x
      simp only [encT] at g2
      simp (config := {contextual := true, implicitDefEqProofs := false, maxSteps := 4000000}) only [go_sem, ↓reduceIte, Bool.false_eq_true, Nat.reduceEqDiff, Nat.reduceAdd, Int.reduceLE, Int.reduceLT, Int.reduceEq, Int.reduceToNat, Int.toNat_natCast, Int.cast_ofNat_Int, Int.natCast_one, Nat.reduceMod, Nat.reduceDiv, UInt8.reduceToNat, Nat.reduceLT, h0, h1, h4, h8, g1, g2]
    | false =>
    cases d2 : decide (b = 45) with
    | true =>
      rw [d2] at f1
      simp (config := {contextual := true, implicitDefEqProofs := false, maxSteps := 4000000}) only [go_sem, ↓reduceIte, Bool.false_eq_true, Nat.reduceEqDiff, Nat.reduceAdd, Int.reduceLE, Int.reduceLT, Int.reduceEq, Int.reduceToNat, Int.toNat_natCast, Int.cast_ofNat_Int, Int.natCast_one, Nat.reduceMod, Nat.reduceDiv, UInt8.reduceToNat, Nat.reduceLT, b1, b2, hb, w1, c43, e1, c44, d1, f1]
      refine l32b a (by omega) i _ _ _ _ n (i + 1) _ hn (by omega) rfl rfl rfl rfl ?_
      intro e' h0 h1 h4 h8
      obtain ⟨g1, g2⟩ := fin (runI (belB a i) n (i + 1)) (by omega) (by omega)
      generalize runI (belB a i) n (i + 1) = r at *
      generalize figT (cut a (i : Int) (r : Int)) = x at *
      obtain ⟨⟨x1, x2, x3, x4⟩, x5⟩ := x
      simp only [encT] at g2
      simp (config := {contextual := true, implicitDefEqProofs := false, maxSteps := 4000000}) only [go_sem, ↓reduceIte, Bool.false_eq_true, Nat.reduceEqDiff, Nat.reduceAdd, Int.reduceLE, Int.reduceLT, Int.reduceEq, Int.reduceToNat, Int.toNat_natCast, Int.cast_ofNat_Int, Int.natCast_one, Nat.reduceMod, Nat.reduceDiv, UInt8.reduceToNat, Nat.reduceLT, h0, h1, h4, h8, g1, g2]
    | false =>
      have d3 : decide (b = 42) = true := by rw [d1, d2] at e2; simpa using e2
      rw [d2] at f1
      rw [d3] at f2
      simp (config := {contextual := true, implicitDefEqProofs := false, maxSteps := 4000000}) only [go_sem, ↓reduceIte, Bool.false_eq_true, Nat.reduceEqDiff, Nat.reduceAdd, Int.reduceLE, Int.reduceLT, Int.reduceEq, Int.reduceToNat, Int.toNat_natCast, Int.cast_ofNat_Int, Int.natCast_one, Nat.reduceMod, Nat.reduceDiv, UInt8.reduceToNat, Nat.reduceLT, b1, b2, hb, w1, c43, e1, c44, d1, f1, f2]
      refine l32b a (by omega) i _ _ _ _ n (i + 1) _ hn (by omega) rfl rfl rfl rfl ?_
      intro e' h0 h1 h4 h8
      obtain ⟨g1, g2⟩ := fin (runI (belB a i) n (i + 1)) (by omega) (by omega)
      generalize runI (belB a i) n (i + 1) = r at *
      generalize figT (cut a (i : Int) (r : Int)) = x at *
      obtain ⟨⟨x1, x2, x3, x4⟩, x5⟩ := x
      simp only [encT] at g2
      simp (config := {contextual := true, implicitDefEqProofs := false, maxSteps := 4000000}) only [go_sem, ↓reduceIte, Bool.false_eq_true, Nat.reduceEqDiff, Nat.reduceAdd, Int.reduceLE, Int.reduceLT, Int.reduceEq, Int.reduceToNat, Int.toNat_natCast, Int.cast_ofNat_Int, Int.natCast_one, Nat.reduceMod, Nat.reduceDiv, UInt8.reduceToNat, Nat.reduceLT, h0, h1, h4, h8, g1, g2]
  rw [if_neg e2]
  have e2 : (isD b || (decide (b = 45) || decide (b = 42))) = false := by simpa using e2
  simp only [Bool.or_eq_false_iff] at e2
  obtain ⟨d1, d2, d3⟩ := e2
  rw [d2] at f1
  rw [d3] at f2
  cases e3 : decide (b = 34) with
  | true =>
    rw [e3] at f3
    rw [if_pos rfl]
    have hf := find_run a n (i + 1) 0 hn
    have hrl := runI_le (fun j => !decide (a.getD j 0 = 34)) n (i + 1)
    unfold textB
    simp (config := {contextual := true, implicitDefEqProofs := false, maxSteps := 4000000}) only [go_sem, ↓reduceIte, Bool.false_eq_true, Nat.reduceEqDiff, Nat.reduceAdd, Int.reduceLE, Int.reduceLT, Int.reduceEq, Int.reduceToNat, Int.toNat_natCast, Int.cast_ofNat_Int, Int.natCast_one, Nat.reduceMod, Nat.reduceDiv, UInt8.reduceToNat, Nat.reduceLT, b1, b2, hb, w1, c43, e1, c44, d1, f1, f2, f3]
    refine l32c a (by omega) _ _ _ _ n (i + 1) _ hn rfl rfl rfl rfl ?_
    intro e' h0 h1 h4 h8
    generalize runI (fun j => !decide (a.getD j 0 = 34)) n (i + 1) = r at *
    by_cases hr : r < a.length
    case neg =>
      have d4 : decide ((r : Int) = (a.length : Int)) = true := decide_eq_true (by omega)
      rw [if_neg hr] at hf
      rw [hf]
      simp (config := {contextual := true, implicitDefEqProofs := false, maxSteps := 4000000}) only [go_sem, ↓reduceIte, Bool.false_eq_true, Nat.reduceEqDiff, Nat.reduceAdd, Int.reduceLE, Int.reduceLT, Int.reduceEq, Int.reduceToNat, Int.toNat_natCast, Int.cast_ofNat_Int, Int.natCast_one, Nat.reduceMod, Nat.reduceDiv, UInt8.reduceToNat, Nat.reduceLT, h0, h1, h4, h8, d4]
      rfl
    have d4 : decide ((r : Int) = (a.length : Int)) = false := decide_eq_false (by omega)
    rw [if_pos hr, Nat.zero_add] at hf
    rw [hf]
    have er : i + 1 + (r - (i + 1)) = r := by omega
    have er2 : i + (r - (i + 1)) + 2 = r + 1 := by omega
    simp only [er, er2]
    have g1 : slOk a.length ((i + 1 : Nat) : Int) (r : Int) := ⟨by omega, by omega, by omega⟩
    have w2 := wrap_one (i := r) (by omega)
    have kp := fun st K => c47 (cut a ((i + 1 : Nat) : Int) (r : Int)) (Nat.le_trans (cut_le a _ _) (by omega)) st K
    have kl := fun st K => c48 (cut a ((i + 1 : Nat) : Int) (r : Int)) (Nat.le_trans (cut_le a _ _) (by omega)) st K
    obtain ⟨y, hy⟩ : ∃ y, cut a ((i + 1 : Nat) : Int) (r : Int) = y := ⟨_, rfl⟩
    rw [hy] at kp kl ⊢
    cases p1 : y.all isPl with
    | false =>
      rw [p1] at kp
      simp (config := {contextual := true, implicitDefEqProofs := false, maxSteps := 4000000}) only [go_sem, ↓reduceIte, Bool.false_eq_true, Nat.reduceEqDiff, Nat.reduceAdd, Int.reduceLE, Int.reduceLT, Int.reduceEq, Int.reduceToNat, Int.toNat_natCast, Int.cast_ofNat_Int, Int.natCast_one, Nat.reduceMod, Nat.reduceDiv, UInt8.reduceToNat, Nat.reduceLT, h0, h1, h4, h8, d4, w1, g1, hy, kp]
      rfl
    | true =>
      rw [p1] at kp
      cases p2 : labB y with
      | false =>
        rw [p2] at kl
        simp (config := {contextual := true, implicitDefEqProofs := false, maxSteps := 4000000}) only [go_sem, ↓reduceIte, Bool.false_eq_true, Nat.reduceEqDiff, Nat.reduceAdd, Int.reduceLE, Int.reduceLT, Int.reduceEq, Int.reduceToNat, Int.toNat_natCast, Int.cast_ofNat_Int, Int.natCast_one, Nat.reduceMod, Nat.reduceDiv, UInt8.reduceToNat, Nat.reduceLT, h0, h1, h4, h8, d4, w1, g1, hy, kp, kl]
        rfl
      | true =>
        rw [p2] at kl
        simp (config := {contextual := true, implicitDefEqProofs := false, maxSteps := 4000000}) only [go_sem, ↓reduceIte, Bool.false_eq_true, Nat.reduceEqDiff, Nat.reduceAdd, Int.reduceLE, Int.reduceLT, Int.reduceEq, Int.reduceToNat, Int.toNat_natCast, Int.cast_ofNat_Int, Int.natCast_one, Nat.reduceMod, Nat.reduceDiv, UInt8.reduceToNat, Nat.reduceLT, h0, h1, h4, h8, d4, w1, w2, g1, hy, kp, kl]
  | false =>
  rw [e3] at f3
  rw [if_neg (by decide)]
  have g1 : slOk a.length (i : Int) ((i + 1 : Nat) : Int) := ⟨by omega, by omega, by omega⟩
  have hc : cut a (i : Int) ((i + 1 : Nat) : Int) = [b] := by
    unfold cut
    simp only [Int.toNat_natCast]
    rw [show i + 1 - i = 1 by omega, drop_at hi, hb]
    rfl
  have ks := fun st K => c49 [b] st K
  rw [sign_one] at ks
  rw [hc]
  cases e4 : decide (0 ≤ findByte b sgB 0) with
  | true =>
    rw [e4] at ks
    rw [if_pos rfl]
    simp (config := {contextual := true, implicitDefEqProofs := false, maxSteps := 4000000}) only [go_sem, ↓reduceIte, Bool.false_eq_true, Nat.reduceEqDiff, Nat.reduceAdd, Int.reduceLE, Int.reduceLT, Int.reduceEq, Int.reduceToNat, Int.toNat_natCast, Int.cast_ofNat_Int, Int.natCast_one, Nat.reduceMod, Nat.reduceDiv, UInt8.reduceToNat, Nat.reduceLT, b1, b2, hb, w1, c43, e1, c44, d1, f1, f2, f3, g1, hc, ks]
  | false =>
    rw [e4] at ks
    rw [if_neg (by decide)]
    simp (config := {contextual := true, implicitDefEqProofs := false, maxSteps := 4000000}) only [go_sem, ↓reduceIte, Bool.false_eq_true, Nat.reduceEqDiff, Nat.reduceAdd, Int.reduceLE, Int.reduceLT, Int.reduceEq, Int.reduceToNat, Int.toNat_natCast, Int.cast_ofNat_Int, Int.natCast_one, Nat.reduceMod, Nat.reduceDiv, UInt8.reduceToNat, Nat.reduceLT, b1, b2, hb, w1, c43, e1, c44, d1, f1, f2, f3, g1, hc, ks]
    rfl
end T18
