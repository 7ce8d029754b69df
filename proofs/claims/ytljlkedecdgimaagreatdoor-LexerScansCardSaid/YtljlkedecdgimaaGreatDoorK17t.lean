/- Parts of the proof, one behind the other. -/
import Derived.Test.YtljlkedecdgimaaGreatDoorK17r
import Derived.Test.YtljlkedecdgimaaGreatDoorK17a
import Derived.Test.YtljlkedecdgimaaGreatDoorFwX
set_option linter.unusedSimpArgs false
set_option linter.unusedVariables false
/- The reference's letters, signs, and what belongs to a run. -/
namespace T17
open Go Fw Go.Proofs
set_option maxRecDepth 100000
set_option maxHeartbeats 4000000
set_option linter.unusedSimpArgs false
set_option linter.unusedVariables false
theorem c49 (b : UInt8) (s : St) (K : AV → St → Prop) : CallW cx 49 [.int .u8 b.toNat] s K = K (.bool (isLet b)) s := by
  refine CallW.eq (CallW.fn' (fn := ir49) rfl rfl (by kernel_rfl) ir49.eq_1 ?_) K
  have h3 : decide ((65 : Int) ≤ ((b.toNat : Nat) : Int)) = decide (65 ≤ b.toNat) := le_nat 65 b
  have h4 : decide (((b.toNat : Nat) : Int) ≤ (90 : Int)) = decide (b.toNat ≤ 90) := nat_le 90 b
  have e : isLet b = (isLow b || (decide (65 ≤ b.toNat) && decide (b.toNat ≤ 90))) := rfl
  rw [e]
  cases g1 : isLow b with
  | true => simp (config := {contextual := true, implicitDefEqProofs := false, maxSteps := 4000000}) only [go_sem, ↓reduceIte, Bool.false_eq_true, Nat.reduceEqDiff, Nat.reduceAdd, Int.reduceLE, Int.reduceLT, Int.reduceEq, Int.reduceToNat, Int.toNat_natCast, Int.cast_ofNat_Int, Int.natCast_one, Nat.reduceMod, Nat.reduceDiv, UInt8.reduceToNat, Nat.reduceLT, c39, g1]
  | false =>
    cases g3 : decide (65 ≤ b.toNat) with
    | false => rw [g3] at h3; simp (config := {contextual := true, implicitDefEqProofs := false, maxSteps := 4000000}) only [go_sem, ↓reduceIte, Bool.false_eq_true, Nat.reduceEqDiff, Nat.reduceAdd, Int.reduceLE, Int.reduceLT, Int.reduceEq, Int.reduceToNat, Int.toNat_natCast, Int.cast_ofNat_Int, Int.natCast_one, Nat.reduceMod, Nat.reduceDiv, UInt8.reduceToNat, Nat.reduceLT, c39, g1, h3]
    | true => rw [g3] at h3; simp (config := {contextual := true, implicitDefEqProofs := false, maxSteps := 4000000}) only [go_sem, ↓reduceIte, Bool.false_eq_true, Nat.reduceEqDiff, Nat.reduceAdd, Int.reduceLE, Int.reduceLT, Int.reduceEq, Int.reduceToNat, Int.toNat_natCast, Int.cast_ofNat_Int, Int.natCast_one, Nat.reduceMod, Nat.reduceDiv, UInt8.reduceToNat, Nat.reduceLT, c39, g1, h3, h4]
def signB (a : List UInt8) : Bool := decide (a = [40]) || (decide (a = [41]) || (decide (a = [44]) || (decide (a = [61]) || (decide (a = [58]) || (decide (a = [60]) || decide (a = [62]))))))
theorem c34 (a : List UInt8) (s : St) (K : AV → St → Prop) : CallW cx 34 [.str a] s K = K (.bool (signB a)) s := by
  refine CallW.eq (CallW.fn' (fn := ir34) rfl rfl (by kernel_rfl) ir34.eq_1 ?_) K
  unfold signB
  cases e1 : decide (a = [40]) with
  | true => simp (config := {contextual := true, implicitDefEqProofs := false, maxSteps := 4000000}) only [go_sem, ↓reduceIte, Bool.false_eq_true, Nat.reduceEqDiff, Nat.reduceAdd, Int.reduceLE, Int.reduceLT, Int.reduceEq, Int.reduceToNat, Int.toNat_natCast, Int.cast_ofNat_Int, Int.natCast_one, Nat.reduceMod, Nat.reduceDiv, UInt8.reduceToNat, Nat.reduceLT, e1]
  | false =>
  cases e2 : decide (a = [41]) with
  | true => simp (config := {contextual := true, implicitDefEqProofs := false, maxSteps := 4000000}) only [go_sem, ↓reduceIte, Bool.false_eq_true, Nat.reduceEqDiff, Nat.reduceAdd, Int.reduceLE, Int.reduceLT, Int.reduceEq, Int.reduceToNat, Int.toNat_natCast, Int.cast_ofNat_Int, Int.natCast_one, Nat.reduceMod, Nat.reduceDiv, UInt8.reduceToNat, Nat.reduceLT, e1, e2]
  | false =>
  cases e3 : decide (a = [44]) with
  | true => simp (config := {contextual := true, implicitDefEqProofs := false, maxSteps := 4000000}) only [go_sem, ↓reduceIte, Bool.false_eq_true, Nat.reduceEqDiff, Nat.reduceAdd, Int.reduceLE, Int.reduceLT, Int.reduceEq, Int.reduceToNat, Int.toNat_natCast, Int.cast_ofNat_Int, Int.natCast_one, Nat.reduceMod, Nat.reduceDiv, UInt8.reduceToNat, Nat.reduceLT, e1, e2, e3]
  | false =>
  cases e4 : decide (a = [61]) with
  | true => simp (config := {contextual := true, implicitDefEqProofs := false, maxSteps := 4000000}) only [go_sem, ↓reduceIte, Bool.false_eq_true, Nat.reduceEqDiff, Nat.reduceAdd, Int.reduceLE, Int.reduceLT, Int.reduceEq, Int.reduceToNat, Int.toNat_natCast, Int.cast_ofNat_Int, Int.natCast_one, Nat.reduceMod, Nat.reduceDiv, UInt8.reduceToNat, Nat.reduceLT, e1, e2, e3, e4]
  | false =>
  cases e5 : decide (a = [58]) with
  | true => simp (config := {contextual := true, implicitDefEqProofs := false, maxSteps := 4000000}) only [go_sem, ↓reduceIte, Bool.false_eq_true, Nat.reduceEqDiff, Nat.reduceAdd, Int.reduceLE, Int.reduceLT, Int.reduceEq, Int.reduceToNat, Int.toNat_natCast, Int.cast_ofNat_Int, Int.natCast_one, Nat.reduceMod, Nat.reduceDiv, UInt8.reduceToNat, Nat.reduceLT, e1, e2, e3, e4, e5]
  | false =>
  cases e6 : decide (a = [60]) with
  | true => simp (config := {contextual := true, implicitDefEqProofs := false, maxSteps := 4000000}) only [go_sem, ↓reduceIte, Bool.false_eq_true, Nat.reduceEqDiff, Nat.reduceAdd, Int.reduceLE, Int.reduceLT, Int.reduceEq, Int.reduceToNat, Int.toNat_natCast, Int.cast_ofNat_Int, Int.natCast_one, Nat.reduceMod, Nat.reduceDiv, UInt8.reduceToNat, Nat.reduceLT, e1, e2, e3, e4, e5, e6]
  | false => simp (config := {contextual := true, implicitDefEqProofs := false, maxSteps := 4000000}) only [go_sem, ↓reduceIte, Bool.false_eq_true, Nat.reduceEqDiff, Nat.reduceAdd, Int.reduceLE, Int.reduceLT, Int.reduceEq, Int.reduceToNat, Int.toNat_natCast, Int.cast_ofNat_Int, Int.natCast_one, Nat.reduceMod, Nat.reduceDiv, UInt8.reduceToNat, Nat.reduceLT, e1, e2, e3, e4, e5, e6]
theorem sign_one (b : UInt8) : signB [b] = decide (0 ≤ findByte b sgB 0) := by
  have : ∀ i : Fin 256, signB [UInt8.ofNat i.val] = decide (0 ≤ findByte (UInt8.ofNat i.val) sgB 0) := by decide +kernel
  have h := this ⟨b.toNat, b.toNat_lt⟩
  simpa using h
/-- Whether a byte behind a run's first belongs to it: as the lexer says. -/
theorem bel_find (b : UInt8) : decide (0 ≤ findByte b [45, 42, 46] 0) = (decide (b = 45) || (decide (b = 42) || decide (b = 46))) := by
  have : ∀ i : Fin 256, decide (0 ≤ findByte (UInt8.ofNat i.val) [45, 42, 46] 0) = (decide (UInt8.ofNat i.val = 45) || (decide (UInt8.ofNat i.val = 42) || decide (UInt8.ofNat i.val = 46))) := by decide +kernel
  have h := this ⟨b.toNat, b.toNat_lt⟩
  simpa using h
theorem c50 (a : List UInt8) (hl : a.length ≤ 4611686018427387904) (p j : Nat) (hp : p < j) (hi : j < a.length) (s : St) (K : AV → St → Prop) : CallW cx 50 [.str a, .int .i64 (j : Int)] s K = K (.bool (belB a p j)) s := by
  refine CallW.eq (CallW.fn' (fn := ir50) rfl rfl (by kernel_rfl) ir50.eq_1 ?_) K
  have b1 : (0 : Int) ≤ (j : Int) := by omega
  have b2 : (j : Int) < (a.length : Int) := by omega
  obtain ⟨b, hb⟩ : ∃ b, a.getD j 0 = b := ⟨_, rfl⟩
  have f1 : decide (((b.toNat : Nat) : Int) = 58) = decide (b = 58) := is_byte 58 b
  have f2 : decide (((b.toNat : Nat) : Int) = 45) = decide (b = 45) := is_byte 45 b
  have f3 : decide (((b.toNat : Nat) : Int) = 42) = decide (b = 42) := is_byte 42 b
  have f4 : decide (((b.toNat : Nat) : Int) = 46) = decide (b = 46) := is_byte 46 b
  unfold belB
  rw [hb, bel_find]
  by_cases h58 : b = 58
  · subst h58
    have d1 : decide ((((58 : UInt8).toNat : Nat) : Int) = 58) = true := rfl
    have hz : isD 58 = false := rfl
    rw [hz, show decide ((58 : UInt8) = 45) = false from rfl, show decide ((58 : UInt8) = 42) = false from rfl, show decide ((58 : UInt8) = 46) = false from rfl, show decide ((58 : UInt8) = 58) = true from rfl, decide_eq_true hp]
    simp only [Bool.false_or, Bool.true_and]
    have p0 : decide ((0 : Int) < (j : Int)) = true := decide_eq_true (by omega)
    have w1 : IntKind.i64.wrap ((j : Int) - 1) = ((j - 1 : Nat) : Int) := by rw [wrap_i64 (by omega) (by omega)]; omega
    have w2 := wrap_one (i := j) (by omega)
    have b3 : (0 : Int) ≤ ((j - 1 : Nat) : Int) := by omega
    have b4 : ((j - 1 : Nat) : Int) < (a.length : Int) := by omega
    have f5 : decide (((j + 1 : Nat) : Int) < (a.length : Int)) = decide (j + 1 < a.length) := decide_eq_decide.2 (by omega)
    by_cases h6 : j + 1 < a.length
    case neg =>
      rw [decide_eq_false h6] at f5 ⊢
      simp only [Bool.false_and, Bool.and_false]
      simp (config := {contextual := true, implicitDefEqProofs := false, maxSteps := 4000000}) only [go_sem, ↓reduceIte, Bool.false_eq_true, Nat.reduceEqDiff, Nat.reduceAdd, Int.reduceLE, Int.reduceLT, Int.reduceEq, Int.reduceToNat, Int.toNat_natCast, Int.cast_ofNat_Int, Int.natCast_one, Nat.reduceMod, Nat.reduceDiv, UInt8.reduceToNat, Nat.reduceLT, b1, b2, hb, d1, p0, w2, f5]
    rw [decide_eq_true h6] at f5 ⊢
    have b5 : (0 : Int) ≤ ((j + 1 : Nat) : Int) := by omega
    have b6 : ((j + 1 : Nat) : Int) < (a.length : Int) := by omega
    cases e5 : isD (a.getD (j - 1) 0) with
    | false => simp (config := {contextual := true, implicitDefEqProofs := false, maxSteps := 4000000}) only [go_sem, ↓reduceIte, Bool.false_eq_true, Nat.reduceEqDiff, Nat.reduceAdd, Int.reduceLE, Int.reduceLT, Int.reduceEq, Int.reduceToNat, Int.toNat_natCast, Int.cast_ofNat_Int, Int.natCast_one, Nat.reduceMod, Nat.reduceDiv, UInt8.reduceToNat, Nat.reduceLT, b1, b2, hb, d1, p0, w1, w2, b3, b4, f5, c40, e5]
    | true => simp (config := {contextual := true, implicitDefEqProofs := false, maxSteps := 4000000}) only [go_sem, ↓reduceIte, Bool.false_eq_true, Nat.reduceEqDiff, Nat.reduceAdd, Int.reduceLE, Int.reduceLT, Int.reduceEq, Int.reduceToNat, Int.toNat_natCast, Int.cast_ofNat_Int, Int.natCast_one, Nat.reduceMod, Nat.reduceDiv, UInt8.reduceToNat, Nat.reduceLT, b1, b2, hb, d1, p0, w1, w2, b3, b4, b5, b6, f5, c40, e5]
  · rw [decide_eq_false h58] at f1 ⊢
    simp only [Bool.false_and, Bool.or_false]
    cases e1 : isD b with
    | true => simp (config := {contextual := true, implicitDefEqProofs := false, maxSteps := 4000000}) only [go_sem, ↓reduceIte, Bool.false_eq_true, Nat.reduceEqDiff, Nat.reduceAdd, Int.reduceLE, Int.reduceLT, Int.reduceEq, Int.reduceToNat, Int.toNat_natCast, Int.cast_ofNat_Int, Int.natCast_one, Nat.reduceMod, Nat.reduceDiv, UInt8.reduceToNat, Nat.reduceLT, b1, b2, hb, f1, c40, e1]
    | false =>
    cases e2 : decide (b = 45) with
    | true => rw [e2] at f2; simp (config := {contextual := true, implicitDefEqProofs := false, maxSteps := 4000000}) only [go_sem, ↓reduceIte, Bool.false_eq_true, Nat.reduceEqDiff, Nat.reduceAdd, Int.reduceLE, Int.reduceLT, Int.reduceEq, Int.reduceToNat, Int.toNat_natCast, Int.cast_ofNat_Int, Int.natCast_one, Nat.reduceMod, Nat.reduceDiv, UInt8.reduceToNat, Nat.reduceLT, b1, b2, hb, f1, c40, e1, f2]
    | false =>
    rw [e2] at f2
    cases e3 : decide (b = 42) with
    | true => rw [e3] at f3; simp (config := {contextual := true, implicitDefEqProofs := false, maxSteps := 4000000}) only [go_sem, ↓reduceIte, Bool.false_eq_true, Nat.reduceEqDiff, Nat.reduceAdd, Int.reduceLE, Int.reduceLT, Int.reduceEq, Int.reduceToNat, Int.toNat_natCast, Int.cast_ofNat_Int, Int.natCast_one, Nat.reduceMod, Nat.reduceDiv, UInt8.reduceToNat, Nat.reduceLT, b1, b2, hb, f1, c40, e1, f2, f3]
    | false => rw [e3] at f3; simp (config := {contextual := true, implicitDefEqProofs := false, maxSteps := 4000000}) only [go_sem, ↓reduceIte, Bool.false_eq_true, Nat.reduceEqDiff, Nat.reduceAdd, Int.reduceLE, Int.reduceLT, Int.reduceEq, Int.reduceToNat, Int.toNat_natCast, Int.cast_ofNat_Int, Int.natCast_one, Nat.reduceMod, Nat.reduceDiv, UInt8.reduceToNat, Nat.reduceLT, b1, b2, hb, f1, c40, e1, f2, f3, f4]
end T17

/- The reference's next token. -/
namespace T17
open Go Fw Go.Proofs
set_option maxRecDepth 100000
set_option maxHeartbeats 4000000
set_option linter.unusedSimpArgs false
set_option linter.unusedVariables false
theorem l28a (a : List UInt8) (hl : a.length ≤ 4611686018427387904) (x1 x4 : AV) (st : St) (Q : Sig → FE → St → Prop) : ∀ (n j : Nat) (e : FE), j + n = a.length → e 0 = .str a → e 1 = x1 → e 4 = x4 → e 8 = .int .i64 (j : Int) →
    (∀ e', e' 0 = .str a → e' 1 = x1 → e' 4 = x4 → e' 8 = .int .i64 ((runI (fun j => isWd (a.getD j 0)) n j : Nat) : Int) → Q (.exit 1) e' st) → WLoop cx ir28L0 e st Q
  | 0, j, e, hj, h0, h1, h4, h8, hQ => by
    refine WLoop.rnd (c := _) ir28L0.eq_1 ?_
    have hd : decide ((j : Int) < (a.length : Int)) = false := decide_eq_false (by omega)
    simp (config := {contextual := true, implicitDefEqProofs := false, maxSteps := 4000000}) only [go_sem, ↓reduceIte, Bool.false_eq_true, Nat.reduceEqDiff, Nat.reduceAdd, Int.reduceLE, Int.reduceLT, Int.reduceEq, Int.reduceToNat, Int.toNat_natCast, Int.cast_ofNat_Int, Int.natCast_one, Nat.reduceMod, Nat.reduceDiv, UInt8.reduceToNat, Nat.reduceLT, h0, h8, hd]
    exact hQ _ h0 h1 h4 h8
  | n + 1, j, e, hj, h0, h1, h4, h8, hQ => by
    refine WLoop.rnd (c := _) ir28L0.eq_1 ?_
    have hd : decide ((j : Int) < (a.length : Int)) = true := decide_eq_true (by omega)
    have hw := wrap_one (i := j) (by omega)
    have b1 : (0 : Int) ≤ (j : Int) := by omega
    have b2 : (j : Int) < (a.length : Int) := by omega
    have ih := fun e a0 a1 a4 a8 a9 => l28a a hl x1 x4 st Q n (j + 1) e (by omega) a0 a1 a4 a8 a9
    obtain ⟨b, hb⟩ : ∃ b, a.getD j 0 = b := ⟨_, rfl⟩
    have hr : runI (fun j => isWd (a.getD j 0)) (n + 1) j = if isWd b = true then runI (fun j => isWd (a.getD j 0)) n (j + 1) else j := by rw [← hb]; rfl
    rw [hr] at hQ
    have f1 : decide (((b.toNat : Nat) : Int) = 95) = decide (b = 95) := is_byte 95 b
    have f2 : decide (((b.toNat : Nat) : Int) = 47) = decide (b = 47) := is_byte 47 b
    have qb : isWd b = (isLet b || (isD b || (decide (b = 95) || decide (b = 47)))) := rfl
    rw [qb] at hQ
    cases e1 : isLet b with
    | true =>
      rw [e1, Bool.true_or, if_pos rfl] at hQ
      simp (config := {contextual := true, implicitDefEqProofs := false, maxSteps := 4000000}) only [go_sem, ↓reduceIte, Bool.false_eq_true, Nat.reduceEqDiff, Nat.reduceAdd, Int.reduceLE, Int.reduceLT, Int.reduceEq, Int.reduceToNat, Int.toNat_natCast, Int.cast_ofNat_Int, Int.natCast_one, Nat.reduceMod, Nat.reduceDiv, UInt8.reduceToNat, Nat.reduceLT, h0, h8, hd, b1, b2, hb, c49, e1, hw]
      exact ih _ h0 h1 h4 rfl hQ
    | false =>
    cases e2 : isD b with
    | true =>
      rw [e1, e2, Bool.true_or, Bool.or_true, if_pos rfl] at hQ
      simp (config := {contextual := true, implicitDefEqProofs := false, maxSteps := 4000000}) only [go_sem, ↓reduceIte, Bool.false_eq_true, Nat.reduceEqDiff, Nat.reduceAdd, Int.reduceLE, Int.reduceLT, Int.reduceEq, Int.reduceToNat, Int.toNat_natCast, Int.cast_ofNat_Int, Int.natCast_one, Nat.reduceMod, Nat.reduceDiv, UInt8.reduceToNat, Nat.reduceLT, h0, h8, hd, b1, b2, hb, c49, c40, e1, e2, hw]
      exact ih _ h0 h1 h4 rfl hQ
    | false =>
    cases e3 : decide (b = 95) with
    | true =>
      rw [e3] at f1
      rw [e1, e2, e3, Bool.true_or, Bool.or_true, Bool.or_true, if_pos rfl] at hQ
      simp (config := {contextual := true, implicitDefEqProofs := false, maxSteps := 4000000}) only [go_sem, ↓reduceIte, Bool.false_eq_true, Nat.reduceEqDiff, Nat.reduceAdd, Int.reduceLE, Int.reduceLT, Int.reduceEq, Int.reduceToNat, Int.toNat_natCast, Int.cast_ofNat_Int, Int.natCast_one, Nat.reduceMod, Nat.reduceDiv, UInt8.reduceToNat, Nat.reduceLT, h0, h8, hd, b1, b2, hb, c49, c40, e1, e2, f1, hw]
      exact ih _ h0 h1 h4 rfl hQ
    | false =>
    rw [e3] at f1
    cases e4 : decide (b = 47) with
    | true =>
      rw [e4] at f2
      rw [e1, e2, e3, e4, Bool.or_true, Bool.or_true, Bool.or_true, if_pos rfl] at hQ
      simp (config := {contextual := true, implicitDefEqProofs := false, maxSteps := 4000000}) only [go_sem, ↓reduceIte, Bool.false_eq_true, Nat.reduceEqDiff, Nat.reduceAdd, Int.reduceLE, Int.reduceLT, Int.reduceEq, Int.reduceToNat, Int.toNat_natCast, Int.cast_ofNat_Int, Int.natCast_one, Nat.reduceMod, Nat.reduceDiv, UInt8.reduceToNat, Nat.reduceLT, h0, h8, hd, b1, b2, hb, c49, c40, e1, e2, f1, f2, hw]
      exact ih _ h0 h1 h4 rfl hQ
    | false =>
      rw [e4] at f2
      rw [e1, e2, e3, e4] at hQ
      simp (config := {contextual := true, implicitDefEqProofs := false, maxSteps := 4000000}) only [go_sem, ↓reduceIte, Bool.false_eq_true, Nat.reduceEqDiff, Nat.reduceAdd, Int.reduceLE, Int.reduceLT, Int.reduceEq, Int.reduceToNat, Int.toNat_natCast, Int.cast_ofNat_Int, Int.natCast_one, Nat.reduceMod, Nat.reduceDiv, UInt8.reduceToNat, Nat.reduceLT, h0, h8, hd, b1, b2, hb, c49, c40, e1, e2, f1, f2]
      exact hQ _ h0 h1 h4 h8
theorem l28b (a : List UInt8) (hl : a.length ≤ 4611686018427387904) (p : Nat) (x1 x4 : AV) (st : St) (Q : Sig → FE → St → Prop) : ∀ (n j : Nat) (e : FE), j + n = a.length → p < j → e 0 = .str a → e 1 = x1 → e 4 = x4 → e 8 = .int .i64 (j : Int) →
    (∀ e', e' 0 = .str a → e' 1 = x1 → e' 4 = x4 → e' 8 = .int .i64 ((runI (belB a p) n j : Nat) : Int) → Q (.exit 3) e' st) → WLoop cx ir28L1 e st Q
  | 0, j, e, hj, hp, h0, h1, h4, h8, hQ => by
    refine WLoop.rnd (c := _) ir28L1.eq_1 ?_
    have hd : decide ((j : Int) < (a.length : Int)) = false := decide_eq_false (by omega)
    simp (config := {contextual := true, implicitDefEqProofs := false, maxSteps := 4000000}) only [go_sem, ↓reduceIte, Bool.false_eq_true, Nat.reduceEqDiff, Nat.reduceAdd, Int.reduceLE, Int.reduceLT, Int.reduceEq, Int.reduceToNat, Int.toNat_natCast, Int.cast_ofNat_Int, Int.natCast_one, Nat.reduceMod, Nat.reduceDiv, UInt8.reduceToNat, Nat.reduceLT, h0, h8, hd]
    exact hQ _ h0 h1 h4 h8
  | n + 1, j, e, hj, hp, h0, h1, h4, h8, hQ => by
    refine WLoop.rnd (c := _) ir28L1.eq_1 ?_
    have hd : decide ((j : Int) < (a.length : Int)) = true := decide_eq_true (by omega)
    have hw := wrap_one (i := j) (by omega)
    simp only [runI] at hQ
    have k := fun st K => c50 a hl p j hp (by omega) st K
    cases e1 : belB a p j with
    | true =>
      rw [e1] at k hQ
      rw [if_pos rfl] at hQ
      simp (config := {contextual := true, implicitDefEqProofs := false, maxSteps := 4000000}) only [go_sem, ↓reduceIte, Bool.false_eq_true, Nat.reduceEqDiff, Nat.reduceAdd, Int.reduceLE, Int.reduceLT, Int.reduceEq, Int.reduceToNat, Int.toNat_natCast, Int.cast_ofNat_Int, Int.natCast_one, Nat.reduceMod, Nat.reduceDiv, UInt8.reduceToNat, Nat.reduceLT, h0, h8, hd, k, hw]
      exact l28b a hl p x1 x4 st Q n (j + 1) _ (by omega) (by omega) h0 h1 h4 rfl hQ
    | false =>
      rw [e1] at k hQ
      rw [if_neg (by decide)] at hQ
      simp (config := {contextual := true, implicitDefEqProofs := false, maxSteps := 4000000}) only [go_sem, ↓reduceIte, Bool.false_eq_true, Nat.reduceEqDiff, Nat.reduceAdd, Int.reduceLE, Int.reduceLT, Int.reduceEq, Int.reduceToNat, Int.toNat_natCast, Int.cast_ofNat_Int, Int.natCast_one, Nat.reduceMod, Nat.reduceDiv, UInt8.reduceToNat, Nat.reduceLT, h0, h8, hd, k]
      exact hQ _ h0 h1 h4 h8
theorem l28c (a : List UInt8) (hl : a.length ≤ 4611686018427387904) (x1 x4 : AV) (st : St) (Q : Sig → FE → St → Prop) : ∀ (n j : Nat) (e : FE), j + n = a.length → e 0 = .str a → e 1 = x1 → e 4 = x4 → e 8 = .int .i64 (j : Int) →
    (∀ e', e' 0 = .str a → e' 1 = x1 → e' 4 = x4 → e' 8 = .int .i64 ((runI (fun j => !decide (a.getD j 0 = 34)) n j : Nat) : Int) → Q (.exit 5) e' st) → WLoop cx ir28L2 e st Q
  | 0, j, e, hj, h0, h1, h4, h8, hQ => by
    refine WLoop.rnd (c := _) ir28L2.eq_1 ?_
    have hd : decide ((j : Int) < (a.length : Int)) = false := decide_eq_false (by omega)
    simp (config := {contextual := true, implicitDefEqProofs := false, maxSteps := 4000000}) only [go_sem, ↓reduceIte, Bool.false_eq_true, Nat.reduceEqDiff, Nat.reduceAdd, Int.reduceLE, Int.reduceLT, Int.reduceEq, Int.reduceToNat, Int.toNat_natCast, Int.cast_ofNat_Int, Int.natCast_one, Nat.reduceMod, Nat.reduceDiv, UInt8.reduceToNat, Nat.reduceLT, h0, h8, hd]
    exact hQ _ h0 h1 h4 h8
  | n + 1, j, e, hj, h0, h1, h4, h8, hQ => by
    refine WLoop.rnd (c := _) ir28L2.eq_1 ?_
    have hd : decide ((j : Int) < (a.length : Int)) = true := decide_eq_true (by omega)
    have hw := wrap_one (i := j) (by omega)
    have b1 : (0 : Int) ≤ (j : Int) := by omega
    have b2 : (j : Int) < (a.length : Int) := by omega
    obtain ⟨b, hb⟩ : ∃ b, a.getD j 0 = b := ⟨_, rfl⟩
    have hr : runI (fun j => !decide (a.getD j 0 = 34)) (n + 1) j = if (!decide (b = 34)) = true then runI (fun j => !decide (a.getD j 0 = 34)) n (j + 1) else j := by rw [← hb]; rfl
    rw [hr] at hQ
    have f1 : decide (((b.toNat : Nat) : Int) ≠ 34) = !decide (b = 34) := byte_isnt 34 b
    cases e1 : decide (b = 34) with
    | false =>
      rw [e1] at f1 hQ
      rw [if_pos (by decide)] at hQ
      simp (config := {contextual := true, implicitDefEqProofs := false, maxSteps := 4000000}) only [go_sem, ↓reduceIte, Bool.false_eq_true, Nat.reduceEqDiff, Nat.reduceAdd, Int.reduceLE, Int.reduceLT, Int.reduceEq, Int.reduceToNat, Int.toNat_natCast, Int.cast_ofNat_Int, Int.natCast_one, Nat.reduceMod, Nat.reduceDiv, UInt8.reduceToNat, Nat.reduceLT, h0, h8, hd, b1, b2, hb, f1, Bool.not_false, hw]
      exact l28c a hl x1 x4 st Q n (j + 1) _ (by omega) h0 h1 h4 rfl hQ
    | true =>
      rw [e1] at f1 hQ
      rw [if_neg (by decide)] at hQ
      simp (config := {contextual := true, implicitDefEqProofs := false, maxSteps := 4000000}) only [go_sem, ↓reduceIte, Bool.false_eq_true, Nat.reduceEqDiff, Nat.reduceAdd, Int.reduceLE, Int.reduceLT, Int.reduceEq, Int.reduceToNat, Int.toNat_natCast, Int.cast_ofNat_Int, Int.natCast_one, Nat.reduceMod, Nat.reduceDiv, UInt8.reduceToNat, Nat.reduceLT, h0, h8, hd, b1, b2, hb, f1, Bool.not_true]
      exact hQ _ h0 h1 h4 h8
theorem find_run (a : List UInt8) : ∀ (n i k : Nat), i + n = a.length → findByte 34 (a.drop i) k = if runI (fun j => !decide (a.getD j 0 = 34)) n i < a.length then ((k + (runI (fun j => !decide (a.getD j 0 = 34)) n i - i) : Nat) : Int) else -1
  | 0, i, k, h => by
    rw [List.drop_eq_nil_of_le (by omega), show runI (fun j => !decide (a.getD j 0 = 34)) 0 i = i from rfl, if_neg (by omega)]
    rfl
  | n + 1, i, k, h => by
    rw [drop_at (show i < a.length by omega)]
    have ih := find_run a n (i + 1) (k + 1) (by omega)
    have hr := runI_le (fun j => !decide (a.getD j 0 = 34)) n (i + 1)
    obtain ⟨b, hb⟩ : ∃ b, a.getD i 0 = b := ⟨_, rfl⟩
    have hs : runI (fun j => !decide (a.getD j 0 = 34)) (n + 1) i = if (!decide (b = 34)) = true then runI (fun j => !decide (a.getD j 0 = 34)) n (i + 1) else i := by rw [← hb]; rfl
    rw [hs, hb]
    simp only [findByte]
    by_cases h34 : b = 34
    · rw [if_pos h34, decide_eq_true h34, if_neg (show ¬ (!true) = true by decide), if_pos (by omega)]
      congr 1
      omega
    · rw [if_neg h34, decide_eq_false h34, if_pos (show (!false) = true by decide), ih]
      split
      · congr 1; omega
      · rfl
theorem c28 (a : List UInt8) (hl : a.length ≤ 100000) (i : Nat) (hi : i < a.length) (s : St) (K : AV → St → Prop) : CallW cx 28 [.str a, .int .i64 (i : Int)] s K = K (nxo (nextB a i)) s := by
  refine CallW.eq (CallW.fn' (fn := ir28) rfl rfl (by kernel_rfl) ir28.eq_1 ?_) K
  have b1 : (0 : Int) ≤ (i : Int) := by omega
  have b2 : (i : Int) < (a.length : Int) := by omega
  have w1 := wrap_one (i := i) (by omega)
  obtain ⟨b, hb⟩ : ∃ b, a.getD i 0 = b := ⟨_, rfl⟩
  obtain ⟨n, hn⟩ : ∃ n, i + 1 + n = a.length := ⟨a.length - (i + 1), by omega⟩
  have hni : a.length - i = n + 1 := by omega
  unfold nextB
  rw [hb]
  cases e1 : isLet b with
  | true =>
    rw [if_pos rfl]
    have hr : runB isWd a i = runI (fun j => isWd (a.getD j 0)) n (i + 1) := by
      unfold runB
      rw [hni]
      have hs : runI (fun j => isWd (a.getD j 0)) (n + 1) i = if isWd b = true then runI (fun j => isWd (a.getD j 0)) n (i + 1) else i := by rw [← hb]; rfl
      rw [hs, show isWd b = true by unfold isWd; rw [e1]; rfl, if_pos rfl]
    have hrl := runI_le (fun j => isWd (a.getD j 0)) n (i + 1)
    unfold wordB
    rw [hr]
    simp (config := {contextual := true, implicitDefEqProofs := false, maxSteps := 4000000}) only [go_sem, ↓reduceIte, Bool.false_eq_true, Nat.reduceEqDiff, Nat.reduceAdd, Int.reduceLE, Int.reduceLT, Int.reduceEq, Int.reduceToNat, Int.toNat_natCast, Int.cast_ofNat_Int, Int.natCast_one, Nat.reduceMod, Nat.reduceDiv, UInt8.reduceToNat, Nat.reduceLT, b1, b2, hb, w1, c49, e1]
    refine l28a a (by omega) _ _ _ _ n (i + 1) _ hn rfl rfl rfl rfl ?_
    intro e' h0 h1 h4 h8
    generalize runI (fun j => isWd (a.getD j 0)) n (i + 1) = r at *
    have w2 : IntKind.i64.wrap ((r : Int) - (i : Int)) = ((r - i : Nat) : Int) := by rw [wrap_i64 (by omega) (by omega)]; omega
    have g1 : slOk a.length (i : Int) (r : Int) := ⟨by omega, by omega, by omega⟩
    by_cases h49 : 49 < r - i
    · have d1 : decide ((49 : Int) < ((r - i : Nat) : Int)) = true := decide_eq_true (by omega)
      rw [if_pos h49]
      simp (config := {contextual := true, implicitDefEqProofs := false, maxSteps := 4000000}) only [go_sem, ↓reduceIte, Bool.false_eq_true, Nat.reduceEqDiff, Nat.reduceAdd, Int.reduceLE, Int.reduceLT, Int.reduceEq, Int.reduceToNat, Int.toNat_natCast, Int.cast_ofNat_Int, Int.natCast_one, Nat.reduceMod, Nat.reduceDiv, UInt8.reduceToNat, Nat.reduceLT, h0, h1, h4, h8, w2, d1]
      rfl
    · have d1 : decide ((49 : Int) < ((r - i : Nat) : Int)) = false := decide_eq_false (by omega)
      rw [if_neg h49]
      simp (config := {contextual := true, implicitDefEqProofs := false, maxSteps := 4000000}) only [go_sem, ↓reduceIte, Bool.false_eq_true, Nat.reduceEqDiff, Nat.reduceAdd, Int.reduceLE, Int.reduceLT, Int.reduceEq, Int.reduceToNat, Int.toNat_natCast, Int.cast_ofNat_Int, Int.natCast_one, Nat.reduceMod, Nat.reduceDiv, UInt8.reduceToNat, Nat.reduceLT, h0, h1, h4, h8, w2, d1, g1]
  | false =>
  rw [if_neg (by decide)]
  have f1 : decide (((b.toNat : Nat) : Int) = 45) = decide (b = 45) := is_byte 45 b
  have f2 : decide (((b.toNat : Nat) : Int) = 42) = decide (b = 42) := is_byte 42 b
  have f3 : decide (((b.toNat : Nat) : Int) = 34) = decide (b = 34) := is_byte 34 b
  by_cases e2 : (isD b || (decide (b = 45) || decide (b = 42))) = true
  case pos =>
    rw [if_pos e2]
    have hbel : belB a i i = true := by
      unfold belB
      rw [hb]
      simp only [Bool.or_eq_true, decide_eq_true_eq] at e2
      rcases e2 with h | h | h
      · rw [h]; rfl
      · rw [h]; rfl
      · rw [h]; rfl
    have hr : fend a i = runI (belB a i) n (i + 1) := by
      unfold fend
      rw [hni]
      have hs : runI (belB a i) (n + 1) i = if belB a i i = true then runI (belB a i) n (i + 1) else i := rfl
      rw [hs, hbel, if_pos rfl]
    have hrl := runI_le (belB a i) n (i + 1)
    unfold numB
    rw [hr]
    have go : ∀ (e : FE) (st : St) (Q : Sig → FE → St → Prop), True := fun _ _ _ => trivial
    have fin : ∀ (r : Nat), r ≤ a.length → i ≤ r → slOk a.length (i : Int) (r : Int) ∧ ∀ st K, CallW cx 51 [.str (cut a (i : Int) (r : Int))] st K = K (.tuple [.agg (encT (figT (cut a (i : Int) (r : Int))).1), .int .i64 (figT (cut a (i : Int) (r : Int))).2]) st := by
      intro r h1 h2
      refine ⟨⟨by omega, by omega, by omega⟩, fun st K => ?_⟩
      rw [c51 _ (Nat.le_trans (cut_le a _ _) hl) st K, figB_eq]
    cases d1 : isD b with
    | true =>
      simp (config := {contextual := true, implicitDefEqProofs := false, maxSteps := 4000000}) only [go_sem, ↓reduceIte, Bool.false_eq_true, Nat.reduceEqDiff, Nat.reduceAdd, Int.reduceLE, Int.reduceLT, Int.reduceEq, Int.reduceToNat, Int.toNat_natCast, Int.cast_ofNat_Int, Int.natCast_one, Nat.reduceMod, Nat.reduceDiv, UInt8.reduceToNat, Nat.reduceLT, b1, b2, hb, w1, c49, e1, c40, d1]
      refine l28b a (by omega) i _ _ _ _ n (i + 1) _ hn (by omega) rfl rfl rfl rfl ?_
      intro e' h0 h1 h4 h8
      obtain ⟨g1, g2⟩ := fin (runI (belB a i) n (i + 1)) (by omega) (by omega)
      generalize runI (belB a i) n (i + 1) = r at *
      generalize figT (cut a (i : Int) (r : Int)) = x at *
      obtain ⟨⟨x1, x2, x3, x4⟩, x5⟩ := x
      simp only [encT] at g2
      simp (config := {contextual := true, implicitDefEqProofs := false, maxSteps := 4000000}) only [go_sem, ↓reduceIte, Bool.false_eq_true, Nat.reduceEqDiff, Nat.reduceAdd, Int.reduceLE, Int.reduceLT, Int.reduceEq, Int.reduceToNat, Int.toNat_natCast, Int.cast_ofNat_Int, Int.natCast_one, Nat.reduceMod, Nat.reduceDiv, UInt8.reduceToNat, Nat.reduceLT, h0, h1, h4, h8, g1, g2]
    | false =>
    cases d2 : decide (b = 45) with
    | true =>
      rw [d2] at f1
      simp (config := {contextual := true, implicitDefEqProofs := false, maxSteps := 4000000}) only [go_sem, ↓reduceIte, Bool.false_eq_true, Nat.reduceEqDiff, Nat.reduceAdd, Int.reduceLE, Int.reduceLT, Int.reduceEq, Int.reduceToNat, Int.toNat_natCast, Int.cast_ofNat_Int, Int.natCast_one, Nat.reduceMod, Nat.reduceDiv, UInt8.reduceToNat, Nat.reduceLT, b1, b2, hb, w1, c49, e1, c40, d1, f1]
      refine l28b a (by omega) i _ _ _ _ n (i + 1) _ hn (by omega) rfl rfl rfl rfl ?_
      intro e' h0 h1 h4 h8
      obtain ⟨g1, g2⟩ := fin (runI (belB a i) n (i + 1)) (by omega) (by omega)
      generalize runI (belB a i) n (i + 1) = r at *
      generalize figT (cut a (i : Int) (r : Int)) = x at *
      obtain ⟨⟨x1, x2, x3, x4⟩, x5⟩ := x
      simp only [encT] at g2
      simp (config := {contextual := true, implicitDefEqProofs := false, maxSteps := 4000000}) only [go_sem, ↓reduceIte, Bool.false_eq_true, Nat.reduceEqDiff, Nat.reduceAdd, Int.reduceLE, Int.reduceLT, Int.reduceEq, Int.reduceToNat, Int.toNat_natCast, Int.cast_ofNat_Int, Int.natCast_one, Nat.reduceMod, Nat.reduceDiv, UInt8.reduceToNat, Nat.reduceLT, h0, h1, h4, h8, g1, g2]
    | false =>
      have d3 : decide (b = 42) = true := by rw [d1, d2] at e2; simpa using e2
      rw [d2] at f1
      rw [d3] at f2
      simp (config := {contextual := true, implicitDefEqProofs := false, maxSteps := 4000000}) only [go_sem, ↓reduceIte, Bool.false_eq_true, Nat.reduceEqDiff, Nat.reduceAdd, Int.reduceLE, Int.reduceLT, Int.reduceEq, Int.reduceToNat, Int.toNat_natCast, Int.cast_ofNat_Int, Int.natCast_one, Nat.reduceMod, Nat.reduceDiv, UInt8.reduceToNat, Nat.reduceLT, b1, b2, hb, w1, c49, e1, c40, d1, f1, f2]
      refine l28b a (by omega) i _ _ _ _ n (i + 1) _ hn (by omega) rfl rfl rfl rfl ?_
      intro e' h0 h1 h4 h8
      obtain ⟨g1, g2⟩ := fin (runI (belB a i) n (i + 1)) (by omega) (by omega)
      generalize runI (belB a i) n (i + 1) = r at *
      generalize figT (cut a (i : Int) (r : Int)) = x at *
      obtain ⟨⟨x1, x2, x3, x4⟩, x5⟩ := x
      simp only [encT] at g2
      simp (config := {contextual := true, implicitDefEqProofs := false, maxSteps := 4000000}) only [go_sem, ↓reduceIte, Bool.false_eq_true, Nat.reduceEqDiff, Nat.reduceAdd, Int.reduceLE, Int.reduceLT, Int.reduceEq, Int.reduceToNat, Int.toNat_natCast, Int.cast_ofNat_Int, Int.natCast_one, Nat.reduceMod, Nat.reduceDiv, UInt8.reduceToNat, Nat.reduceLT, h0, h1, h4, h8, g1, g2]
  rw [if_neg e2]
  have e2 : (isD b || (decide (b = 45) || decide (b = 42))) = false := by simpa using e2
  simp only [Bool.or_eq_false_iff] at e2
  obtain ⟨d1, d2, d3⟩ := e2
  rw [d2] at f1
  rw [d3] at f2
  cases e3 : decide (b = 34) with
  | true =>
    rw [e3] at f3
    rw [if_pos rfl]
    have hf := find_run a n (i + 1) 0 hn
    have hrl := runI_le (fun j => !decide (a.getD j 0 = 34)) n (i + 1)
    unfold textB
    simp (config := {contextual := true, implicitDefEqProofs := false, maxSteps := 4000000}) only [go_sem, ↓reduceIte, Bool.false_eq_true, Nat.reduceEqDiff, Nat.reduceAdd, Int.reduceLE, Int.reduceLT, Int.reduceEq, Int.reduceToNat, Int.toNat_natCast, Int.cast_ofNat_Int, Int.natCast_one, Nat.reduceMod, Nat.reduceDiv, UInt8.reduceToNat, Nat.reduceLT, b1, b2, hb, w1, c49, e1, c40, d1, f1, f2, f3]
    refine l28c a (by omega) _ _ _ _ n (i + 1) _ hn rfl rfl rfl rfl ?_
    intro e' h0 h1 h4 h8
    generalize runI (fun j => !decide (a.getD j 0 = 34)) n (i + 1) = r at *
    by_cases hr : r < a.length
    case neg =>
      have d4 : decide ((r : Int) = (a.length : Int)) = true := decide_eq_true (by omega)
      rw [if_neg hr] at hf
      rw [hf]
      simp (config := {contextual := true, implicitDefEqProofs := false, maxSteps := 4000000}) only [go_sem, ↓reduceIte, Bool.false_eq_true, Nat.reduceEqDiff, Nat.reduceAdd, Int.reduceLE, Int.reduceLT, Int.reduceEq, Int.reduceToNat, Int.toNat_natCast, Int.cast_ofNat_Int, Int.natCast_one, Nat.reduceMod, Nat.reduceDiv, UInt8.reduceToNat, Nat.reduceLT, h0, h1, h4, h8, d4]
      rfl
    have d4 : decide ((r : Int) = (a.length : Int)) = false := decide_eq_false (by omega)
    rw [if_pos hr, Nat.zero_add] at hf
    rw [hf]
    have er : i + 1 + (r - (i + 1)) = r := by omega
    have er2 : i + (r - (i + 1)) + 2 = r + 1 := by omega
    simp only [er, er2]
    have g1 : slOk a.length ((i + 1 : Nat) : Int) (r : Int) := ⟨by omega, by omega, by omega⟩
    have w2 := wrap_one (i := r) (by omega)
    have kp := fun st K => c43 (cut a ((i + 1 : Nat) : Int) (r : Int)) (Nat.le_trans (cut_le a _ _) (by omega)) st K
    have kl := fun st K => c21 (cut a ((i + 1 : Nat) : Int) (r : Int)) (Nat.le_trans (cut_le a _ _) (by omega)) st K
    obtain ⟨y, hy⟩ : ∃ y, cut a ((i + 1 : Nat) : Int) (r : Int) = y := ⟨_, rfl⟩
    rw [hy] at kp kl ⊢
    cases p1 : y.all isPl with
    | false =>
      rw [p1] at kp
      simp (config := {contextual := true, implicitDefEqProofs := false, maxSteps := 4000000}) only [go_sem, ↓reduceIte, Bool.false_eq_true, Nat.reduceEqDiff, Nat.reduceAdd, Int.reduceLE, Int.reduceLT, Int.reduceEq, Int.reduceToNat, Int.toNat_natCast, Int.cast_ofNat_Int, Int.natCast_one, Nat.reduceMod, Nat.reduceDiv, UInt8.reduceToNat, Nat.reduceLT, h0, h1, h4, h8, d4, w1, g1, hy, kp]
      rfl
    | true =>
      rw [p1] at kp
      cases p2 : labB y with
      | false =>
        rw [p2] at kl
        simp (config := {contextual := true, implicitDefEqProofs := false, maxSteps := 4000000}) only [go_sem, ↓reduceIte, Bool.false_eq_true, Nat.reduceEqDiff, Nat.reduceAdd, Int.reduceLE, Int.reduceLT, Int.reduceEq, Int.reduceToNat, Int.toNat_natCast, Int.cast_ofNat_Int, Int.natCast_one, Nat.reduceMod, Nat.reduceDiv, UInt8.reduceToNat, Nat.reduceLT, h0, h1, h4, h8, d4, w1, g1, hy, kp, kl]
        rfl
      | true =>
        rw [p2] at kl
        simp (config := {contextual := true, implicitDefEqProofs := false, maxSteps := 4000000}) only [go_sem, ↓reduceIte, Bool.false_eq_true, Nat.reduceEqDiff, Nat.reduceAdd, Int.reduceLE, Int.reduceLT, Int.reduceEq, Int.reduceToNat, Int.toNat_natCast, Int.cast_ofNat_Int, Int.natCast_one, Nat.reduceMod, Nat.reduceDiv, UInt8.reduceToNat, Nat.reduceLT, h0, h1, h4, h8, d4, w1, w2, g1, hy, kp, kl]
  | false =>
  rw [e3] at f3
  rw [if_neg (by decide)]
  have g1 : slOk a.length (i : Int) ((i + 1 : Nat) : Int) := ⟨by omega, by omega, by omega⟩
  have hc : cut a (i : Int) ((i + 1 : Nat) : Int) = [b] := by
    unfold cut
    simp only [Int.toNat_natCast]
    rw [show i + 1 - i = 1 by omega, drop_at hi, hb]
    rfl
  have ks := fun st K => c34 [b] st K
  rw [sign_one] at ks
  rw [hc]
  cases e4 : decide (0 ≤ findByte b sgB 0) with
  | true =>
    rw [e4] at ks
    rw [if_pos rfl]
    simp (config := {contextual := true, implicitDefEqProofs := false, maxSteps := 4000000}) only [go_sem, ↓reduceIte, Bool.false_eq_true, Nat.reduceEqDiff, Nat.reduceAdd, Int.reduceLE, Int.reduceLT, Int.reduceEq, Int.reduceToNat, Int.toNat_natCast, Int.cast_ofNat_Int, Int.natCast_one, Nat.reduceMod, Nat.reduceDiv, UInt8.reduceToNat, Nat.reduceLT, b1, b2, hb, w1, c49, e1, c40, d1, f1, f2, f3, g1, hc, ks]
  | false =>
    rw [e4] at ks
    rw [if_neg (by decide)]
    simp (config := {contextual := true, implicitDefEqProofs := false, maxSteps := 4000000}) only [go_sem, ↓reduceIte, Bool.false_eq_true, Nat.reduceEqDiff, Nat.reduceAdd, Int.reduceLE, Int.reduceLT, Int.reduceEq, Int.reduceToNat, Int.toNat_natCast, Int.cast_ofNat_Int, Int.natCast_one, Nat.reduceMod, Nat.reduceDiv, UInt8.reduceToNat, Nat.reduceLT, b1, b2, hb, w1, c49, e1, c40, d1, f1, f2, f3, g1, hc, ks]
    rfl
end T17

/- The reference's scan of a line: its loop. -/
namespace T17
open Go Fw Go.Proofs
set_option maxRecDepth 100000
set_option maxHeartbeats 4000000
set_option linter.unusedSimpArgs false
set_option linter.unusedVariables false
abbrev rctC (n : Int) (v : AV) (h : Bool) (c : List UInt8) : AObj := .cells (some 31) [.int .i64 n, v, .bool h, .str c]
/-- The state of the reference's scan: the results at N and N + 1, what is read at N + 2. -/
structure SR (N : Nat) (n : Int) (v : AV) (ts : List Tok) (c : List UInt8) (st : St) : Prop where
  gr : Gr 37 4 st v (encTs ts) ts.length
  la : Fw.look (N) st.heap = some (rctC 0 .nilslice false [])
  lb : Fw.look (N + 1) st.heap = some (fltC 0 0)
  ld : Fw.look (N + 2) st.heap = some (rctC n v false c)
  tk : ∀ t, tokOf v = some t → N + 2 < t
  sh : if ts = [] then v = .slice [] 0 .full else ∃ t, tokOf v = some t
  lw : N ≤ st.low
  nx : N + 2 < st.next
/-- A token more. -/
theorem SR.app {N : Nat} {n : Int} {v : AV} {ts : List Tok} {c : List UInt8} {st : St} (h : SR N n v ts c st) (t : Tok) (hl : ts.length < 64) (lo : Nat) (hlo : N ≤ lo) (hlo2 : lo ≤ st.next + 1) :
    ∃ v' st', appendA { heap := (st.next, .cells (some 37) [.int .i64 t.k, .str t.t, .int .i64 t.n, .int .i64 t.p]) :: st.heap, next := st.next + 1, low := lo } 37 4 40 v (.slice [.int .i64 t.k, .str t.t, .int .i64 t.n, .int .i64 t.p] 1 .full) = some (v', st') ∧
      Fw.look (N + 2) st'.heap = some (rctC n v false c) ∧ SR N n v' (ts ++ [t]) c { heap := put (N + 2) (rctC n v' false c) st'.heap, next := st'.next, low := min st'.low (N + 2) } := by
  have hnx := h.nx
  have hk1 : Keeps (fun i => i < st.next) st { heap := (st.next, .cells (some 37) [.int .i64 t.k, .str t.t, .int .i64 t.n, .int .i64 t.p]) :: st.heap, next := st.next + 1, low := lo } := by
    refine ⟨by simp, fun i hi _ => ?_⟩
    simp only [Fw.look]
    rw [if_neg (by omega)]
  have g1 := h.gr.keep (st' := { heap := (st.next, .cells (some 37) [.int .i64 t.k, .str t.t, .int .i64 t.n, .int .i64 t.p]) :: st.heap, next := st.next + 1, low := lo }) ⟨hk1.1, fun i hi _ => hk1.2 i hi hi⟩
  obtain ⟨v', st', ap, G', hk, tk', lw', _, _⟩ := g1.app (bytes := 40) (y := .slice [.int .i64 t.k, .str t.t, .int .i64 t.n, .int .i64 t.p] 1 .full) (new := encT t) (m := 1) (oneT _ t) rfl rfl rfl (Nat.le_trans (show (ts.length + 1) * 40 ≤ 2600 by omega) (by decide))
  have hs : (encT t).map AV.strip = encT t := rfl
  rw [hs, show encTs ts ++ encT t = encTs (ts ++ [t]) by rw [encTs_append]; simp [encTs]] at G'
  have hlen : (ts ++ [t]).length = ts.length + 1 := by simp
  have old : ∀ i, i < N + 3 → Fw.look i st'.heap = Fw.look i st.heap := by
    intro i hi
    rw [hk.2 i (by simp only; omega) (fun e => by have := h.tk i e; omega)]
    exact hk1.2 i (by omega) (by omega)
  have hnx' : st.next + 1 ≤ st'.next := hk.1
  refine ⟨v', st', ap, by rw [old _ (by omega)]; exact h.ld, ?_⟩
  have tk2 : ∀ u, tokOf v' = some u → N + 2 < u := by
    intro u hu
    rcases tk' u hu with h1 | h1
    · exact h.tk u h1
    · simp only at h1; omega
  have hld : Fw.look (N + 2) st'.heap = some (rctC n v false c) := by rw [old _ (by omega)]; exact h.ld
  have shp : ∃ u, tokOf v' = some u := by
    have hG : G2 37 4 37 4 0 { heap := (st.next, .cells (some 37) [.int .i64 t.k, .str t.t, .int .i64 t.n, .int .i64 t.p]) :: st.heap, next := st.next + 1, low := lo } v .nilslice (encTs ts) ts.length [] 0 :=
      ⟨g1, Gr.nil, fun t _ h => (by cases h), fun t h => Nat.zero_le _, fun t h => (by cases h), Nat.zero_le _, hlo2⟩
    obtain ⟨v2, st2, ap2, _, _, _, _, tk3, _⟩ := hG.app1 (bytes := 40) (y := .slice [.int .i64 t.k, .str t.t, .int .i64 t.n, .int .i64 t.p] 1 .full) (new := encT t) (k := 1) (oneT _ t) rfl rfl rfl (Nat.le_trans (show (ts.length + 1) * 40 ≤ 2600 by omega) (by decide))
    rw [ap] at ap2
    obtain ⟨u, hu⟩ := tk3 (by decide)
    cases ap2
    exact ⟨u, hu⟩
  refine ⟨?_, ?_, ?_, look_put_self hld, tk2, (by rw [if_neg (by simp)]; exact shp), ?_, ?_⟩
  · rw [hlen]
    refine G'.keep ⟨Nat.le_refl _, fun i hi hp => ?_⟩
    exact look_put_ne (fun e => by have := tk2 i hp; omega)
  · simp only; rw [look_put_ne (by omega), old _ (by omega)]; exact h.la
  · simp only; rw [look_put_ne (by omega), old _ (by omega)]; exact h.lb
  · have := lw' N hlo (fun u hu => by have := h.tk u hu; omega)
    simp only; omega
  · simp only; omega
/-- A comment. -/
theorem SR.com {N : Nat} {n : Int} {v : AV} {ts : List Tok} {c : List UInt8} {st : St} (h : SR N n v ts c st) (x : List UInt8) :
    SR N n v ts x { heap := put (N + 2) (rctC n v false x) st.heap, next := st.next, low := min st.low (N + 2) } := by
  refine ⟨?_, ?_, ?_, look_put_self h.ld, h.tk, h.sh, ?_, h.nx⟩
  · refine h.gr.keep ⟨Nat.le_refl _, fun i hi hp => ?_⟩
    exact look_put_ne (fun e => by have := h.tk i hp; omega)
  · simp only; rw [look_put_ne (by omega)]; exact h.la
  · simp only; rw [look_put_ne (by omega)]; exact h.lb
  · have := h.lw; simp only; omega
theorem SR.flt {N : Nat} {n : Int} {v : AV} {ts : List Tok} {c : List UInt8} {st : St} (h : SR N n v ts c st) (x : AObj) (hx : x = rctC 0 .nilslice false []) (er k : Int) :
    Fw.look (N) (put (N + 1) (fltC er k) (put (N) x st.heap)) = some (rctC 0 .nilslice false []) ∧ Fw.look (N + 1) (put (N + 1) (fltC er k) (put (N) x st.heap)) = some (fltC er k) ∧ N ≤ min (min st.low (N)) (N + 1) := by
  subst hx
  have := h.lw
  refine ⟨?_, ?_, by omega⟩
  · rw [look_put_ne (by omega)]; exact look_put_self h.la
  · exact look_put_self (by rw [look_put_ne (by omega)]; exact h.lb)
theorem c27 (er k : Int) (s : St) (K : AV → St → Prop) : CallW cx 27 [.int .i64 er, .int .i64 k] s K = K (.tuple [.agg [.int .i64 0, .nilslice, .bool false, .str []], .agg [.int .i64 er, .int .i64 0, .int .i64 k]]) s := by
  refine CallW.eq (CallW.fn' (fn := ir27) rfl rfl (by kernel_rfl) ir27.eq_1 ?_) K
  simp (config := {contextual := true, implicitDefEqProofs := false, maxSteps := 4000000}) only [go_sem, ↓reduceIte, Bool.false_eq_true, Nat.reduceEqDiff, Nat.reduceAdd, Int.reduceLE, Int.reduceLT, Int.reduceEq, Int.reduceToNat, Int.toNat_natCast, Int.cast_ofNat_Int, Int.natCast_one, Nat.reduceMod, Nat.reduceDiv, UInt8.reduceToNat, Nat.reduceLT]
theorem l8a (a : List UInt8) (hl : a.length ≤ 1000) (x2 x3 x4 : AV) (st : St) (Q : Sig → FE → St → Prop) : ∀ (n i : Nat) (e : FE), i + n = a.length → e 0 = .str a → e 2 = x2 → e 3 = x3 → e 4 = x4 → e 5 = .int .i64 (i : Int) →
    (∀ e', e' 0 = .str a → e' 2 = x2 → e' 3 = x3 → e' 4 = x4 → e' 5 = .int .i64 ((blk a i : Nat) : Int) → Q (.exit 0) e' st) → WLoop cx ir8L0 e st Q
  | 0, i, e, hi, h0, h2, h3, h4, h5, hQ => by
    refine WLoop.rnd (c := _) ir8L0.eq_1 ?_
    have hd : decide ((i : Int) < (a.length : Int)) = false := decide_eq_false (by omega)
    have hb : blk a i = i := by unfold blk runB; rw [show a.length - i = 0 by omega]; rfl
    rw [hb] at hQ
    simp (config := {contextual := true, implicitDefEqProofs := false, maxSteps := 4000000}) only [go_sem, ↓reduceIte, Bool.false_eq_true, Nat.reduceEqDiff, Nat.reduceAdd, Int.reduceLE, Int.reduceLT, Int.reduceEq, Int.reduceToNat, Int.toNat_natCast, Int.cast_ofNat_Int, Int.natCast_one, Nat.reduceMod, Nat.reduceDiv, UInt8.reduceToNat, Nat.reduceLT, h0, h5, hd]
    exact hQ _ h0 h2 h3 h4 h5
  | n + 1, i, e, hi, h0, h2, h3, h4, h5, hQ => by
    refine WLoop.rnd (c := _) ir8L0.eq_1 ?_
    have hd : decide ((i : Int) < (a.length : Int)) = true := decide_eq_true (by omega)
    have hw := wrap_one (i := i) (by omega)
    have b1 : (0 : Int) ≤ (i : Int) := by omega
    have b2 : (i : Int) < (a.length : Int) := by omega
    have hb : blk a i = if a.getD i 0 = 32 then blk a (i + 1) else i := by
      unfold blk runB
      rw [show a.length - i = (a.length - (i + 1)) + 1 by omega]
      simp only [runI, decide_eq_true_eq]
    obtain ⟨b, hbb⟩ : ∃ b, a.getD i 0 = b := ⟨_, rfl⟩
    rw [hbb] at hb
    have f1 : decide (((b.toNat : Nat) : Int) = 32) = decide (b = 32) := is_byte 32 b
    by_cases h32 : b = 32
    · rw [decide_eq_true h32] at f1
      rw [if_pos h32] at hb
      rw [hb] at hQ
      simp (config := {contextual := true, implicitDefEqProofs := false, maxSteps := 4000000}) only [go_sem, ↓reduceIte, Bool.false_eq_true, Nat.reduceEqDiff, Nat.reduceAdd, Int.reduceLE, Int.reduceLT, Int.reduceEq, Int.reduceToNat, Int.toNat_natCast, Int.cast_ofNat_Int, Int.natCast_one, Nat.reduceMod, Nat.reduceDiv, UInt8.reduceToNat, Nat.reduceLT, h0, h5, hd, b1, b2, hbb, f1, hw]
      exact l8a a hl x2 x3 x4 st Q n (i + 1) _ (by omega) h0 h2 h3 h4 rfl hQ
    · rw [decide_eq_false h32] at f1
      rw [if_neg h32] at hb
      rw [hb] at hQ
      simp (config := {contextual := true, implicitDefEqProofs := false, maxSteps := 4000000}) only [go_sem, ↓reduceIte, Bool.false_eq_true, Nat.reduceEqDiff, Nat.reduceAdd, Int.reduceLE, Int.reduceLT, Int.reduceEq, Int.reduceToNat, Int.toNat_natCast, Int.cast_ofNat_Int, Int.natCast_one, Nat.reduceMod, Nat.reduceDiv, UInt8.reduceToNat, Nat.reduceLT, h0, h5, hd, b1, b2, hbb, f1]
      exact hQ _ h0 h2 h3 h4 h5
theorem blk_step (a : List UInt8) (i : Nat) (hi : i < a.length) : blk a i = if a.getD i 0 = 32 then blk a (i + 1) else i := by
  unfold blk runB
  rw [show a.length - i = (a.length - (i + 1)) + 1 by omega]
  simp only [runI, decide_eq_true_eq]
theorem blk_all (a : List UInt8) (i : Nat) (hi : a.length ≤ i) : blk a i = i := by unfold blk runB; rw [show a.length - i = 0 by omega]; rfl
theorem l8b (a : List UInt8) (hl : a.length ≤ 1000) (N : Nat) (m : Int) (Q : Sig → FE → St → Prop) : ∀ (k n i : Nat) (e : FE) (st : St) (v : AV) (ts : List Tok), a.length - i < k → a.length - i < n → i ≤ a.length → ts.length ≤ 64 → SR N m v ts [] st →
    e 0 = .str a → e 2 = .ptr N 0 → e 3 = .ptr (N + 1) 0 → e 4 = .ptr (N + 2) 0 → e 5 = .int .i64 (i : Int) →
    (∀ us c, scanL a n (blk a i) ts = .inl (us, c) → ∀ e' st' v', us.length ≤ 64 → SR N m v' us c st' → e' 2 = .ptr N 0 → e' 3 = .ptr (N + 1) 0 → e' 4 = .ptr (N + 2) 0 → Q (.exit 2) e' st') →
    (∀ er j, scanL a n (blk a i) ts = .inr (er, j) → ∀ e' st', e' 2 = .ptr N 0 → e' 3 = .ptr (N + 1) 0 → Fw.look N st'.heap = some (rctC 0 .nilslice false []) → Fw.look (N + 1) st'.heap = some (fltC er ((j + 1 : Nat) : Int)) → N ≤ st'.low → Q .ret e' st') → WLoop cx ir8L1 e st Q
  | 0, n, i, e, st, v, ts, hk, _, _, _, _, _, _, _, _, _, _, _ => by omega
  | k + 1, n, i, e, st, v, ts, hk, hn, hi, h64, hS, h0, h2, h3, h4, h5, hA, hB => by
    refine WLoop.rnd (c := _) ir8L1.eq_1 ?_
    have la := hS.la
    have lb := hS.lb
    have ld := hS.ld
    obtain ⟨n', hn'⟩ : ∃ n', n = n' + 1 := ⟨n - 1, by omega⟩
    by_cases hd : a.length ≤ i
    · have d1 : decide ((i : Int) < (a.length : Int)) = false := decide_eq_false (by omega)
      rw [blk_all a i hd, hn'] at hA
      simp only [scanL] at hA
      rw [if_pos hd] at hA
      simp (config := {contextual := true, implicitDefEqProofs := false, maxSteps := 4000000}) only [go_sem, ↓reduceIte, Bool.false_eq_true, Nat.reduceEqDiff, Nat.reduceAdd, Int.reduceLE, Int.reduceLT, Int.reduceEq, Int.reduceToNat, Int.toNat_natCast, Int.cast_ofNat_Int, Int.natCast_one, Nat.reduceMod, Nat.reduceDiv, UInt8.reduceToNat, Nat.reduceLT, h0, h5, d1]
      exact hA ts [] rfl _ _ v h64 hS h2 h3 h4
    have d1 : decide ((i : Int) < (a.length : Int)) = true := decide_eq_true (by omega)
    have b1 : (0 : Int) ≤ (i : Int) := by omega
    have b2 : (i : Int) < (a.length : Int) := by omega
    have w1 := wrap_one (i := i) (by omega)
    have hbs := blk_step a i (by omega)
    obtain ⟨b, hb⟩ : ∃ b, a.getD i 0 = b := ⟨_, rfl⟩
    rw [hb] at hbs
    have f0 : decide (((b.toNat : Nat) : Int) = 32) = decide (b = 32) := is_byte 32 b
    have f1 : decide (((b.toNat : Nat) : Int) = 35) = decide (b = 35) := is_byte 35 b
    by_cases h32 : b = 32
    · rw [decide_eq_true h32] at f0
      rw [if_pos h32] at hbs
      rw [hbs] at hA hB
      simp (config := {contextual := true, implicitDefEqProofs := false, maxSteps := 4000000}) only [go_sem, ↓reduceIte, Bool.false_eq_true, Nat.reduceEqDiff, Nat.reduceAdd, Int.reduceLE, Int.reduceLT, Int.reduceEq, Int.reduceToNat, Int.toNat_natCast, Int.cast_ofNat_Int, Int.natCast_one, Nat.reduceMod, Nat.reduceDiv, UInt8.reduceToNat, Nat.reduceLT, h0, h5, d1, b1, b2, hb, f0, w1]
      exact l8b a hl N m Q k n (i + 1) _ st v ts (by omega) (by omega) (by omega) h64 hS h0 h2 h3 h4 rfl hA hB
    rw [decide_eq_false h32] at f0
    rw [if_neg h32] at hbs
    rw [hbs, hn'] at hA hB
    simp only [scanL] at hA hB
    rw [if_neg hd, hb] at hA hB
    by_cases hc : b = 35
    · rw [decide_eq_true hc] at f1
      rw [if_pos hc] at hA
      have g1 : (0 : Int) ≤ ((i + 1 : Nat) : Int) ∧ ((i + 1 : Nat) : Int) ≤ (a.length : Int) := by omega
      simp (config := {contextual := true, implicitDefEqProofs := false, maxSteps := 4000000}) only [go_sem, ↓reduceIte, Bool.false_eq_true, Nat.reduceEqDiff, Nat.reduceAdd, Int.reduceLE, Int.reduceLT, Int.reduceEq, Int.reduceToNat, Int.toNat_natCast, Int.cast_ofNat_Int, Int.natCast_one, Nat.reduceMod, Nat.reduceDiv, UInt8.reduceToNat, Nat.reduceLT, h0, h4, h5, d1, b1, b2, hb, f0, f1, w1, g1, ld]
      exact hA ts _ rfl _ _ v h64 (hS.com _) h2 h3 h4
    rw [decide_eq_false hc] at f1
    rw [if_neg hc] at hA hB
    have hv := hS.gr.lenv
    have nab : ¬ N = N + 1 := by omega
    have nba : ¬ N + 1 = N := by omega
    have kf := fun (er k : Int) st K => c27 er k st K
    by_cases h6t : ts.length = 64
    · rw [if_pos h6t] at hB
      have d2 : decide ((64 : Int) ≤ (ts.length : Int)) = true := decide_eq_true (by omega)
      obtain ⟨q1, q2, q3⟩ := hS.flt _ rfl 7 ((i + 1 : Nat) : Int)
      simp (config := {contextual := true, implicitDefEqProofs := false, maxSteps := 4000000}) only [go_sem, ↓reduceIte, Bool.false_eq_true, Nat.reduceEqDiff, Nat.reduceAdd, Int.reduceLE, Int.reduceLT, Int.reduceEq, Int.reduceToNat, Int.toNat_natCast, Int.cast_ofNat_Int, Int.natCast_one, Nat.reduceMod, Nat.reduceDiv, UInt8.reduceToNat, Nat.reduceLT, h0, h2, h3, h4, h5, d1, b1, b2, hb, f0, f1, ld, hv, d2, kf, w1, la, lb, look_put_ne nab, look_put_ne nba]
      exact hB 7 i rfl _ _ h2 h3 q1 q2 q3
    rw [if_neg h6t] at hA hB
    have d2 : decide ((64 : Int) ≤ (ts.length : Int)) = false := decide_eq_false (by omega)
    have kx := fun st K => c28 a (by omega) i (by omega) st K
    have hend := nextB_end a i (by omega)
    generalize nextB a i = x at *
    obtain ⟨⟨x1, x2, x3, x4⟩, x5, x6⟩ := x
    simp only [nxo] at kx hA hB hend
    have hlt := hS.nx
    have n0 : ¬ st.next = N := by omega
    have n1 : ¬ st.next = N + 1 := by omega
    have n2 : ¬ st.next = N + 2 := by omega
    by_cases her : x6 = 0
    case neg =>
      have d3 : decide (x6 ≠ 0) = true := decide_eq_true her
      rw [if_pos her] at hB
      obtain ⟨q1, q2, q3⟩ := hS.flt _ rfl x6 ((i + 1 : Nat) : Int)
      simp (config := {contextual := true, implicitDefEqProofs := false, maxSteps := 4000000}) only [go_sem, ↓reduceIte, Bool.false_eq_true, Nat.reduceEqDiff, Nat.reduceAdd, Int.reduceLE, Int.reduceLT, Int.reduceEq, Int.reduceToNat, Int.toNat_natCast, Int.cast_ofNat_Int, Int.natCast_one, Nat.reduceMod, Nat.reduceDiv, UInt8.reduceToNat, Nat.reduceLT, h0, h2, h3, h4, h5, d1, b1, b2, hb, f0, f1, ld, hv, d2, kx, d3, n0, n1, n2, kf, w1, la, lb, look_put_ne nab, look_put_ne nba]
      refine hB x6 i rfl _ _ h2 h3 ?_ ?_ (by have := hS.lw; simp only; omega)
      · simp only [Fw.look]; rw [if_neg n0]; exact q1
      · simp only [Fw.look]; rw [if_neg n1]; exact q2
    subst her
    rw [if_neg (by decide)] at hA hB
    obtain ⟨he1, he2⟩ := hend rfl
    have d3 : decide ((0 : Int) ≠ 0) = false := rfl
    obtain ⟨v', st', ap, ld', hS'⟩ := hS.app ⟨x1, x2, x3, ((i + 1 : Nat) : Int)⟩ (by omega) (min (min st.low st.next) st.next) (by have := hS.lw; omega) (by omega)
    simp only at ap
    obtain ⟨c1, c2⟩ := gr_cells hS'.gr
    simp (config := {contextual := true, implicitDefEqProofs := false, maxSteps := 4000000}) only [go_sem, ↓reduceIte, Bool.false_eq_true, Nat.reduceEqDiff, Nat.reduceAdd, Int.reduceLE, Int.reduceLT, Int.reduceEq, Int.reduceToNat, Int.toNat_natCast, Int.cast_ofNat_Int, Int.natCast_one, Nat.reduceMod, Nat.reduceDiv, UInt8.reduceToNat, Nat.reduceLT, h0, h2, h3, h4, h5, d1, b1, b2, hb, f0, f1, ld, hv, d2, kx, d3, n0, n1, n2, w1, ap, ld', c1, c2]
    exact l8b a hl N m Q k n' x5 _ _ v' (ts ++ [⟨x1, x2, x3, ((i + 1 : Nat) : Int)⟩]) (by omega) (by omega) he2 (by simp; omega) hS' h0 h2 h3 h4 rfl hA hB
end T17

/- The reference's scan of a line. -/
namespace T17
open Go Fw Go.Proofs
set_option maxRecDepth 100000
set_option maxHeartbeats 4000000
set_option linter.unusedSimpArgs false
set_option linter.unusedVariables false
def irS : ICode := (.seq (.block 2 (.loop ir8L1)) (.seq (.seq (.region [⟨(some 111), (.faddr 1 (.tmp 4)), none⟩, ⟨(some 112), (.load false 1 (.tmp 111)), none⟩, ⟨(some 113), (.lenv (.tmp 112)), none⟩, ⟨(some 9), (.mov (.tmp 113)), none⟩]) (.seq (.region [⟨(some 114), (.mov (.tmp 9)), none⟩, ⟨(some 115), (.bin .gtr (.tmp 114) (.const (.int .i64 0))), none⟩, ⟨(some 116), (.mov (.tmp 115)), none⟩, ⟨(some 117), (.faddr 1 (.tmp 4)), (some (116, true))⟩, ⟨(some 118), (.load false 1 (.tmp 117)), (some (116, true))⟩, ⟨(some 119), (.mov (.tmp 9)), (some (116, true))⟩, ⟨(some 120), (.bin .sub (.tmp 119) (.const (.int .i64 1))), (some (116, true))⟩, ⟨(some 121), (.iaddr 4 none (.tmp 118) (.tmp 120)), (some (116, true))⟩, ⟨(some 122), (.faddr 0 (.tmp 121)), (some (116, true))⟩, ⟨(some 123), (.load false 1 (.tmp 122)), (some (116, true))⟩, ⟨(some 124), (.bin .eql (.tmp 123) (.const (.int .i64 6))), (some (116, true))⟩, ⟨(some 125), (.pick (.tmp 116) (.tmp 124) (.const (.bool false))), none⟩, ⟨(some 126), (.mov (.tmp 125)), none⟩, ⟨(some 127), (.faddr 1 (.tmp 4)), (some (126, true))⟩, ⟨(some 128), (.load false 1 (.tmp 127)), (some (126, true))⟩, ⟨(some 129), (.mov (.tmp 9)), (some (126, true))⟩, ⟨(some 130), (.bin .sub (.tmp 129) (.const (.int .i64 1))), (some (126, true))⟩, ⟨(some 131), (.iaddr 4 none (.tmp 128) (.tmp 130)), (some (126, true))⟩, ⟨(some 132), (.faddr 1 (.tmp 131)), (some (126, true))⟩, ⟨(some 133), (.load false 1 (.tmp 132)), (some (126, true))⟩, ⟨(some 134), (.bin .eql (.tmp 133) (.const (.str [58]))), (some (126, true))⟩, ⟨(some 135), (.pick (.tmp 126) (.tmp 134) (.const (.bool false))), none⟩]) (.cond (.tmp 135) (.seq (.seq (.region [⟨(some 136), (.mov (.tmp 9)), none⟩, ⟨(some 137), (.bin .eql (.tmp 136) (.const (.int .i64 1))), none⟩]) (.cond (.tmp 137) (.seq (.region [⟨(some 138), (.faddr 1 (.tmp 4)), none⟩, ⟨(some 139), (.load false 1 (.tmp 138)), none⟩, ⟨(some 140), (.iaddr 4 none (.tmp 139) (.const (.int .i64 0))), none⟩, ⟨(some 141), (.faddr 3 (.tmp 140)), none⟩, ⟨(some 142), (.load false 1 (.tmp 141)), none⟩, ⟨(some 143), (.call (.const (.func 27 [] [])) [(.const (.int .i64 2)), (.tmp 142)]), none⟩, ⟨(some 144), (.extr (.tmp 143) 0), none⟩, ⟨(some 145), (.extr (.tmp 143) 1), none⟩, ⟨none, (.store 4 (.tmp 2) (.tmp 144)), none⟩, ⟨none, (.store 3 (.tmp 3) (.tmp 145)), none⟩]) .ret) .skip)) (.seq (.region [⟨(some 146), (.faddr 2 (.tmp 4)), none⟩, ⟨none, (.store 1 (.tmp 146) (.const (.bool true))), none⟩]) (.region [⟨(some 147), (.faddr 1 (.tmp 4)), none⟩, ⟨(some 148), (.load false 1 (.tmp 147)), none⟩, ⟨(some 149), (.mov (.tmp 9)), none⟩, ⟨(some 150), (.bin .sub (.tmp 149) (.const (.int .i64 1))), none⟩, ⟨(some 151), (.slc 4 (.tmp 148) none (some (.tmp 150)) none), none⟩, ⟨(some 152), (.faddr 1 (.tmp 4)), none⟩, ⟨none, (.store 1 (.tmp 152) (.tmp 151)), none⟩]))) .skip))) (.seq (.region [⟨(some 153), (.load true 4 (.tmp 4)), none⟩, ⟨(some 154), (.build [(.int .i64 0), (.int .i64 0), (.int .i64 0)] []), none⟩, ⟨none, (.store 4 (.tmp 2) (.tmp 153)), none⟩, ⟨none, (.store 3 (.tmp 3) (.tmp 154)), none⟩]) .ret)))
theorem W_irS {cx : Cx} {e : FE} {s : St} (Q : Sig → FE → St → Prop) : W cx irS e s Q = @WTail cx irS e s ⟨Q⟩ := rfl
theorem irScan_eq : ir8 = ⟨155, [(.cell 2 true 4), (.cell 3 true 3)], (.seq (.region [⟨(some 2), (.alloc 31 [(.int .i64 0), .nilslice, (.bool false), (.str [])]), none⟩, ⟨(some 3), (.alloc 28 [(.int .i64 0), (.int .i64 0), (.int .i64 0)]), none⟩]) (.seq (.seq (.region [⟨(some 10), (.mov (.tmp 0)), none⟩, ⟨(some 11), (.lens (.tmp 10)), none⟩, ⟨(some 12), (.bin .gtr (.tmp 11) (.const (.int .i64 1000))), none⟩]) (.cond (.tmp 12) (.seq (.region [⟨(some 13), (.call (.const (.func 27 [] [])) [(.const (.int .i64 7)), (.const (.int .i64 1001))]), none⟩, ⟨(some 14), (.extr (.tmp 13) 0), none⟩, ⟨(some 15), (.extr (.tmp 13) 1), none⟩, ⟨none, (.store 4 (.tmp 2) (.tmp 14)), none⟩, ⟨none, (.store 3 (.tmp 3) (.tmp 15)), none⟩]) .ret) .skip)) (.seq (.region [⟨(some 16), (.bslice [] 0 []), none⟩, ⟨(some 17), (.build [(.int .i64 0), .nilslice, (.bool false), (.str [])] [(1, (1, (.tmp 16)))]), none⟩, ⟨(some 4), (.alloc 31 [(.int .i64 0), .nilslice, (.bool false), (.str [])]), none⟩, ⟨none, (.store 4 (.tmp 4) (.tmp 17)), none⟩]) (.seq (.region [⟨(some 5), (.mov (.const (.int .i64 0))), none⟩]) (.seq (.block 0 (.loop ir8L0)) (.seq (.seq (.region [⟨(some 30), (.mov (.tmp 5)), none⟩, ⟨(some 31), (.mov (.tmp 0)), none⟩, ⟨(some 32), (.lens (.tmp 31)), none⟩, ⟨(some 33), (.bin .lss (.tmp 30) (.tmp 32)), none⟩, ⟨(some 34), (.mov (.tmp 33)), none⟩, ⟨(some 35), (.mov (.tmp 0)), (some (34, true))⟩, ⟨(some 36), (.mov (.tmp 5)), (some (34, true))⟩, ⟨(some 37), (.idx 1 false none (.tmp 35) (.tmp 36)), (some (34, true))⟩, ⟨(some 38), (.bin .neq (.tmp 37) (.const (.int .u8 35))), (some (34, true))⟩, ⟨(some 39), (.pick (.tmp 34) (.tmp 38) (.const (.bool false))), none⟩]) (.cond (.tmp 39) (.seq (.seq (.region [⟨(some 40), (.mov (.tmp 5)), none⟩, ⟨(some 41), (.bin .rem (.tmp 40) (.const (.int .i64 2))), none⟩, ⟨(some 42), (.bin .eql (.tmp 41) (.const (.int .i64 1))), none⟩]) (.cond (.tmp 42) (.seq (.region [⟨(some 43), (.mov (.tmp 5)), none⟩, ⟨(some 44), (.bin .add (.tmp 43) (.const (.int .i64 1))), none⟩, ⟨(some 45), (.call (.const (.func 27 [] [])) [(.const (.int .i64 2)), (.tmp 44)]), none⟩, ⟨(some 46), (.extr (.tmp 45) 0), none⟩, ⟨(some 47), (.extr (.tmp 45) 1), none⟩, ⟨none, (.store 4 (.tmp 2) (.tmp 46)), none⟩, ⟨none, (.store 3 (.tmp 3) (.tmp 47)), none⟩]) .ret) .skip)) (.seq (.seq (.region [⟨(some 48), (.mov (.tmp 5)), none⟩, ⟨(some 49), (.bin .gtr (.tmp 48) (.const (.int .i64 12))), none⟩]) (.cond (.tmp 49) (.seq (.region [⟨(some 50), (.mov (.tmp 5)), none⟩, ⟨(some 51), (.bin .add (.tmp 50) (.const (.int .i64 1))), none⟩, ⟨(some 52), (.call (.const (.func 27 [] [])) [(.const (.int .i64 7)), (.tmp 51)]), none⟩, ⟨(some 53), (.extr (.tmp 52) 0), none⟩, ⟨(some 54), (.extr (.tmp 52) 1), none⟩, ⟨none, (.store 4 (.tmp 2) (.tmp 53)), none⟩, ⟨none, (.store 3 (.tmp 3) (.tmp 54)), none⟩]) .ret) .skip)) (.region [⟨(some 55), (.mov (.tmp 5)), none⟩, ⟨(some 56), (.bin .quo (.tmp 55) (.const (.int .i64 2))), none⟩, ⟨(some 57), (.faddr 0 (.tmp 4)), none⟩, ⟨none, (.store 1 (.tmp 57) (.tmp 56)), none⟩]))) .skip)) irS))))))⟩ := rfl
theorem scanL_er (a : List UInt8) : ∀ (k i : Nat) (ts : List Tok) (er : Int) (j : Nat), scanL a k i ts = .inr (er, j) → er ≠ 0
  | 0, i, ts, er, j, h => by simp [scanL] at h
  | k + 1, i, ts, er, j, h => by
    simp only [scanL] at h
    split at h
    · cases h
    split at h
    · cases h
    split at h
    · cases h; decide
    split at h
    · rename_i h2
      cases h
      exact h2
    · exact scanL_er a k _ _ er j h
/-- The tokens that the reference hands back. -/
def rsl (ts : List Tok) : AV := .slice (encTs ts) ts.length (if ts = [] then .full else .no)
def resB (a : List UInt8) (n : Int) (i : Nat) : Sc × Int × Int := match scanL a (a.length + 1) (blk a i) [] with
  | .inr (er, j) => (noS, er, ((j + 1 : Nat) : Int))
  | .inl (us, c) => endB n us c
theorem gr_dr2 {N : Nat} {n : Int} {c : List UInt8} {v : AV} {ts : List Tok} {st : St} (h : SR N n v ts c st) : v.dr = rsl ts ∧ v.free0 N = true := by
  refine ⟨?_, h.gr.free0 (fun t ht => by have := h.tk t ht; omega) (encTs_al ts)⟩
  have hsh := h.sh
  unfold rsl
  by_cases h0 : ts = []
  · rw [if_pos h0] at hsh
    rw [hsh, h0]; rfl
  · rw [if_neg h0] at hsh
    obtain ⟨t, ht⟩ := hsh
    rw [tok_shape h.gr ht, if_neg h0]
    rfl
theorem scanTail (a : List UInt8) (hl : a.length ≤ 1000) (N : Nat) (n : Int) (st : St) (e : FE) (i : Nat) (hi : i ≤ a.length) (hS : SR N n (.slice [] 0 .full) [] [] st) (h0 : e 0 = .str a) (h2 : e 2 = .ptr N 0) (h3 : e 3 = .ptr (N + 1) 0) (h4 : e 4 = .ptr (N + 2) 0) (h5 : e 5 = .int .i64 (i : Int)) (Q : Sig → FE → St → Prop)
    (hA : ∀ (e' : FE) (st' : St) (x : Sc) (v : AV), resB a n i = (x, 0, 0) → e' 2 = .ptr N 0 → e' 3 = .ptr (N + 1) 0 → Fw.look N st'.heap = some (rctC x.ind v x.head x.com) → Fw.look (N + 1) st'.heap = some (fltC 0 0) → v.dr = rsl x.ts → v.free0 N = true → N ≤ st'.low → Q .ret e' st')
    (hB : ∀ (e' : FE) (st' : St) (er k : Int), resB a n i = (noS, er, k) → er ≠ 0 → e' 2 = .ptr N 0 → e' 3 = .ptr (N + 1) 0 → Fw.look N st'.heap = some (rctC 0 .nilslice false []) → Fw.look (N + 1) st'.heap = some (fltC er k) → N ≤ st'.low → Q .ret e' st') : W cx irS e st Q := by
  refine W_open irS.eq_1 ?_
  have nab : ¬ N = N + 1 := by omega
  have nba : ¬ N + 1 = N := by omega
  have nad : ¬ N = N + 2 := by omega
  have nbd : ¬ N + 1 = N + 2 := by omega
  simp (config := {contextual := true, implicitDefEqProofs := false, maxSteps := 4000000}) only [go_sem, ↓reduceIte, Bool.false_eq_true, Nat.reduceEqDiff, Nat.reduceAdd, Int.reduceLE, Int.reduceLT, Int.reduceEq, Int.reduceToNat, Int.toNat_natCast, Int.cast_ofNat_Int, Int.natCast_one, Nat.reduceMod, Nat.reduceDiv, UInt8.reduceToNat, Nat.reduceLT]
  refine l8b a hl N n _ (a.length + 1) (a.length + 1) i _ _ (.slice [] 0 .full) [] (by omega) (by omega) hi (by simp) hS h0 h2 h3 h4 h5 ?_ ?_
  · intro us c hus e1 st' v' h64 hS e2 e3 e4
    have la := hS.la
    have lb := hS.lb
    have ld := hS.ld
    have hv := hS.gr.lenv
    have hlw := hS.lw
    obtain ⟨c1, c2⟩ := gr_cells hS.gr
    obtain ⟨dr, fr⟩ := gr_dr2 hS
    have hR : resB a n i = endB n us c := by unfold resB; rw [hus]
    have ldp : ∀ x, Fw.look (N + 2) (put (N + 2) x st'.heap) = some x := fun x => look_put_self ld
    have ldq : ∀ x y, Fw.look (N + 2) (put (N + 2) y (put (N + 2) x st'.heap)) = some y := fun x y => look_put_self (look_put_self ld)
    have lpa : ∀ x, Fw.look N (put N x st'.heap) = some x := fun x => look_put_self la
    have lpb : ∀ x y, Fw.look (N + 1) (put (N + 1) y (put N x st'.heap)) = some y := fun x y => look_put_self (by rw [look_put_ne nba]; exact lb)
    have lpc : ∀ x y, Fw.look N (put (N + 1) y (put N x st'.heap)) = some x := fun x y => by rw [look_put_ne nab]; exact look_put_self la
    have lqa : ∀ z z' x, Fw.look N (put N x (put (N + 2) z (put (N + 2) z' st'.heap))) = some x := fun z z' x => look_put_self (by rw [look_put_ne nad, look_put_ne nad]; exact la)
    have lqb : ∀ z z' x y, Fw.look (N + 1) (put (N + 1) y (put N x (put (N + 2) z (put (N + 2) z' st'.heap)))) = some y := fun z z' x y => look_put_self (by rw [look_put_ne nba, look_put_ne nbd, look_put_ne nbd]; exact lb)
    have lqc : ∀ z z' x y, Fw.look N (put (N + 1) y (put N x (put (N + 2) z (put (N + 2) z' st'.heap)))) = some x := fun z z' x y => by rw [look_put_ne nab]; exact look_put_self (by rw [look_put_ne nad, look_put_ne nad]; exact la)
    have m1 : N ≤ min (min st'.low N) (N + 1) := by omega
    have m2 : N ≤ min (min (min (min st'.low (N + 2)) (N + 2)) N) (N + 1) := by omega
    by_cases h0 : us = []
    · have hn : v' = .slice [] 0 .full := by have := hS.sh; rw [if_pos h0] at this; exact this
      subst h0
      subst hn
      have hR2 : resB a n i = (⟨n, [], false, c⟩, 0, 0) := hR
      simp (config := {contextual := true, implicitDefEqProofs := false, maxSteps := 4000000}) only [go_sem, ↓reduceIte, Bool.false_eq_true, Nat.reduceEqDiff, Nat.reduceAdd, Int.reduceLE, Int.reduceLT, Int.reduceEq, Int.reduceToNat, Int.toNat_natCast, Int.cast_ofNat_Int, Int.natCast_one, Nat.reduceMod, Nat.reduceDiv, UInt8.reduceToNat, Nat.reduceLT, e2, e3, e4, la, lb, ld, look_put_ne nab, look_put_ne nba, lpa, lpb, Int.natCast_zero, show decide ((0 : Int) < 0) = false from rfl]
      exact hA _ _ ⟨n, [], false, c⟩ _ hR2 e2 e3 (lpc _ _) (lpb _ _) dr fr m1
    obtain ⟨l, t, hlt⟩ : ∃ l t, us = l ++ [t] := by
      rcases List.eq_nil_or_concat us with h | ⟨l, t, h⟩
      · exact absurd h h0
      · exact ⟨l, t, by simpa using h⟩
    obtain ⟨u, hu⟩ : ∃ u, tokOf v' = some u := by have := hS.sh; rw [if_neg h0] at this; exact this
    have hvs := tok_shape hS.gr hu
    have hlen : us.length = l.length + 1 := by rw [hlt]; simp
    have ga : us.getLastD noT = t := by rw [hlt]; simp
    have gb : us.dropLast = l := by rw [hlt]; simp
    rw [hlen] at hvs
    have s1 : sub (encTs us) (l.length * 4) 1 = some [.int .i64 t.k] := by
      subst hlt
      have := sub_tk (ts := l ++ [t]) (i := l.length) (by simp)
      simpa using this
    have s2 : sub (encTs us) (l.length * 4 + 1) 1 = some [.str t.t] := by
      subst hlt
      have := sub_tt (ts := l ++ [t]) (i := l.length) (by simp)
      simpa using this
    have hsl : sliceA 4 (.slice (encTs us) (l.length + 1) (.tok u (l.length + 1))) none (some (.int .i64 (l.length : Int))) none = some (.slice (encTs l) l.length .no) := by
      have hb : bounds (l.length + 1) none (some (.int .i64 (l.length : Int))) = some (0, l.length) := by
        simp only [bounds]
        rw [if_pos (by omega)]
        simp
      have h5 : (encTs us).take (l.length * 4) = encTs l := by
        rw [hlt, encTs_append, List.take_left' (encTs_length l)]
      simp only [sliceA]
      rw [if_pos (by rw [encTs_length, hlen]), hb]
      simp only [Option.bind_some, Nat.zero_mul, List.drop_zero, Nat.sub_zero, h5]
      rw [if_neg (by omega)]
    have h3t : l = [] → sub (encTs us) 3 1 = some [.int .i64 t.p] := by
      intro h
      subst h
      subst hlt
      rfl
    unfold endB at hR
    rw [ga, gb, hlen] at hR
    obtain ⟨cs, hcs⟩ : ∃ cs, encTs us = cs := ⟨_, rfl⟩
    rw [hcs] at hvs s1 s2 hsl h3t
    subst hvs
    have w0 : IntKind.i64.wrap (((l.length + 1 : Nat) : Int) - 1) = (l.length : Int) := by rw [wrap_i64 (by omega) (by omega)]; omega
    have x0 : decide ((0 : Int) < ((l.length + 1 : Nat) : Int)) = true := decide_eq_true (by omega)
    have x1 : (0 : Int) ≤ (l.length : Int) ∧ (l.length : Int) < ((l.length + 1 : Nat) : Int) := by omega
    by_cases hcol : isColon t = true
    case neg =>
      rw [if_neg (fun h => hcol h.2)] at hR
      unfold isColon at hcol
      cases hk : decide (t.k = 6) with
      | false =>
        simp (config := {contextual := true, implicitDefEqProofs := false, maxSteps := 4000000}) only [go_sem, ↓reduceIte, Bool.false_eq_true, Nat.reduceEqDiff, Nat.reduceAdd, Int.reduceLE, Int.reduceLT, Int.reduceEq, Int.reduceToNat, Int.toNat_natCast, Int.cast_ofNat_Int, Int.natCast_one, Nat.reduceMod, Nat.reduceDiv, UInt8.reduceToNat, Nat.reduceLT, e2, e3, e4, la, lb, ld, c1, c2, look_put_ne nab, look_put_ne nba, lpa, lpb, w0, x0, x1, s1, s2, hk]
        exact hA _ _ ⟨n, us, false, c⟩ _ hR e2 e3 (lpc _ _) (lpb _ _) dr fr m1
      | true =>
        have ht : decide (t.t = [58]) = false := by rw [hk] at hcol; simpa using hcol
        simp (config := {contextual := true, implicitDefEqProofs := false, maxSteps := 4000000}) only [go_sem, ↓reduceIte, Bool.false_eq_true, Nat.reduceEqDiff, Nat.reduceAdd, Int.reduceLE, Int.reduceLT, Int.reduceEq, Int.reduceToNat, Int.toNat_natCast, Int.cast_ofNat_Int, Int.natCast_one, Nat.reduceMod, Nat.reduceDiv, UInt8.reduceToNat, Nat.reduceLT, e2, e3, e4, la, lb, ld, c1, c2, look_put_ne nab, look_put_ne nba, lpa, lpb, w0, x0, x1, s1, s2, hk, ht]
        exact hA _ _ ⟨n, us, false, c⟩ _ hR e2 e3 (lpc _ _) (lpb _ _) dr fr m1
    unfold isColon at hcol
    have hk : decide (t.k = 6) = true := by simp only [Bool.and_eq_true] at hcol; exact hcol.1
    have ht : decide (t.t = [58]) = true := by simp only [Bool.and_eq_true] at hcol; exact hcol.2
    rw [if_pos ⟨h0, by unfold isColon; rw [hk, ht]; rfl⟩] at hR
    by_cases hl0 : l = []
    · have x2 : decide (((l.length + 1 : Nat) : Int) = 1) = true := by rw [hl0]; rfl
      have x4 : (0 : Int) < ((l.length + 1 : Nat) : Int) := by omega
      rw [if_pos (by rw [hl0]; rfl)] at hR
      have h3 := h3t hl0
      have kf := fun (er k : Int) st K => c27 er k st K
      simp (config := {contextual := true, implicitDefEqProofs := false, maxSteps := 4000000}) only [go_sem, ↓reduceIte, Bool.false_eq_true, Nat.reduceEqDiff, Nat.reduceAdd, Int.reduceLE, Int.reduceLT, Int.reduceEq, Int.reduceToNat, Int.toNat_natCast, Int.cast_ofNat_Int, Int.natCast_one, Nat.reduceMod, Nat.reduceDiv, UInt8.reduceToNat, Nat.reduceLT, e2, e3, e4, la, lb, ld, c1, c2, look_put_ne nab, look_put_ne nba, lpa, lpb, w0, x0, x1, s1, s2, hk, ht, x2, x4, Nat.zero_mul, Nat.zero_add, h3, kf]
      exact hB _ _ 2 t.p hR (by decide) e2 e3 (lpc _ _) (lpb _ _) m1
    · have x2 : decide (((l.length + 1 : Nat) : Int) = 1) = false := decide_eq_false (fun h => hl0 (List.eq_nil_of_length_eq_zero (by omega)))
      rw [if_neg (fun h => hl0 (List.eq_nil_of_length_eq_zero (by omega)))] at hR
      simp (config := {contextual := true, implicitDefEqProofs := false, maxSteps := 4000000}) only [go_sem, ↓reduceIte, Bool.false_eq_true, Nat.reduceEqDiff, Nat.reduceAdd, Int.reduceLE, Int.reduceLT, Int.reduceEq, Int.reduceToNat, Int.toNat_natCast, Int.cast_ofNat_Int, Int.natCast_one, Nat.reduceMod, Nat.reduceDiv, UInt8.reduceToNat, Nat.reduceLT, e2, e3, e4, la, lb, ld, c1, c2, look_put_ne nab, look_put_ne nba, look_put_ne nad, look_put_ne nbd, ldp, ldq, lqa, lqb, w0, x0, x1, s1, s2, hk, ht, x2, hsl]
      refine hA _ _ ⟨n, l, true, c⟩ _ hR e2 e3 (lqc _ _ _ _) (lqb _ _ _ _) ?_ ?_ m2
      · unfold rsl; rw [if_neg hl0]; rfl
      · simp [AV.free0, Own.free, encTs_al, AV.al]
  · intro er k hus e1 st' e2 e3 q1 q2 q3
    have hR : resB a n i = (noS, er, ((k + 1 : Nat) : Int)) := by unfold resB; rw [hus]
    exact hB _ _ er _ hR (scanL_er a _ _ _ _ _ hus) e2 e3 q1 q2 q3
/-- What the reference's scan answers. -/
abbrev scR (x : Sc × Int × Int) : AV := .tuple [.agg [.int .i64 x.1.ind, if x.2.1 = 0 then rsl x.1.ts else .nilslice, .bool x.1.head, .str x.1.com], .agg [.int .i64 x.2.1, .int .i64 0, .int .i64 x.2.2]]
theorem c8 (a : List UInt8) (s : St) (K : AV → St → Prop) : CallW cx 8 [.str a] s K = K (scR (scanB a)) s := by
  refine CallW.eq (CallW.fn' (fn := ir8) rfl rfl (by kernel_rfl) irScan_eq ?_) K
  have hsc : scanB a = if 1000 < a.length then (noS, 7, 1001) else if (firstI a).2 ≠ 0 then (noS, (firstI a).2, ((blk a 0 + 1 : Nat) : Int)) else resB a (firstI a).1 (blk a 0) := rfl
  rw [hsc]
  have kf := fun (er k : Int) st K => c27 er k st K
  by_cases h1 : 1000 < a.length
  · have d1 : decide ((1000 : Int) < (a.length : Int)) = true := decide_eq_true (by omega)
    rw [if_pos h1]
    simp (config := {contextual := true, implicitDefEqProofs := false, maxSteps := 4000000}) only [go_sem, ↓reduceIte, Bool.false_eq_true, Nat.reduceEqDiff, Nat.reduceAdd, Int.reduceLE, Int.reduceLT, Int.reduceEq, Int.reduceToNat, Int.toNat_natCast, Int.cast_ofNat_Int, Int.natCast_one, Nat.reduceMod, Nat.reduceDiv, UInt8.reduceToNat, Nat.reduceLT, d1, kf]
    rfl
  rw [if_neg h1]
  have d1 : decide ((1000 : Int) < (a.length : Int)) = false := decide_eq_false (by omega)
  have hSI : ∀ n : Int, SR s.next n (.slice [] 0 .full) [] [] { heap := (s.next + 2, rctC n (.slice [] 0 .full) false []) :: (s.next + 1, fltC 0 0) :: (s.next, rctC 0 .nilslice false []) :: s.heap, next := s.next + 3, low := s.next } := by
    intro n
    refine ⟨Gr.full rfl, by simp [Fw.look], by simp [Fw.look], by simp [Fw.look], fun t h => (by cases h), rfl, Nat.le_refl _, by simp⟩
  obtain ⟨_, r1⟩ := blk_le a 0 (Nat.zero_le _)
  have fin : ∀ (n : Int) (e : FE), e 0 = .str a → e 2 = .ptr s.next 0 → e 3 = .ptr (s.next + 1) 0 → e 4 = .ptr (s.next + 2) 0 → e 5 = .int .i64 ((blk a 0 : Nat) : Int) → ∀ Q : Sig → FE → St → Prop,
      (∀ (e' : FE) (st' : St) (v : AV), e' 2 = .ptr s.next 0 → e' 3 = .ptr (s.next + 1) 0 → Fw.look s.next st'.heap = some (rctC (resB a n (blk a 0)).1.ind v (resB a n (blk a 0)).1.head (resB a n (blk a 0)).1.com) → Fw.look (s.next + 1) st'.heap = some (fltC (resB a n (blk a 0)).2.1 (resB a n (blk a 0)).2.2) → v.dr = (if (resB a n (blk a 0)).2.1 = 0 then rsl (resB a n (blk a 0)).1.ts else .nilslice) → v.free0 s.next = true → s.next ≤ st'.low → Q .ret e' st') →
      W cx irS e { heap := (s.next + 2, rctC n (.slice [] 0 .full) false []) :: (s.next + 1, fltC 0 0) :: (s.next, rctC 0 .nilslice false []) :: s.heap, next := s.next + 3, low := s.next } Q := by
    intro n e h0 h2 h3 h4 h5 Q hQ
    refine scanTail a (by omega) s.next n _ e (blk a 0) r1 (hSI n) h0 h2 h3 h4 h5 Q ?_ ?_
    · intro e' st' x v hR a2 a3 a4 a5 a6 a7 a8
      rw [hR] at hQ
      exact hQ e' st' v a2 a3 a4 a5 (by rw [if_pos rfl]; exact a6) a7 a8
    · intro e' st' er k hR her a2 a3 a4 a5 a6
      rw [hR] at hQ
      exact hQ e' st' .nilslice a2 a3 a4 a5 (by rw [if_neg her]; rfl) rfl a6
  clear hsc
  unfold firstI
  simp (config := {contextual := true, implicitDefEqProofs := false, maxSteps := 4000000}) only [go_sem, ↓reduceIte, Bool.false_eq_true, Nat.reduceEqDiff, Nat.reduceAdd, Int.reduceLE, Int.reduceLT, Int.reduceEq, Int.reduceToNat, Int.toNat_natCast, Int.cast_ofNat_Int, Int.natCast_one, Nat.reduceMod, Nat.reduceDiv, UInt8.reduceToNat, Nat.reduceLT, d1]
  refine l8a a (by omega) _ _ _ _ _ a.length 0 _ (by omega) rfl rfl rfl rfl rfl ?_
  intro e1 h0 h2 h3 h4 h5
  generalize blk a 0 = i at *
  obtain ⟨b, hb⟩ : ∃ b, a.getD i 0 = b := ⟨_, rfl⟩
  rw [hb]
  have f1 : decide (((b.toNat : Nat) : Int) ≠ 35) = !decide (b = 35) := by rw [← is_byte 35 b]; simp
  have b1 : (0 : Int) ≤ (i : Int) := by omega
  have w1 := wrap_one (i := i) (by omega)
  by_cases hA : i < a.length ∧ b ≠ 35
  case pos =>
    rw [if_pos hA]
    have d2 : decide ((i : Int) < (a.length : Int)) = true := decide_eq_true (by omega)
    have b2 : (i : Int) < (a.length : Int) := by omega
    rw [decide_eq_false hA.2] at f1
    have m1 : Int.tmod (i : Int) 2 = ((i % 2 : Nat) : Int) := by rw [Int.tmod_eq_emod_of_nonneg (by omega)]; rfl
    have m2 : Int.tdiv (i : Int) 2 = ((i / 2 : Nat) : Int) := by rw [Int.tdiv_eq_ediv_of_nonneg (by omega)]; rfl
    have m3 : IntKind.i64.wrap ((i / 2 : Nat) : Int) = ((i / 2 : Nat) : Int) := wrap_i64 (by omega) (by omega)
    have m4 : IntKind.i64.wrap ((i % 2 : Nat) : Int) = ((i % 2 : Nat) : Int) := wrap_i64 (by omega) (by omega)
    unfold indB
    by_cases h2m : i % 2 ≠ 0
    · have d0 : decide (((i % 2 : Nat) : Int) = 1) = true := decide_eq_true (by omega)
      rw [if_pos h2m]
      simp (config := {contextual := true, implicitDefEqProofs := false, maxSteps := 4000000}) only [go_sem, ↓reduceIte, Bool.false_eq_true, Nat.reduceEqDiff, Nat.reduceAdd, Int.reduceLE, Int.reduceLT, Int.reduceEq, Int.reduceToNat, Int.toNat_natCast, Int.cast_ofNat_Int, Int.natCast_one, Nat.reduceMod, Nat.reduceDiv, UInt8.reduceToNat, Nat.reduceLT, h0, h2, h3, h4, h5, d2, b1, b2, hb, f1, Bool.not_false, m1, m4, d0, w1, kf]
      rfl
    have d0 : decide (((i % 2 : Nat) : Int) = 1) = false := decide_eq_false (by omega)
    rw [if_neg h2m]
    by_cases h12 : 12 < i
    · have d3 : decide ((12 : Int) < (i : Int)) = true := decide_eq_true (by omega)
      rw [if_pos h12]
      simp (config := {contextual := true, implicitDefEqProofs := false, maxSteps := 4000000}) only [go_sem, ↓reduceIte, Bool.false_eq_true, Nat.reduceEqDiff, Nat.reduceAdd, Int.reduceLE, Int.reduceLT, Int.reduceEq, Int.reduceToNat, Int.toNat_natCast, Int.cast_ofNat_Int, Int.natCast_one, Nat.reduceMod, Nat.reduceDiv, UInt8.reduceToNat, Nat.reduceLT, h0, h2, h3, h4, h5, d2, b1, b2, hb, f1, Bool.not_false, m1, m4, d0, d3, w1, kf]
      rfl
    have d3 : decide ((12 : Int) < (i : Int)) = false := decide_eq_false (by omega)
    rw [if_neg h12]
    have n02 : ¬ s.next + 2 = s.next := by omega
    simp (config := {contextual := true, implicitDefEqProofs := false, maxSteps := 4000000}) only [go_sem, ↓reduceIte, Bool.false_eq_true, Nat.reduceEqDiff, Nat.reduceAdd, Int.reduceLE, Int.reduceLT, Int.reduceEq, Int.reduceToNat, Int.toNat_natCast, Int.cast_ofNat_Int, Int.natCast_one, Nat.reduceMod, Nat.reduceDiv, UInt8.reduceToNat, Nat.reduceLT, h0, h2, h3, h4, h5, d2, b1, b2, hb, f1, Bool.not_false, m1, m2, m3, m4, d0, d3, ↓W_irS]
    refine WTail.of (fin ((i / 2 : Nat) : Int) _ ?_ ?_ ?_ ?_ ?_ _ ?_)
    · exact h0
    · exact h2
    · exact h3
    · exact h4
    · exact h5
    intro e' st' v a2 a3 a4 a5 a6 a7 a8
    generalize resB a ((i / 2 : Nat) : Int) i = x at *
    obtain ⟨⟨x1, x2, x3, x4⟩, x5, x6⟩ := x
    simp only at a4 a5 a6 ⊢
    have hl := fun K => LeaveW_tfreeA (s := s) (s' := st') (vs := [.agg [.int .i64 x1, v, .bool x3, .str x4], .agg [.int .i64 x5, .int .i64 0, .int .i64 x6]]) (by simp only [List.all_cons, List.all_nil, AV.freeA, a7]; rfl) a8 K
    simp (config := {contextual := true, implicitDefEqProofs := false, maxSteps := 4000000}) only [go_sem, ↓reduceIte, Bool.false_eq_true, Nat.reduceEqDiff, Nat.reduceAdd, Int.reduceLE, Int.reduceLT, Int.reduceEq, Int.reduceToNat, Int.toNat_natCast, Int.cast_ofNat_Int, Int.natCast_one, Nat.reduceMod, Nat.reduceDiv, UInt8.reduceToNat, Nat.reduceLT, a2, a3, a4, a5, hl]
    simp only [scR, ne_eq, not_true_eq_false, if_false, ← a6]
    rfl
  case neg =>
    rw [if_neg hA]
    by_cases hi : i < a.length
    case pos =>
      have d2 : decide ((i : Int) < (a.length : Int)) = true := decide_eq_true (by omega)
      have b2 : (i : Int) < (a.length : Int) := by omega
      have hb35 : b = 35 := Decidable.byContradiction fun h => hA ⟨hi, h⟩
      rw [decide_eq_true hb35] at f1
      simp (config := {contextual := true, implicitDefEqProofs := false, maxSteps := 4000000}) only [go_sem, ↓reduceIte, Bool.false_eq_true, Nat.reduceEqDiff, Nat.reduceAdd, Int.reduceLE, Int.reduceLT, Int.reduceEq, Int.reduceToNat, Int.toNat_natCast, Int.cast_ofNat_Int, Int.natCast_one, Nat.reduceMod, Nat.reduceDiv, UInt8.reduceToNat, Nat.reduceLT, h0, h2, h3, h4, h5, d2, b1, b2, hb, f1, Bool.not_true, ↓W_irS]
      refine WTail.of (fin 0 _ ?_ ?_ ?_ ?_ ?_ _ ?_)
      · exact h0
      · exact h2
      · exact h3
      · exact h4
      · exact h5
      intro e' st' v a2 a3 a4 a5 a6 a7 a8
      generalize resB a 0 i = x at *
      obtain ⟨⟨x1, x2, x3, x4⟩, x5, x6⟩ := x
      simp only at a4 a5 a6 ⊢
      have hl := fun K => LeaveW_tfreeA (s := s) (s' := st') (vs := [.agg [.int .i64 x1, v, .bool x3, .str x4], .agg [.int .i64 x5, .int .i64 0, .int .i64 x6]]) (by simp only [List.all_cons, List.all_nil, AV.freeA, a7]; rfl) a8 K
      simp (config := {contextual := true, implicitDefEqProofs := false, maxSteps := 4000000}) only [go_sem, ↓reduceIte, Bool.false_eq_true, Nat.reduceEqDiff, Nat.reduceAdd, Int.reduceLE, Int.reduceLT, Int.reduceEq, Int.reduceToNat, Int.toNat_natCast, Int.cast_ofNat_Int, Int.natCast_one, Nat.reduceMod, Nat.reduceDiv, UInt8.reduceToNat, Nat.reduceLT, a2, a3, a4, a5, hl]
      simp only [scR, ne_eq, not_true_eq_false, if_false, ← a6]
      rfl
    case neg =>
      have d2 : decide ((i : Int) < (a.length : Int)) = false := decide_eq_false (by omega)
      simp (config := {contextual := true, implicitDefEqProofs := false, maxSteps := 4000000}) only [go_sem, ↓reduceIte, Bool.false_eq_true, Nat.reduceEqDiff, Nat.reduceAdd, Int.reduceLE, Int.reduceLT, Int.reduceEq, Int.reduceToNat, Int.toNat_natCast, Int.cast_ofNat_Int, Int.natCast_one, Nat.reduceMod, Nat.reduceDiv, UInt8.reduceToNat, Nat.reduceLT, h0, h2, h3, h4, h5, d2, ↓W_irS]
      refine WTail.of (fin 0 _ ?_ ?_ ?_ ?_ ?_ _ ?_)
      · exact h0
      · exact h2
      · exact h3
      · exact h4
      · exact h5
      intro e' st' v a2 a3 a4 a5 a6 a7 a8
      generalize resB a 0 i = x at *
      obtain ⟨⟨x1, x2, x3, x4⟩, x5, x6⟩ := x
      simp only at a4 a5 a6 ⊢
      have hl := fun K => LeaveW_tfreeA (s := s) (s' := st') (vs := [.agg [.int .i64 x1, v, .bool x3, .str x4], .agg [.int .i64 x5, .int .i64 0, .int .i64 x6]]) (by simp only [List.all_cons, List.all_nil, AV.freeA, a7]; rfl) a8 K
      simp (config := {contextual := true, implicitDefEqProofs := false, maxSteps := 4000000}) only [go_sem, ↓reduceIte, Bool.false_eq_true, Nat.reduceEqDiff, Nat.reduceAdd, Int.reduceLE, Int.reduceLT, Int.reduceEq, Int.reduceToNat, Int.toNat_natCast, Int.cast_ofNat_Int, Int.natCast_one, Nat.reduceMod, Nat.reduceDiv, UInt8.reduceToNat, Nat.reduceLT, a2, a3, a4, a5, hl]
      simp only [scR, ne_eq, not_true_eq_false, if_false, ← a6]
      rfl
end T17
