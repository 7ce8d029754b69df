/- Parts of the proof, one behind the other. -/
import Derived.Test.YtljlkedecdgimaaGreatDoorK17r
import Derived.Test.YtljlkedecdgimaaGreatDoorK17a
set_option linter.unusedSimpArgs false
set_option linter.unusedVariables false
/- The reference's letters, signs, and what belongs to a run. -/
namespace T17
open Go Fw Go.Proofs
set_option maxRecDepth 100000
set_option maxHeartbeats 4000000
set_option linter.unusedSimpArgs false
set_option linter.unusedVariables false
theorem c49 (b : UInt8) (s : St) (K : AV → St → Prop) : CallW cx 49 [.int .u8 b.toNat] s K = K (.bool (isLet b)) s := by
  refine CallW.eq (CallW.fn' (fn := ir49) rfl rfl (by kernel_rfl) ir49.eq_1 ?_) K
  have h3 : decide ((65 : Int) ≤ ((b.toNat : Nat) : Int)) = decide (65 ≤ b.toNat) := le_nat 65 b
  have h4 : decide (((b.toNat : Nat) : Int) ≤ (90 : Int)) = decide (b.toNat ≤ 90) := nat_le 90 b
  have e : isLet b = (isLow b || (decide (65 ≤ b.toNat) && decide (b.toNat ≤ 90))) := rfl
  rw [e]
  cases g1 : isLow b with
  | true => simp (config := {contextual := true, implicitDefEqProofs := false, maxSteps := 4000000}) only [go_sem, ↓reduceIte, Bool.false_eq_true, Nat.reduceEqDiff, Nat.reduceAdd, Int.reduceLE, Int.reduceLT, Int.reduceEq, Int.reduceToNat, Int.toNat_natCast, Int.cast_ofNat_Int, Int.natCast_one, Nat.reduceMod, Nat.reduceDiv, UInt8.reduceToNat, Nat.reduceLT, c39, g1]
  | false =>
    cases g3 : decide (65 ≤ b.toNat) with
    | false => rw [g3] at h3; simp (config := {contextual := true, implicitDefEqProofs := false, maxSteps := 4000000}) only [go_sem, ↓reduceIte, Bool.false_eq_true, Nat.reduceEqDiff, Nat.reduceAdd, Int.reduceLE, Int.reduceLT, Int.reduceEq, Int.reduceToNat, Int.toNat_natCast, Int.cast_ofNat_Int, Int.natCast_one, Nat.reduceMod, Nat.reduceDiv, UInt8.reduceToNat, Nat.reduceLT, c39, g1, h3]
    | true => rw [g3] at h3; simp (config := {contextual := true, implicitDefEqProofs := false, maxSteps := 4000000}) only [go_sem, ↓reduceIte, Bool.false_eq_true, Nat.reduceEqDiff, Nat.reduceAdd, Int.reduceLE, Int.reduceLT, Int.reduceEq, Int.reduceToNat, Int.toNat_natCast, Int.cast_ofNat_Int, Int.natCast_one, Nat.reduceMod, Nat.reduceDiv, UInt8.reduceToNat, Nat.reduceLT, c39, g1, h3, h4]
def signB (a : List UInt8) : Bool := decide (a = [40]) || (decide (a = [41]) || (decide (a = [44]) || (decide (a = [61]) || (decide (a = [58]) || (decide (a = [60]) || decide (a = [62]))))))
theorem c34 (a : List UInt8) (s : St) (K : AV → St → Prop) : CallW cx 34 [.str a] s K = K (.bool (signB a)) s := by
  refine CallW.eq (CallW.fn' (fn := ir34) rfl rfl (by kernel_rfl) ir34.eq_1 ?_) K
  unfold signB
  cases e1 : decide (a = [40]) with
  | true => simp (config := {contextual := true, implicitDefEqProofs := false, maxSteps := 4000000}) only [go_sem, ↓reduceIte, Bool.false_eq_true, Nat.reduceEqDiff, Nat.reduceAdd, Int.reduceLE, Int.reduceLT, Int.reduceEq, Int.reduceToNat, Int.toNat_natCast, Int.cast_ofNat_Int, Int.natCast_one, Nat.reduceMod, Nat.reduceDiv, UInt8.reduceToNat, Nat.reduceLT, e1]
  | false =>
  cases e2 : decide (a = [41]) with
  | true => simp (config := {contextual := true, implicitDefEqProofs := false, maxSteps := 4000000}) only [go_sem, ↓reduceIte, Bool.false_eq_true, Nat.reduceEqDiff, Nat.reduceAdd, Int.reduceLE, Int.reduceLT, Int.reduceEq, Int.reduceToNat, Int.toNat_natCast, Int.cast_ofNat_Int, Int.natCast_one, Nat.reduceMod, Nat.reduceDiv, UInt8.reduceToNat, Nat.reduceLT, e1, e2]
  | false =>
  cases e3 : decide (a = [44]) with
  | true => simp (config := {contextual := true, implicitDefEqProofs := false, maxSteps := 4000000}) only [go_sem, ↓reduceIte, Bool.false_eq_true, Nat.reduceEqDiff, Nat.reduceAdd, Int.reduceLE, Int.reduceLT, Int.reduceEq, Int.reduceToNat, Int.toNat_natCast, Int.cast_ofNat_Int, Int.natCast_one, Nat.reduceMod, Nat.reduceDiv, UInt8.reduceToNat, Nat.reduceLT, e1, e2, e3]
  | false =>
  cases e4 : decide (a = [61]) with
  | true => simp (config := {contextual := true, implicitDefEqProofs := false, maxSteps := 4000000}) only [go_sem, ↓reduceIte, Bool.false_eq_true, Nat.reduceEqDiff, Nat.reduceAdd, Int.reduceLE, Int.reduceLT, Int.reduceEq, Int.reduceToNat, Int.toNat_natCast, Int.cast_ofNat_Int, Int.natCast_one, Nat.reduceMod, Nat.reduceDiv, UInt8.reduceToNat, Nat.reduceLT, e1, e2, e3, e4]
  | false =>
  cases e5 : decide (a = [58]) with
  | true => simp (config := {contextual := true, implicitDefEqProofs := false, maxSteps := 4000000}) only [go_sem, ↓reduceIte, Bool.false_eq_true, Nat.reduceEqDiff, Nat.reduceAdd, Int.reduceLE, Int.reduceLT, Int.reduceEq, Int.reduceToNat, Int.toNat_natCast, Int.cast_ofNat_Int, Int.natCast_one, Nat.reduceMod, Nat.reduceDiv, UInt8.reduceToNat, Nat.reduceLT, e1, e2, e3, e4, e5]
  | false =>
  cases e6 : decide (a = [60]) with
  | true => simp (config := {contextual := true, implicitDefEqProofs := false, maxSteps := 4000000}) only [go_sem, ↓reduceIte, Bool.false_eq_true, Nat.reduceEqDiff, Nat.reduceAdd, Int.reduceLE, Int.reduceLT, Int.reduceEq, Int.reduceToNat, Int.toNat_natCast, Int.cast_ofNat_Int, Int.natCast_one, Nat.reduceMod, Nat.reduceDiv, UInt8.reduceToNat, Nat.reduceLT, e1, e2, e3, e4, e5, e6]
  | false => simp (config := {contextual := true, implicitDefEqProofs := false, maxSteps := 4000000}) only [go_sem, ↓reduceIte, Bool.false_eq_true, Nat.reduceEqDiff, Nat.reduceAdd, Int.reduceLE, Int.reduceLT, Int.reduceEq, Int.reduceToNat, Int.toNat_natCast, Int.cast_ofNat_Int, Int.natCast_one, Nat.reduceMod, Nat.reduceDiv, UInt8.reduceToNat, Nat.reduceLT, e1, e2, e3, e4, e5, e6]
theorem sign_one (b : UInt8) : signB [b] = decide (0 ≤ findByte b sgB 0) := by
  have : ∀ i : Fin 256, signB [UInt8.ofNat i.val] = decide (0 ≤ findByte (UInt8.ofNat i.val) sgB 0) := by decide +kernel
  have h := this ⟨b.toNat, b.toNat_lt⟩
  simpa using h
/-- Whether a byte behind a run's first belongs to it: as the lexer says. -/
theorem bel_find (b : UInt8) : decide (0 ≤ findByte b [45, 42, 46] 0) = (decide (b = 45) || (decide (b = 42) || decide (b = 46))) := by
  have : ∀ i : Fin 256, decide (0 ≤ findByte (UInt8.ofNat i.val) [45, 42, 46] 0) = (decide (UInt8.ofNat i.val = 45) || (decide (UInt8.ofNat i.val = 42) || decide (UInt8.ofNat i.val = 46))) := by decide +kernel
  have h := this ⟨b.toNat, b.toNat_lt⟩
  simpa using h
theorem c50 (a : List UInt8) (hl : a.length ≤ 4611686018427387904) (p j : Nat) (hp : p < j) (hi : j < a.length) (s : St) (K : AV → St → Prop) : CallW cx 50 [.str a, .int .i64 (j : Int)] s K = K (.bool (belB a p j)) s := by
  refine CallW.eq (CallW.fn' (fn := ir50) rfl rfl (by kernel_rfl) ir50.eq_1 ?_) K
  have b1 : (0 : Int) ≤ (j : Int) := by omega
  have b2 : (j : Int) < (a.length : Int) := by omega
  obtain ⟨b, hb⟩ : ∃ b, a.getD j 0 = b := ⟨_, rfl⟩
  have f1 : decide (((b.toNat : Nat) : Int) = 58) = decide (b = 58) := is_byte 58 b
  have f2 : decide (((b.toNat : Nat) : Int) = 45) = decide (b = 45) := is_byte 45 b
  have f3 : decide (((b.toNat : Nat) : Int) = 42) = decide (b = 42) := is_byte 42 b
  have f4 : decide (((b.toNat : Nat) : Int) = 46) = decide (b = 46) := is_byte 46 b
  unfold belB
  rw [hb, bel_find]
  by_cases h58 : b = 58
  · subst h58
    have d1 : decide ((((58 : UInt8).toNat : Nat) : Int) = 58) = true := rfl
    have hz : isD 58 = false := rfl
    rw [hz, show decide ((58 : UInt8) = 45) = false from rfl, show decide ((58 : UInt8) = 42) = false from rfl, show decide ((58 : UInt8) = 46) = false from rfl, show decide ((58 : UInt8) = 58) = true from rfl, decide_eq_true hp]
    simp only [Bool.false_or, Bool.true_and]
    have p0 : decide ((0 : Int) < (j : Int)) = true := decide_eq_true (by omega)
    have w1 : IntKind.i64.wrap ((j : Int) - 1) = ((j - 1 : Nat) : Int) := by rw [wrap_i64 (by omega) (by omega)]; omega
    have w2 := wrap_one (i := j) (by omega)
    have b3 : (0 : Int) ≤ ((j - 1 : Nat) : Int) := by omega
    have b4 : ((j - 1 : Nat) : Int) < (a.length : Int) := by omega
    have f5 : decide (((j + 1 : Nat) : Int) < (a.length : Int)) = decide (j + 1 < a.length) := decide_eq_decide.2 (by omega)
    by_cases h6 : j + 1 < a.length
    case neg =>
      rw [decide_eq_false h6] at f5 ⊢
      simp only [Bool.false_and, Bool.and_false]
      simp (config := {contextual := true, implicitDefEqProofs := false, maxSteps := 4000000}) only [go_sem, ↓reduceIte, Bool.false_eq_true, Nat.reduceEqDiff, Nat.reduceAdd, Int.reduceLE, Int.reduceLT, Int.reduceEq, Int.reduceToNat, Int.toNat_natCast, Int.cast_ofNat_Int, Int.natCast_one, Nat.reduceMod, Nat.reduceDiv, UInt8.reduceToNat, Nat.reduceLT, b1, b2, hb, d1, p0, w2, f5]
    rw [decide_eq_true h6] at f5 ⊢
    have b5 : (0 : Int) ≤ ((j + 1 : Nat) : Int) := by omega
    have b6 : ((j + 1 : Nat) : Int) < (a.length : Int) := by omega
    cases e5 : isD (a.getD (j - 1) 0) with
    | false => simp (config := {contextual := true, implicitDefEqProofs := false, maxSteps := 4000000}) only [go_sem, ↓reduceIte, Bool.false_eq_true, Nat.reduceEqDiff, Nat.reduceAdd, Int.reduceLE, Int.reduceLT, Int.reduceEq, Int.reduceToNat, Int.toNat_natCast, Int.cast_ofNat_Int, Int.natCast_one, Nat.reduceMod, Nat.reduceDiv, UInt8.reduceToNat, Nat.reduceLT, b1, b2, hb, d1, p0, w1, w2, b3, b4, f5, c40, e5]
    | true => simp (config := {contextual := true, implicitDefEqProofs := false, maxSteps := 4000000}) only [go_sem, ↓reduceIte, Bool.false_eq_true, Nat.reduceEqDiff, Nat.reduceAdd, Int.reduceLE, Int.reduceLT, Int.reduceEq, Int.reduceToNat, Int.toNat_natCast, Int.cast_ofNat_Int, Int.natCast_one, Nat.reduceMod, Nat.reduceDiv, UInt8.reduceToNat, Nat.reduceLT, b1, b2, hb, d1, p0, w1, w2, b3, b4, b5, b6, f5, c40, e5]
  · rw [decide_eq_false h58] at f1 ⊢
    simp only [Bool.false_and, Bool.or_false]
    cases e1 : isD b with
    | true => simp (config := {contextual := true, implicitDefEqProofs := false, maxSteps := 4000000}) only [go_sem, ↓reduceIte, Bool.false_eq_true, Nat.reduceEqDiff, Nat.reduceAdd, Int.reduceLE, Int.reduceLT, Int.reduceEq, Int.reduceToNat, Int.toNat_natCast, Int.cast_ofNat_Int, Int.natCast_one, Nat.reduceMod, Nat.reduceDiv, UInt8.reduceToNat, Nat.reduceLT, b1, b2, hb, f1, c40, e1]
    | false =>
    cases e2 : decide (b = 45) with
    | true => rw [e2] at f2; simp (config := {contextual := true, implicitDefEqProofs := false, maxSteps := 4000000}) only [go_sem, ↓reduceIte, Bool.false_eq_true, Nat.reduceEqDiff, Nat.reduceAdd, Int.reduceLE, Int.reduceLT, Int.reduceEq, Int.reduceToNat, Int.toNat_natCast, Int.cast_ofNat_Int, Int.natCast_one, Nat.reduceMod, Nat.reduceDiv, UInt8.reduceToNat, Nat.reduceLT, b1, b2, hb, f1, c40, e1, f2]
    | false =>
    rw [e2] at f2
    cases e3 : decide (b = 42) with
    | true => rw [e3] at f3; simp (config := {contextual := true, implicitDefEqProofs := false, maxSteps := 4000000}) only [go_sem, ↓reduceIte, Bool.false_eq_true, Nat.reduceEqDiff, Nat.reduceAdd, Int.reduceLE, Int.reduceLT, Int.reduceEq, Int.reduceToNat, Int.toNat_natCast, Int.cast_ofNat_Int, Int.natCast_one, Nat.reduceMod, Nat.reduceDiv, UInt8.reduceToNat, Nat.reduceLT, b1, b2, hb, f1, c40, e1, f2, f3]
    | false => rw [e3] at f3; simp (config := {contextual := true, implicitDefEqProofs := false, maxSteps := 4000000}) only [go_sem, ↓reduceIte, Bool.false_eq_true, Nat.reduceEqDiff, Nat.reduceAdd, Int.reduceLE, Int.reduceLT, Int.reduceEq, Int.reduceToNat, Int.toNat_natCast, Int.cast_ofNat_Int, Int.natCast_one, Nat.reduceMod, Nat.reduceDiv, UInt8.reduceToNat, Nat.reduceLT, b1, b2, hb, f1, c40, e1, f2, f3, f4]
end T17

/- Valid: the walk. -/
namespace T17
open Go Fw Go.Proofs
set_option maxRecDepth 100000
set_option maxHeartbeats 4000000
set_option linter.unusedSimpArgs false
set_option linter.unusedVariables false
abbrev tokO (t : Tok) : AV := .agg [.int .i64 t.k, .str t.t, .int .i64 t.n, .int .i64 t.p]
/-- Whether a token is possible. -/
def validB (t : Tok) : Bool :=
  if t.k = 2 then decide (t.t = []) && (decide (-1000000000000 ≤ t.n) && decide (t.n ≤ 1000000000000))
  else if t.k = 4 then decide (t.t = []) && (decide (0 ≤ t.n) && decide (t.n < 1440))
  else if t.k = 3 then decide (t.n = 0) && labB t.t
  else if t.k = 1 ∨ t.k = 5 ∨ t.k = 6 then decide (t.n = 0) && (decide (t.t ≠ []) && (decide ((nextB t.t 0).2.2 = 0) && (decide ((nextB t.t 0).2.1 = t.t.length) && decide ((nextB t.t 0).1.k = t.k))))
  else false
theorem c12 (t : Tok) (hl : t.t.length ≤ 1100000) (s : St) (K : AV → St → Prop) : CallW cx 12 [tokO t] s K = K (.bool (validB t)) s := by
  refine CallW.eq (CallW.fn' (fn := ir12) rfl rfl (by kernel_rfl) ir12.eq_1 ?_) K
  obtain ⟨k, a, n, p⟩ := t
  simp only at hl
  unfold validB
  simp only
  by_cases h2 : k = 2
  · subst h2
    rw [if_pos rfl]
    cases e1 : decide (a = []) <;> cases e2 : decide (-1000000000000 ≤ n) <;> cases e3 : decide (n ≤ 1000000000000) <;> simp (config := {contextual := true, implicitDefEqProofs := false, maxSteps := 4000000}) only [go_sem, ↓reduceIte, Bool.false_eq_true, Nat.reduceEqDiff, Nat.reduceAdd, Int.reduceLE, Int.reduceLT, Int.reduceEq, Int.reduceToNat, Int.toNat_natCast, Int.cast_ofNat_Int, Int.natCast_one, Nat.reduceMod, Nat.reduceDiv, UInt8.reduceToNat, Nat.reduceLT, e1, e2, e3, show decide ((2 : Int) = 2) = true from rfl]
  rw [if_neg h2]
  have d2 : decide (k = 2) = false := decide_eq_false h2
  by_cases h4 : k = 4
  · subst h4
    rw [if_pos rfl]
    cases e1 : decide (a = []) <;> cases e2 : decide (0 ≤ n) <;> cases e3 : decide (n < 1440) <;> simp (config := {contextual := true, implicitDefEqProofs := false, maxSteps := 4000000}) only [go_sem, ↓reduceIte, Bool.false_eq_true, Nat.reduceEqDiff, Nat.reduceAdd, Int.reduceLE, Int.reduceLT, Int.reduceEq, Int.reduceToNat, Int.toNat_natCast, Int.cast_ofNat_Int, Int.natCast_one, Nat.reduceMod, Nat.reduceDiv, UInt8.reduceToNat, Nat.reduceLT, d2, e1, e2, e3, show decide ((4 : Int) = 2) = false from rfl, show decide ((4 : Int) = 4) = true from rfl]
  rw [if_neg h4]
  have d4 : decide (k = 4) = false := decide_eq_false h4
  by_cases h3 : k = 3
  · subst h3
    rw [if_pos rfl]
    have kl := fun st K => c20 a (by omega) st K
    cases e1 : decide (n = 0) <;> simp (config := {contextual := true, implicitDefEqProofs := false, maxSteps := 4000000}) only [go_sem, ↓reduceIte, Bool.false_eq_true, Nat.reduceEqDiff, Nat.reduceAdd, Int.reduceLE, Int.reduceLT, Int.reduceEq, Int.reduceToNat, Int.toNat_natCast, Int.cast_ofNat_Int, Int.natCast_one, Nat.reduceMod, Nat.reduceDiv, UInt8.reduceToNat, Nat.reduceLT, e1, kl, show decide ((3 : Int) = 2) = false from rfl, show decide ((3 : Int) = 4) = false from rfl, show decide ((3 : Int) = 3) = true from rfl]
  rw [if_neg h3]
  have d3 : decide (k = 3) = false := decide_eq_false h3
  have hrest : k = 1 ∨ k = 5 ∨ k = 6 → ∀ e : FE, True := fun _ _ => trivial
  by_cases hk : k = 1 ∨ k = 5 ∨ k = 6
  · rw [if_pos hk]
    have dn : decide (n ≠ 0) = !decide (n = 0) := by simp
    by_cases e1 : n = 0
    case neg =>
      rw [decide_eq_false e1] at dn
      rw [decide_eq_false e1]
      rcases hk with rfl | rfl | rfl
      all_goals simp (config := {contextual := true, implicitDefEqProofs := false, maxSteps := 4000000}) only [go_sem, ↓reduceIte, Bool.false_eq_true, Nat.reduceEqDiff, Nat.reduceAdd, Int.reduceLE, Int.reduceLT, Int.reduceEq, Int.reduceToNat, Int.toNat_natCast, Int.cast_ofNat_Int, Int.natCast_one, Nat.reduceMod, Nat.reduceDiv, UInt8.reduceToNat, Nat.reduceLT, dn, show decide ((1 : Int) = 2) = false from rfl, show decide ((1 : Int) = 4) = false from rfl, show decide ((1 : Int) = 3) = false from rfl, show decide ((1 : Int) = 1) = true from rfl, show decide ((5 : Int) = 2) = false from rfl, show decide ((5 : Int) = 4) = false from rfl, show decide ((5 : Int) = 3) = false from rfl, show decide ((5 : Int) = 1) = false from rfl, show decide ((5 : Int) = 5) = true from rfl, show decide ((6 : Int) = 2) = false from rfl, show decide ((6 : Int) = 4) = false from rfl, show decide ((6 : Int) = 3) = false from rfl, show decide ((6 : Int) = 1) = false from rfl, show decide ((6 : Int) = 5) = false from rfl, show decide ((6 : Int) = 6) = true from rfl]
    rw [decide_eq_true e1] at dn
    rw [decide_eq_true e1]
    by_cases e2 : a = []
    · have x2 : decide (a = []) = true := decide_eq_true e2
      rw [decide_eq_false (show ¬ a ≠ [] by simp [e2])]
      rcases hk with rfl | rfl | rfl
      all_goals simp (config := {contextual := true, implicitDefEqProofs := false, maxSteps := 4000000}) only [go_sem, ↓reduceIte, Bool.false_eq_true, Nat.reduceEqDiff, Nat.reduceAdd, Int.reduceLE, Int.reduceLT, Int.reduceEq, Int.reduceToNat, Int.toNat_natCast, Int.cast_ofNat_Int, Int.natCast_one, Nat.reduceMod, Nat.reduceDiv, UInt8.reduceToNat, Nat.reduceLT, dn, x2, show decide ((1 : Int) = 2) = false from rfl, show decide ((1 : Int) = 4) = false from rfl, show decide ((1 : Int) = 3) = false from rfl, show decide ((1 : Int) = 1) = true from rfl, show decide ((5 : Int) = 2) = false from rfl, show decide ((5 : Int) = 4) = false from rfl, show decide ((5 : Int) = 3) = false from rfl, show decide ((5 : Int) = 1) = false from rfl, show decide ((5 : Int) = 5) = true from rfl, show decide ((6 : Int) = 2) = false from rfl, show decide ((6 : Int) = 4) = false from rfl, show decide ((6 : Int) = 3) = false from rfl, show decide ((6 : Int) = 1) = false from rfl, show decide ((6 : Int) = 5) = false from rfl, show decide ((6 : Int) = 6) = true from rfl]
    have x2 : decide (a = []) = false := decide_eq_false e2
    rw [decide_eq_true (show a ≠ [] from e2)]
    have hpos : 0 < a.length := List.length_pos_iff.2 e2
    have kx : ∀ st K, CallW cx 26 [.str a, .int .i64 0] st K = K (nxo (nextB a 0)) st := fun st K => c26 a hl 0 hpos st K
    generalize nextB a 0 = x at *
    obtain ⟨⟨x1, x2', x3, x4⟩, x5, x6⟩ := x
    simp only [nxo] at kx ⊢
    have x7 : decide ((x5 : Int) = (a.length : Int)) = decide (x5 = a.length) := decide_eq_decide.2 (by omega)
    rcases hk with rfl | rfl | rfl
    all_goals cases y1 : decide (x6 = 0) <;> cases y2 : decide (x5 = a.length) <;> (rw [y2] at x7; simp (config := {contextual := true, implicitDefEqProofs := false, maxSteps := 4000000}) only [go_sem, ↓reduceIte, Bool.false_eq_true, Nat.reduceEqDiff, Nat.reduceAdd, Int.reduceLE, Int.reduceLT, Int.reduceEq, Int.reduceToNat, Int.toNat_natCast, Int.cast_ofNat_Int, Int.natCast_one, Nat.reduceMod, Nat.reduceDiv, UInt8.reduceToNat, Nat.reduceLT, dn, x2, kx, y1, x7, show decide ((1 : Int) = 2) = false from rfl, show decide ((1 : Int) = 4) = false from rfl, show decide ((1 : Int) = 3) = false from rfl, show decide ((1 : Int) = 1) = true from rfl, show decide ((5 : Int) = 2) = false from rfl, show decide ((5 : Int) = 4) = false from rfl, show decide ((5 : Int) = 3) = false from rfl, show decide ((5 : Int) = 1) = false from rfl, show decide ((5 : Int) = 5) = true from rfl, show decide ((6 : Int) = 2) = false from rfl, show decide ((6 : Int) = 4) = false from rfl, show decide ((6 : Int) = 3) = false from rfl, show decide ((6 : Int) = 1) = false from rfl, show decide ((6 : Int) = 5) = false from rfl, show decide ((6 : Int) = 6) = true from rfl])
  rw [if_neg hk]
  have d1 : decide (k = 1) = false := decide_eq_false (fun h => hk (.inl h))
  have d5 : decide (k = 5) = false := decide_eq_false (fun h => hk (.inr (.inl h)))
  have d6 : decide (k = 6) = false := decide_eq_false (fun h => hk (.inr (.inr h)))
  simp (config := {contextual := true, implicitDefEqProofs := false, maxSteps := 4000000}) only [go_sem, ↓reduceIte, Bool.false_eq_true, Nat.reduceEqDiff, Nat.reduceAdd, Int.reduceLE, Int.reduceLT, Int.reduceEq, Int.reduceToNat, Int.toNat_natCast, Int.cast_ofNat_Int, Int.natCast_one, Nat.reduceMod, Nat.reduceDiv, UInt8.reduceToNat, Nat.reduceLT, d1, d2, d3, d4, d5, d6]
end T17

/- The reference's words and possible tokens. -/
namespace T17
open Go Fw Go.Proofs
set_option maxRecDepth 100000
set_option maxHeartbeats 4000000
set_option linter.unusedSimpArgs false
set_option linter.unusedVariables false
theorem l32 (a : List UInt8) (hl : a.length ≤ 4611686018427387904) (st : St) (Q : Sig → FE → St → Prop) : ∀ (n i : Nat) (e : FE), i + n = a.length → e 0 = .str a → e 3 = .int .i64 (i : Int) → ((a.drop i).all isWd = true → ∀ e', Q (.exit 0) e' st) → ((a.drop i).all isWd = false → ∀ e', e' 2 = .bool false → Q .ret e' st) → WLoop cx ir32L0 e st Q
  | 0, i, e, hi, h0, h3, hA, hB => by
    refine WLoop.rnd (c := _) ir32L0.eq_1 ?_
    have hd : decide ((i : Int) < (a.length : Int)) = false := decide_eq_false (by omega)
    rw [List.drop_eq_nil_of_le (by omega)] at hA
    simp (config := {contextual := true, implicitDefEqProofs := false, maxSteps := 4000000}) only [go_sem, ↓reduceIte, Bool.false_eq_true, Nat.reduceEqDiff, Nat.reduceAdd, Int.reduceLE, Int.reduceLT, Int.reduceEq, Int.reduceToNat, Int.toNat_natCast, Int.cast_ofNat_Int, Int.natCast_one, Nat.reduceMod, Nat.reduceDiv, UInt8.reduceToNat, Nat.reduceLT, h0, h3, hd]
    exact hA rfl _
  | n + 1, i, e, hi, h0, h3, hA, hB => by
    refine WLoop.rnd (c := _) ir32L0.eq_1 ?_
    have hd : decide ((i : Int) < (a.length : Int)) = true := decide_eq_true (by omega)
    have b1 : (0 : Int) ≤ (i : Int) := by omega
    have b2 : (i : Int) < (a.length : Int) := by omega
    have hw := wrap_one (i := i) (by omega)
    have ih := fun e x0 x3 => l32 a hl st Q n (i + 1) e (by omega) x0 x3
    rw [drop_at (show i < a.length by omega)] at hA hB
    obtain ⟨b, hb⟩ : ∃ b, a.getD i 0 = b := ⟨_, rfl⟩
    rw [hb] at hA hB
    simp only [List.all_cons] at hA hB
    have f1 : decide (((b.toNat : Nat) : Int) ≠ 95) = !decide (b = 95) := byte_isnt 95 b
    have f2 : decide (((b.toNat : Nat) : Int) ≠ 47) = !decide (b = 47) := byte_isnt 47 b
    have qb : isWd b = (isLet b || (isD b || (decide (b = 95) || decide (b = 47)))) := rfl
    rw [qb] at hA hB
    cases e1 : isLet b with
    | true =>
      rw [e1] at hA hB
      simp (config := {contextual := true, implicitDefEqProofs := false, maxSteps := 4000000}) only [go_sem, ↓reduceIte, Bool.false_eq_true, Nat.reduceEqDiff, Nat.reduceAdd, Int.reduceLE, Int.reduceLT, Int.reduceEq, Int.reduceToNat, Int.toNat_natCast, Int.cast_ofNat_Int, Int.natCast_one, Nat.reduceMod, Nat.reduceDiv, UInt8.reduceToNat, Nat.reduceLT, h0, h3, hd, b1, b2, hb, c49, e1, hw]
      exact ih _ h0 rfl (fun h => hA (by simpa using h)) (fun h => hB (by simpa using h))
    | false =>
    cases e2 : isD b with
    | true =>
      rw [e1, e2] at hA hB
      simp (config := {contextual := true, implicitDefEqProofs := false, maxSteps := 4000000}) only [go_sem, ↓reduceIte, Bool.false_eq_true, Nat.reduceEqDiff, Nat.reduceAdd, Int.reduceLE, Int.reduceLT, Int.reduceEq, Int.reduceToNat, Int.toNat_natCast, Int.cast_ofNat_Int, Int.natCast_one, Nat.reduceMod, Nat.reduceDiv, UInt8.reduceToNat, Nat.reduceLT, h0, h3, hd, b1, b2, hb, c49, c40, e1, e2, hw]
      exact ih _ h0 rfl (fun h => hA (by simpa using h)) (fun h => hB (by simpa using h))
    | false =>
    cases e3 : decide (b = 95) with
    | true =>
      rw [e1, e2, e3] at hA hB
      rw [e3] at f1
      simp (config := {contextual := true, implicitDefEqProofs := false, maxSteps := 4000000}) only [go_sem, ↓reduceIte, Bool.false_eq_true, Nat.reduceEqDiff, Nat.reduceAdd, Int.reduceLE, Int.reduceLT, Int.reduceEq, Int.reduceToNat, Int.toNat_natCast, Int.cast_ofNat_Int, Int.natCast_one, Nat.reduceMod, Nat.reduceDiv, UInt8.reduceToNat, Nat.reduceLT, h0, h3, hd, b1, b2, hb, c49, c40, e1, e2, f1, Bool.not_true, hw]
      exact ih _ h0 rfl (fun h => hA (by simpa using h)) (fun h => hB (by simpa using h))
    | false =>
    rw [e3] at f1
    cases e4 : decide (b = 47) with
    | true =>
      rw [e1, e2, e3, e4] at hA hB
      rw [e4] at f2
      simp (config := {contextual := true, implicitDefEqProofs := false, maxSteps := 4000000}) only [go_sem, ↓reduceIte, Bool.false_eq_true, Nat.reduceEqDiff, Nat.reduceAdd, Int.reduceLE, Int.reduceLT, Int.reduceEq, Int.reduceToNat, Int.toNat_natCast, Int.cast_ofNat_Int, Int.natCast_one, Nat.reduceMod, Nat.reduceDiv, UInt8.reduceToNat, Nat.reduceLT, h0, h3, hd, b1, b2, hb, c49, c40, e1, e2, f1, f2, Bool.not_true, Bool.not_false, hw]
      exact ih _ h0 rfl (fun h => hA (by simpa using h)) (fun h => hB (by simpa using h))
    | false =>
      rw [e1, e2, e3, e4] at hB
      rw [e4] at f2
      simp (config := {contextual := true, implicitDefEqProofs := false, maxSteps := 4000000}) only [go_sem, ↓reduceIte, Bool.false_eq_true, Nat.reduceEqDiff, Nat.reduceAdd, Int.reduceLE, Int.reduceLT, Int.reduceEq, Int.reduceToNat, Int.toNat_natCast, Int.cast_ofNat_Int, Int.natCast_one, Nat.reduceMod, Nat.reduceDiv, UInt8.reduceToNat, Nat.reduceLT, h0, h3, hd, b1, b2, hb, c49, c40, e1, e2, f1, f2, Bool.not_true, Bool.not_false, hw]
      exact hB rfl _ rfl
def wordR (a : List UInt8) : Bool := decide (1 ≤ a.length) && (decide (a.length ≤ 49) && (isLet (a.getD 0 0) && a.all isWd))
theorem c32 (a : List UInt8) (hl : a.length ≤ 4611686018427387904) (s : St) (K : AV → St → Prop) : CallW cx 32 [.str a] s K = K (.bool (wordR a)) s := by
  refine CallW.eq (CallW.fn' (fn := ir32) rfl rfl (by kernel_rfl) ir32.eq_1 ?_) K
  unfold wordR
  by_cases h1 : 1 ≤ a.length
  case neg =>
    have d1 : decide ((a.length : Int) < 1) = true := decide_eq_true (by omega)
    rw [decide_eq_false h1]
    simp (config := {contextual := true, implicitDefEqProofs := false, maxSteps := 4000000}) only [go_sem, ↓reduceIte, Bool.false_eq_true, Nat.reduceEqDiff, Nat.reduceAdd, Int.reduceLE, Int.reduceLT, Int.reduceEq, Int.reduceToNat, Int.toNat_natCast, Int.cast_ofNat_Int, Int.natCast_one, Nat.reduceMod, Nat.reduceDiv, UInt8.reduceToNat, Nat.reduceLT, d1]
  have d1 : decide ((a.length : Int) < 1) = false := decide_eq_false (by omega)
  rw [decide_eq_true h1]
  by_cases h2 : a.length ≤ 49
  case neg =>
    have d2 : decide ((49 : Int) < (a.length : Int)) = true := decide_eq_true (by omega)
    rw [decide_eq_false h2]
    simp (config := {contextual := true, implicitDefEqProofs := false, maxSteps := 4000000}) only [go_sem, ↓reduceIte, Bool.false_eq_true, Nat.reduceEqDiff, Nat.reduceAdd, Int.reduceLE, Int.reduceLT, Int.reduceEq, Int.reduceToNat, Int.toNat_natCast, Int.cast_ofNat_Int, Int.natCast_one, Nat.reduceMod, Nat.reduceDiv, UInt8.reduceToNat, Nat.reduceLT, d1, d2]
  have d2 : decide ((49 : Int) < (a.length : Int)) = false := decide_eq_false (by omega)
  rw [decide_eq_true h2]
  have b1 : (0 : Int) < (a.length : Int) := by omega
  obtain ⟨b, hb⟩ : ∃ b, a.getD 0 0 = b := ⟨_, rfl⟩
  rw [hb]
  cases e1 : isLet b with
  | false => simp (config := {contextual := true, implicitDefEqProofs := false, maxSteps := 4000000}) only [go_sem, ↓reduceIte, Bool.false_eq_true, Nat.reduceEqDiff, Nat.reduceAdd, Int.reduceLE, Int.reduceLT, Int.reduceEq, Int.reduceToNat, Int.toNat_natCast, Int.cast_ofNat_Int, Int.natCast_one, Nat.reduceMod, Nat.reduceDiv, UInt8.reduceToNat, Nat.reduceLT, d1, d2, b1, hb, c49, e1]
  | true =>
    simp (config := {contextual := true, implicitDefEqProofs := false, maxSteps := 4000000}) only [go_sem, ↓reduceIte, Bool.false_eq_true, Nat.reduceEqDiff, Nat.reduceAdd, Int.reduceLE, Int.reduceLT, Int.reduceEq, Int.reduceToNat, Int.toNat_natCast, Int.cast_ofNat_Int, Int.natCast_one, Nat.reduceMod, Nat.reduceDiv, UInt8.reduceToNat, Nat.reduceLT, d1, d2, b1, hb, c49, e1]
    refine l32 a hl _ _ a.length 0 _ (by omega) rfl rfl ?_ ?_
    · intro h e'
      rw [List.drop_zero] at h
      rw [h]
      simp (config := {contextual := true, implicitDefEqProofs := false, maxSteps := 4000000}) only [go_sem, ↓reduceIte, Bool.false_eq_true, Nat.reduceEqDiff, Nat.reduceAdd, Int.reduceLE, Int.reduceLT, Int.reduceEq, Int.reduceToNat, Int.toNat_natCast, Int.cast_ofNat_Int, Int.natCast_one, Nat.reduceMod, Nat.reduceDiv, UInt8.reduceToNat, Nat.reduceLT]
    · intro h e' h2
      rw [List.drop_zero] at h
      rw [h]
      simp (config := {contextual := true, implicitDefEqProofs := false, maxSteps := 4000000}) only [go_sem, ↓reduceIte, Bool.false_eq_true, Nat.reduceEqDiff, Nat.reduceAdd, Int.reduceLE, Int.reduceLT, Int.reduceEq, Int.reduceToNat, Int.toNat_natCast, Int.cast_ofNat_Int, Int.natCast_one, Nat.reduceMod, Nat.reduceDiv, UInt8.reduceToNat, Nat.reduceLT, h2]
def validR (t : Tok) : Bool :=
  if t.k = 1 then wordR t.t && decide (t.n = 0)
  else if t.k = 2 then decide (t.t = []) && (decide (-1000000000000 ≤ t.n) && decide (t.n ≤ 1000000000000))
  else if t.k = 3 then labB t.t && decide (t.n = 0)
  else if t.k = 4 then decide (t.t = []) && (decide (0 ≤ t.n) && decide (t.n < 1440))
  else if t.k = 5 then ((dateB t.t).1 && (dateB t.t).2) && decide (t.n = 0)
  else if t.k = 6 then signB t.t && decide (t.n = 0)
  else false
theorem c13 (t : Tok) (hl : t.t.length ≤ 100000) (s : St) (K : AV → St → Prop) : CallW cx 13 [tokO t] s K = K (.bool (validR t)) s := by
  refine CallW.eq (CallW.fn' (fn := ir13) rfl rfl (by kernel_rfl) ir13.eq_1 ?_) K
  obtain ⟨k, a, n, p⟩ := t
  simp only at hl
  unfold validR
  simp only
  have kw := fun st K => c32 a (by omega) st K
  have kl := fun st K => c21 a (by omega) st K
  have kd := fun st K => c33 a hl st K
  have ks := fun st K => c34 a st K
  by_cases h1 : k = 1
  · have d1 : decide (k = 1) = true := decide_eq_true h1
    rw [if_pos h1]
    cases hw : wordR a with
    | false => rw [hw] at kw; simp (config := {contextual := true, implicitDefEqProofs := false, maxSteps := 4000000}) only [go_sem, ↓reduceIte, Bool.false_eq_true, Nat.reduceEqDiff, Nat.reduceAdd, Int.reduceLE, Int.reduceLT, Int.reduceEq, Int.reduceToNat, Int.toNat_natCast, Int.cast_ofNat_Int, Int.natCast_one, Nat.reduceMod, Nat.reduceDiv, UInt8.reduceToNat, Nat.reduceLT, d1, kw]
    | true => rw [hw] at kw; simp (config := {contextual := true, implicitDefEqProofs := false, maxSteps := 4000000}) only [go_sem, ↓reduceIte, Bool.false_eq_true, Nat.reduceEqDiff, Nat.reduceAdd, Int.reduceLE, Int.reduceLT, Int.reduceEq, Int.reduceToNat, Int.toNat_natCast, Int.cast_ofNat_Int, Int.natCast_one, Nat.reduceMod, Nat.reduceDiv, UInt8.reduceToNat, Nat.reduceLT, d1, kw]
  have d1 : decide (k = 1) = false := decide_eq_false h1
  rw [if_neg h1]
  by_cases h2 : k = 2
  · have d2 : decide (k = 2) = true := decide_eq_true h2
    rw [if_pos h2]
    cases e1 : decide (a = []) with
    | false => simp (config := {contextual := true, implicitDefEqProofs := false, maxSteps := 4000000}) only [go_sem, ↓reduceIte, Bool.false_eq_true, Nat.reduceEqDiff, Nat.reduceAdd, Int.reduceLE, Int.reduceLT, Int.reduceEq, Int.reduceToNat, Int.toNat_natCast, Int.cast_ofNat_Int, Int.natCast_one, Nat.reduceMod, Nat.reduceDiv, UInt8.reduceToNat, Nat.reduceLT, d1, d2, e1]
    | true =>
      cases e2 : decide ((-1000000000000 : Int) ≤ n) with
      | false => simp (config := {contextual := true, implicitDefEqProofs := false, maxSteps := 4000000}) only [go_sem, ↓reduceIte, Bool.false_eq_true, Nat.reduceEqDiff, Nat.reduceAdd, Int.reduceLE, Int.reduceLT, Int.reduceEq, Int.reduceToNat, Int.toNat_natCast, Int.cast_ofNat_Int, Int.natCast_one, Nat.reduceMod, Nat.reduceDiv, UInt8.reduceToNat, Nat.reduceLT, d1, d2, e1, e2]
      | true => simp (config := {contextual := true, implicitDefEqProofs := false, maxSteps := 4000000}) only [go_sem, ↓reduceIte, Bool.false_eq_true, Nat.reduceEqDiff, Nat.reduceAdd, Int.reduceLE, Int.reduceLT, Int.reduceEq, Int.reduceToNat, Int.toNat_natCast, Int.cast_ofNat_Int, Int.natCast_one, Nat.reduceMod, Nat.reduceDiv, UInt8.reduceToNat, Nat.reduceLT, d1, d2, e1, e2]
  have d2 : decide (k = 2) = false := decide_eq_false h2
  rw [if_neg h2]
  by_cases h3 : k = 3
  · have d3 : decide (k = 3) = true := decide_eq_true h3
    rw [if_pos h3]
    cases hw : labB a with
    | false => rw [hw] at kl; simp (config := {contextual := true, implicitDefEqProofs := false, maxSteps := 4000000}) only [go_sem, ↓reduceIte, Bool.false_eq_true, Nat.reduceEqDiff, Nat.reduceAdd, Int.reduceLE, Int.reduceLT, Int.reduceEq, Int.reduceToNat, Int.toNat_natCast, Int.cast_ofNat_Int, Int.natCast_one, Nat.reduceMod, Nat.reduceDiv, UInt8.reduceToNat, Nat.reduceLT, d1, d2, d3, kl]
    | true => rw [hw] at kl; simp (config := {contextual := true, implicitDefEqProofs := false, maxSteps := 4000000}) only [go_sem, ↓reduceIte, Bool.false_eq_true, Nat.reduceEqDiff, Nat.reduceAdd, Int.reduceLE, Int.reduceLT, Int.reduceEq, Int.reduceToNat, Int.toNat_natCast, Int.cast_ofNat_Int, Int.natCast_one, Nat.reduceMod, Nat.reduceDiv, UInt8.reduceToNat, Nat.reduceLT, d1, d2, d3, kl]
  have d3 : decide (k = 3) = false := decide_eq_false h3
  rw [if_neg h3]
  by_cases h4 : k = 4
  · have d4 : decide (k = 4) = true := decide_eq_true h4
    rw [if_pos h4]
    cases e1 : decide (a = []) with
    | false => simp (config := {contextual := true, implicitDefEqProofs := false, maxSteps := 4000000}) only [go_sem, ↓reduceIte, Bool.false_eq_true, Nat.reduceEqDiff, Nat.reduceAdd, Int.reduceLE, Int.reduceLT, Int.reduceEq, Int.reduceToNat, Int.toNat_natCast, Int.cast_ofNat_Int, Int.natCast_one, Nat.reduceMod, Nat.reduceDiv, UInt8.reduceToNat, Nat.reduceLT, d1, d2, d3, d4, e1]
    | true =>
      cases e2 : decide ((0 : Int) ≤ n) with
      | false => simp (config := {contextual := true, implicitDefEqProofs := false, maxSteps := 4000000}) only [go_sem, ↓reduceIte, Bool.false_eq_true, Nat.reduceEqDiff, Nat.reduceAdd, Int.reduceLE, Int.reduceLT, Int.reduceEq, Int.reduceToNat, Int.toNat_natCast, Int.cast_ofNat_Int, Int.natCast_one, Nat.reduceMod, Nat.reduceDiv, UInt8.reduceToNat, Nat.reduceLT, d1, d2, d3, d4, e1, e2]
      | true => simp (config := {contextual := true, implicitDefEqProofs := false, maxSteps := 4000000}) only [go_sem, ↓reduceIte, Bool.false_eq_true, Nat.reduceEqDiff, Nat.reduceAdd, Int.reduceLE, Int.reduceLT, Int.reduceEq, Int.reduceToNat, Int.toNat_natCast, Int.cast_ofNat_Int, Int.natCast_one, Nat.reduceMod, Nat.reduceDiv, UInt8.reduceToNat, Nat.reduceLT, d1, d2, d3, d4, e1, e2]
  have d4 : decide (k = 4) = false := decide_eq_false h4
  rw [if_neg h4]
  by_cases h5 : k = 5
  · have d5 : decide (k = 5) = true := decide_eq_true h5
    rw [if_pos h5]
    cases e1 : (dateB a).1 with
    | false => rw [e1] at kd; simp (config := {contextual := true, implicitDefEqProofs := false, maxSteps := 4000000}) only [go_sem, ↓reduceIte, Bool.false_eq_true, Nat.reduceEqDiff, Nat.reduceAdd, Int.reduceLE, Int.reduceLT, Int.reduceEq, Int.reduceToNat, Int.toNat_natCast, Int.cast_ofNat_Int, Int.natCast_one, Nat.reduceMod, Nat.reduceDiv, UInt8.reduceToNat, Nat.reduceLT, d1, d2, d3, d4, d5, kd]
    | true =>
      rw [e1] at kd
      cases e2 : (dateB a).2 with
      | false => rw [e2] at kd; simp (config := {contextual := true, implicitDefEqProofs := false, maxSteps := 4000000}) only [go_sem, ↓reduceIte, Bool.false_eq_true, Nat.reduceEqDiff, Nat.reduceAdd, Int.reduceLE, Int.reduceLT, Int.reduceEq, Int.reduceToNat, Int.toNat_natCast, Int.cast_ofNat_Int, Int.natCast_one, Nat.reduceMod, Nat.reduceDiv, UInt8.reduceToNat, Nat.reduceLT, d1, d2, d3, d4, d5, kd]
      | true => rw [e2] at kd; simp (config := {contextual := true, implicitDefEqProofs := false, maxSteps := 4000000}) only [go_sem, ↓reduceIte, Bool.false_eq_true, Nat.reduceEqDiff, Nat.reduceAdd, Int.reduceLE, Int.reduceLT, Int.reduceEq, Int.reduceToNat, Int.toNat_natCast, Int.cast_ofNat_Int, Int.natCast_one, Nat.reduceMod, Nat.reduceDiv, UInt8.reduceToNat, Nat.reduceLT, d1, d2, d3, d4, d5, kd]
  have d5 : decide (k = 5) = false := decide_eq_false h5
  rw [if_neg h5]
  by_cases h6 : k = 6
  · have d6 : decide (k = 6) = true := decide_eq_true h6
    rw [if_pos h6]
    cases hw : signB a with
    | false => rw [hw] at ks; simp (config := {contextual := true, implicitDefEqProofs := false, maxSteps := 4000000}) only [go_sem, ↓reduceIte, Bool.false_eq_true, Nat.reduceEqDiff, Nat.reduceAdd, Int.reduceLE, Int.reduceLT, Int.reduceEq, Int.reduceToNat, Int.toNat_natCast, Int.cast_ofNat_Int, Int.natCast_one, Nat.reduceMod, Nat.reduceDiv, UInt8.reduceToNat, Nat.reduceLT, d1, d2, d3, d4, d5, d6, ks]
    | true => rw [hw] at ks; simp (config := {contextual := true, implicitDefEqProofs := false, maxSteps := 4000000}) only [go_sem, ↓reduceIte, Bool.false_eq_true, Nat.reduceEqDiff, Nat.reduceAdd, Int.reduceLE, Int.reduceLT, Int.reduceEq, Int.reduceToNat, Int.toNat_natCast, Int.cast_ofNat_Int, Int.natCast_one, Nat.reduceMod, Nat.reduceDiv, UInt8.reduceToNat, Nat.reduceLT, d1, d2, d3, d4, d5, d6, ks]
  have d6 : decide (k = 6) = false := decide_eq_false h6
  rw [if_neg h6]
  simp (config := {contextual := true, implicitDefEqProofs := false, maxSteps := 4000000}) only [go_sem, ↓reduceIte, Bool.false_eq_true, Nat.reduceEqDiff, Nat.reduceAdd, Int.reduceLE, Int.reduceLT, Int.reduceEq, Int.reduceToNat, Int.toNat_natCast, Int.cast_ofNat_Int, Int.natCast_one, Nat.reduceMod, Nat.reduceDiv, UInt8.reduceToNat, Nat.reduceLT, d1, d2, d3, d4, d5, d6]
end T17

/- Runs of figures: what they are. -/
namespace T17
open Go Fw Go.Proofs
set_option maxRecDepth 100000
theorem run_full (p : Nat → Bool) : ∀ k i, (∀ j, i ≤ j → j < i + k → p j = true) → runI p k i = i + k
  | 0, i, _ => rfl
  | k + 1, i, h => by
    simp only [runI]
    rw [if_pos (h i (Nat.le_refl _) (by omega)), run_full p k (i + 1) (fun j h1 h2 => h j (by omega) (by omega))]
    omega
theorem cut_whole (a : List UInt8) : cut a ((0 : Nat) : Int) (a.length : Int) = a := by unfold cut; simp
theorem clock_range (a : List UInt8) (h : (clockB a).2.2 = true) : 0 ≤ (clockB a).1 ∧ (clockB a).1 < 1440 := by
  unfold clockB at h ⊢
  split at h
  · rename_i hf
    rw [if_pos hf]
    simp only [Bool.and_eq_true, decide_eq_true_eq] at h ⊢
    have h1 : 0 ≤ clockH a := by unfold clockH dg; omega
    have h2 : 0 ≤ clockM a := by unfold clockM dg; omega
    omega
  · cases h
theorem number_range (a : List UInt8) (h : (numberB a).2 = 0) : -1000000000000 ≤ (numberB a).1 ∧ (numberB a).1 ≤ 1000000000000 := by
  unfold numberB at h ⊢
  generalize decide (a.head? = some (45 : UInt8)) = neg at *
  generalize (cutB 46 (bodyB a)).1 = w at *
  generalize (cutB 46 (bodyB a)).2.1 = f at *
  generalize (cutB 46 (bodyB a)).2.2 = pt at *
  unfold numbB at h ⊢
  split at h
  · cases h
  rename_i h1
  rw [if_neg h1]
  split at h
  · cases h
  rename_i h2
  rw [if_neg h2]
  split at h
  · cases h
  rename_i h3
  rw [if_neg h3]
  split at h
  · cases h
  rename_i h4
  rw [if_neg h4]
  split at h
  · cases h
  rename_i h5
  rw [if_neg h5]
  simp only
  split <;> omega
/-- What a run of figures is. -/
theorem fig_cases (s : List UInt8) (h : (figT s).2 = 0) : (∃ n, (figT s).1 = ⟨4, [], n, 0⟩ ∧ 0 ≤ n ∧ n < 1440) ∨ ((figT s).1 = ⟨5, s, 0, 0⟩) ∨ ∃ n, (figT s).1 = ⟨2, [], n, 0⟩ ∧ -1000000000000 ≤ n ∧ n ≤ 1000000000000 := by
  unfold figT at h ⊢
  split at h
  · rename_i h1
    rw [if_pos h1]
    split at h
    · rename_i h2
      rw [if_pos h2]
      exact .inl ⟨_, rfl, clock_range s h2⟩
    · cases h
  rename_i h1
  rw [if_neg h1]
  split at h
  · rename_i h2
    rw [if_pos h2]
    split at h
    · rename_i h3
      rw [if_pos h3]
      exact .inr (.inl rfl)
    · cases h
  rename_i h2
  rw [if_neg h2]
  split at h
  · rename_i h3
    exact absurd h h3
  · rename_i h3
    rw [if_neg h3]
    exact .inr (.inr ⟨_, rfl, number_range s (by simpa using h3)⟩)
end T17

/- Possible tokens: the reference and the lexer agree. -/
namespace T17
open Go Fw Go.Proofs
set_option maxRecDepth 100000
theorem word_eq (a : List UInt8) : (decide (a ≠ []) && (decide ((nextB a 0).2.2 = 0) && (decide ((nextB a 0).2.1 = a.length) && decide ((nextB a 0).1.k = 1)))) = wordR a := by
  unfold wordR
  by_cases h0 : a = []
  · subst h0; rfl
  have hp : 0 < a.length := List.length_pos_iff.2 h0
  rw [decide_eq_true h0, decide_eq_true (show 1 ≤ a.length by omega)]
  simp only [Bool.true_and]
  unfold nextB
  by_cases h1 : isLet (a.getD 0 0) = true
  · rw [if_pos h1, h1, Bool.true_and]
    have hr := runB_all isWd a
    unfold wordB
    by_cases h49 : 49 < runB isWd a 0 - 0
    · rw [if_pos h49]
      have : (decide (a.length ≤ 49) && a.all isWd) = false := by
        rw [← hr, Bool.eq_false_iff]
        intro h
        simp only [Bool.and_eq_true, decide_eq_true_eq] at h
        omega
      rw [this]
      rfl
    · rw [if_neg h49, ← hr]
      simp only
      by_cases hrl : runB isWd a 0 = a.length
      · rw [decide_eq_true hrl, decide_eq_true (show a.length ≤ 49 by omega)]; rfl
      · rw [decide_eq_false hrl]; simp
  rw [if_neg h1]
  have h1' : isLet (a.getD 0 0) = false := by simpa using h1
  rw [h1', Bool.false_and, Bool.and_false]
  by_cases h2 : (isD (a.getD 0 0) || (decide (a.getD 0 0 = 45) || decide (a.getD 0 0 = 42))) = true
  · rw [if_pos h2]
    unfold numB
    simp only
    generalize cut a ((0 : Nat) : Int) (fend a 0 : Int) = s
    by_cases hz : (figT s).2 = 0
    · have : decide ((figT s).1.k = 1) = false := by
        apply decide_eq_false
        rcases fig_cases s hz with ⟨n, hf, _⟩ | hf | ⟨n, hf, _⟩
        · rw [hf]; exact (by decide : ¬ (4 : Int) = 1)
        · rw [hf]; exact (by decide : ¬ (5 : Int) = 1)
        · rw [hf]; exact (by decide : ¬ (2 : Int) = 1)
      rw [this]; simp
    · rw [decide_eq_false hz]; rfl
  rw [if_neg h2]
  by_cases h3 : decide (a.getD 0 0 = 34) = true
  · rw [if_pos h3]
    unfold textB
    rcases findByte_spec 34 (a.drop (0 + 1)) 0 with hf | ⟨n, hf, _, hn⟩
    · rw [hf]; rfl
    · rw [hf]
      simp only
      split
      · split
        · simp
        · rfl
      · rfl
  rw [if_neg h3]
  split
  · simp
  · rfl
theorem sign_eq (a : List UInt8) : (decide (a ≠ []) && (decide ((nextB a 0).2.2 = 0) && (decide ((nextB a 0).2.1 = a.length) && decide ((nextB a 0).1.k = 6)))) = signB a := by
  match a with
  | [] => rfl
  | [b] =>
    have h : ∀ i : Fin 256, (decide (([UInt8.ofNat i.val] : List UInt8) ≠ []) && (decide ((nextB [UInt8.ofNat i.val] 0).2.2 = 0) && (decide ((nextB [UInt8.ofNat i.val] 0).2.1 = 1) && decide ((nextB [UInt8.ofNat i.val] 0).1.k = 6)))) = signB [UInt8.ofNat i.val] := by decide +kernel
    have h2 := h ⟨b.toNat, b.toNat_lt⟩
    simpa using h2
  | b :: c :: l =>
    have hs : signB (b :: c :: l) = false := by unfold signB; simp
    rw [hs, Bool.eq_false_iff]
    intro h
    simp only [Bool.and_eq_true, decide_eq_true_eq] at h
    obtain ⟨_, h0, h1, h6⟩ := h
    generalize hla : (b :: c :: l) = a at *
    have hlen : 2 ≤ a.length := by rw [← hla]; simp
    unfold nextB at h0 h1 h6
    by_cases e1 : isLet (a.getD 0 0) = true
    · rw [if_pos e1] at h6
      unfold wordB at h6
      split at h6 <;> simp [noT] at h6
    rw [if_neg e1] at h0 h1 h6
    by_cases e2 : (isD (a.getD 0 0) || (decide (a.getD 0 0 = 45) || decide (a.getD 0 0 = 42))) = true
    · rw [if_pos e2] at h0 h6
      unfold numB at h0 h6
      simp only at h0 h6
      rcases fig_cases _ h0 with ⟨n, hf, _⟩ | hf | ⟨n, hf, _⟩
      · rw [hf] at h6; simp at h6
      · rw [hf] at h6; simp at h6
      · rw [hf] at h6; simp at h6
    rw [if_neg e2] at h0 h1 h6
    by_cases e3 : decide (a.getD 0 0 = 34) = true
    · rw [if_pos e3] at h6
      unfold textB at h6
      rcases findByte_spec 34 (a.drop (0 + 1)) 0 with hf | ⟨n, hf, _, hn⟩
      · rw [hf] at h6; cases h6
      · rw [hf] at h6
        simp only at h6
        split at h6
        · split at h6
          · simp at h6
          · simp [noT] at h6
        · simp [noT] at h6
    rw [if_neg e3] at h1 h6
    split at h1
    · simp only at h1; omega
    · rename_i h7
      rw [if_neg h7] at h6
      simp [noT] at h6
/-- Parts glued. -/
def glue (c : UInt8) : List (List UInt8) → List UInt8
  | [] => []
  | [x] => x
  | x :: y :: l => x ++ c :: glue c (y :: l)
theorem glue_split (c : UInt8) : ∀ a : List UInt8, glue c (splitB c a) = a
  | [] => rfl
  | b :: l => by
    have ih := glue_split c l
    have hne := splitB_ne c l
    simp only [splitB]
    split
    · rename_i hb
      cases hs : splitB c l with
      | nil => exact absurd hs hne
      | cons x xs =>
        rw [hs] at ih
        simp only [glue, List.nil_append]
        rw [ih, hb]
    · cases hs : splitB c l with
      | nil => exact absurd hs hne
      | cons x xs =>
        rw [hs] at ih
        cases xs with
        | nil => simp only [glue] at ih ⊢; rw [ih]
        | cons y ys => simp only [glue, List.cons_append] at ih ⊢; rw [ih]
def isG (b : UInt8) : Bool := isD b || (decide (b = 45) || decide (b = 42))
theorem part_G {x : List UInt8} {n : Nat} (h : partB x n = true) : x.all isG = true := by
  unfold partB at h
  simp only [Bool.or_eq_true, Bool.and_eq_true, decide_eq_true_eq] at h
  rcases h with rfl | ⟨_, h⟩
  · rfl
  · exact List.all_eq_true.2 fun b hb => by unfold isG; rw [List.all_eq_true.1 h b hb]; rfl
theorem date_G (a : List UInt8) (h : (dateB a).1 = true) : a.all isG = true ∧ a ≠ [] ∧ a.getD 0 0 ≠ 45 := by
  have hg := glue_split 45 a
  unfold dateB at h
  split at h
  · rename_i y m d hs
    rw [hs] at hg
    simp only [glue] at hg
    split at h
    · rename_i hp
      simp only [Bool.and_eq_true] at hp
      have hy := part_G hp.1
      have hm := part_G hp.2.1
      have hd := part_G hp.2.2
      have hc : isG 45 = true := rfl
      have hy1 := hp.1
      unfold partB at hy1
      simp only [Bool.or_eq_true, Bool.and_eq_true, decide_eq_true_eq] at hy1
      rw [← hg]
      refine ⟨by simp [hy, hm, hd, hc], by simp, ?_⟩
      rcases hy1 with rfl | ⟨h4, h5⟩
      · exact (by decide : (42 : UInt8) ≠ 45)
      · match y, h4 with
        | q :: l, _ =>
          simp only [List.all_cons, Bool.and_eq_true] at h5
          intro e
          have e : q = 45 := e
          rw [e] at h5
          exact absurd h5.1 (by decide)
    · cases h
  · cases h
theorem date_eq (a : List UInt8) : (decide (a ≠ []) && (decide ((nextB a 0).2.2 = 0) && (decide ((nextB a 0).2.1 = a.length) && decide ((nextB a 0).1.k = 5)))) = ((dateB a).1 && (dateB a).2) := by
  cases hd : (dateB a).1 with
  | true =>
    obtain ⟨hG, hne, h45⟩ := date_G a hd
    have hp : 0 < a.length := List.length_pos_iff.2 hne
    have h0 : isG (a.getD 0 0) = true := getD_all hG hp
    have h0L : isLet (a.getD 0 0) = false := by
      unfold isG at h0
      simp only [Bool.or_eq_true, decide_eq_true_eq] at h0
      rcases h0 with h | h | h
      · have h2 := h
        unfold isD at h2
        simp only [Bool.and_eq_true, decide_eq_true_eq] at h2
        unfold isLet
        rw [decide_eq_false (show ¬ 97 ≤ (a.getD 0 0).toNat by omega), decide_eq_false (show ¬ 65 ≤ (a.getD 0 0).toNat by omega)]
        rfl
      · rw [h]; rfl
      · rw [h]; rfl
    have hcl : (clockB a).2.1 = false := by
      have : clockF a = false := by
        unfold clockF
        have h2 : a.getD 2 0 ≠ 58 := by
          intro e
          by_cases hi : 2 < a.length
          · have h3 := getD_all hG hi
            rw [e] at h3
            exact absurd h3 (by decide)
          · have : a.getD 2 0 = 0 := by simp [List.getD, Nat.le_of_not_lt hi]
            rw [this] at e; exact absurd e (by decide)
        rw [decide_eq_false h2]; simp
      unfold clockB
      rw [this]; rfl
    have hfe : fend a 0 = a.length := by
      unfold fend
      rw [run_full _ _ _ (fun j _ h2 => ?_)]
      · omega
      · have h3 : isG (a.getD j 0) = true := getD_all hG (by omega)
        unfold belB
        unfold isG at h3
        simp only [Bool.or_eq_true, decide_eq_true_eq] at h3
        rcases h3 with h | h | h
        · rw [h]; rfl
        · rw [h, show decide (0 ≤ findByte (45 : UInt8) [45, 42, 46] 0) = true from rfl]; simp
        · rw [h, show decide (0 ≤ findByte (42 : UInt8) [45, 42, 46] 0) = true from rfl]; simp
    have hcw := cut_whole a
    have hnx : nextB a 0 = ((figT a).1, a.length, (figT a).2) := by
      unfold nextB
      rw [h0L, if_neg (by decide)]
      unfold isG at h0
      rw [h0, if_pos rfl]
      unfold numB
      rw [hfe, hcw]
    rw [hnx, decide_eq_true hne]
    unfold figT
    rw [hcl, hd, if_neg (by decide), if_pos rfl]
    cases hd2 : (dateB a).2 with
    | true => rw [if_pos rfl]; simp
    | false => rw [if_neg (by decide)]; rfl
  | false =>
    rw [Bool.false_and, Bool.eq_false_iff]
    intro h
    simp only [Bool.and_eq_true, decide_eq_true_eq] at h
    obtain ⟨hne, h0, h1, h5⟩ := h
    unfold nextB at h0 h1 h5
    by_cases e1 : isLet (a.getD 0 0) = true
    · rw [if_pos e1] at h5
      unfold wordB at h5
      split at h5 <;> simp [noT] at h5
    rw [if_neg e1] at h0 h1 h5
    by_cases e2 : (isD (a.getD 0 0) || (decide (a.getD 0 0 = 45) || decide (a.getD 0 0 = 42))) = true
    · rw [if_pos e2] at h0 h1 h5
      unfold numB at h0 h1 h5
      simp only at h0 h1 h5
      rw [h1] at h0 h5
      have hcw := cut_whole a
      rw [hcw] at h0 h5
      unfold figT at h0 h5
      split at h5
      · split at h5 <;> simp [noT] at h5
      · rw [hd, if_neg (by decide)] at h5
        split at h5 <;> simp [noT] at h5
    rw [if_neg e2] at h0 h1 h5
    by_cases e3 : decide (a.getD 0 0 = 34) = true
    · rw [if_pos e3] at h5
      unfold textB at h5
      rcases findByte_spec 34 (a.drop (0 + 1)) 0 with hf | ⟨n, hf, _, hn⟩
      · rw [hf] at h5; cases h5
      · rw [hf] at h5
        simp only at h5
        split at h5
        · split at h5
          · simp at h5
          · simp [noT] at h5
        · simp [noT] at h5
    rw [if_neg e3] at h5
    split at h5 <;> simp [noT] at h5
theorem valid_eq (t : Tok) : validR t = validB t := by
  obtain ⟨k, a, n, p⟩ := t
  unfold validR validB
  simp only
  by_cases h1 : k = 1
  · subst h1
    rw [if_pos rfl, if_neg (by decide), if_neg (by decide), if_neg (by decide), if_pos (.inl rfl), word_eq, Bool.and_comm]
  rw [if_neg h1]
  by_cases h2 : k = 2
  · rw [if_pos h2, if_pos h2]
  rw [if_neg h2, if_neg h2]
  by_cases h3 : k = 3
  · subst h3
    rw [if_pos rfl, if_neg (by decide), if_pos rfl, Bool.and_comm]
  rw [if_neg h3]
  by_cases h4 : k = 4
  · rw [if_pos h4, if_pos h4]
  rw [if_neg h4, if_neg h4, if_neg h3]
  by_cases h5 : k = 5
  · subst h5
    rw [if_pos rfl, if_pos (.inr (.inl rfl)), date_eq, Bool.and_comm]
  rw [if_neg h5]
  by_cases h6 : k = 6
  · subst h6
    rw [if_pos rfl, if_pos (.inr (.inr rfl)), sign_eq, Bool.and_comm]
  rw [if_neg h6, if_neg (by omega)]
end T17
