/- Parts of the proof, one behind the other. -/
import Derived.Test.YtofeijldadameaaDoorK01s
import Derived.Test.YtofeijldadameaaDoorK01aw
import Derived.Test.YtofeijldadameaaDoorFwG
set_option linter.unusedSimpArgs false
set_option linter.unusedVariables false
/- The reference's quotient, rounded; sums of two words. -/
namespace T01
open Go Fw Go.Proofs
set_option maxRecDepth 100000
set_option linter.unusedSimpArgs false
set_option linter.unusedVariables false
theorem c46 (hi lo c : Nat) (h : hi < c) (hc : c < 18446744073709551616) (hl : lo < 18446744073709551616) (s : St) (K : AV → St → Prop) :
    CallW cx 46 [.agg [.int .u64 (hi : Int), .int .u64 (lo : Int)], .int .u64 (c : Int)] s K = K (.tuple [.int .u64 (((hi * 18446744073709551616 + lo) / c : Nat) : Int), .int .u64 (((hi * 18446744073709551616 + lo) % c : Nat) : Int)]) s := by
  refine CallW.eq (CallW.fn' (fn := ir46) rfl rfl (by kernel_rfl) ir46.eq_1 ?_) K
  have d1 : decide (c ≤ hi) = false := by simp; omega
  simp (config := {contextual := true, implicitDefEqProofs := false, maxSteps := 4000000}) only [go_sem, ↓reduceIte, Bool.false_eq_true, Nat.reduceEqDiff, Nat.reduceAdd, Int.reduceLE, Int.reduceLT, Int.reduceEq, Int.reduceToNat, Int.toNat_natCast, Int.cast_ofNat_Int, Int.natCast_one, Nat.reduceMod, Nat.reduceDiv, UInt8.reduceToNat, Nat.reduceLT, leN, d1]
  refine l46 hi lo c h hc hl _ _ _ (by simp only [Fw.look, if_true]; rfl) _ 64 _ (Nat.le_refl _) rfl rfl rfl ?_ ?_ ?_
  · rw [pre_64 hi lo hl, Nat.mod_eq_of_lt h]; rfl
  · rw [pre_64 hi lo hl, Nat.div_eq_of_lt h]; rfl
  · intro e' h6 h7
    simp (config := {contextual := true, implicitDefEqProofs := false, maxSteps := 4000000}) only [go_sem, ↓reduceIte, Bool.false_eq_true, Nat.reduceEqDiff, Nat.reduceAdd, Int.reduceLE, Int.reduceLT, Int.reduceEq, Int.reduceToNat, Int.toNat_natCast, Int.cast_ofNat_Int, Int.natCast_one, Nat.reduceMod, Nat.reduceDiv, UInt8.reduceToNat, Nat.reduceLT, h6, h7]
theorem c46b (hi lo c : Nat) (h : c ≤ hi) (s : St) (K : AV → St → Prop) :
    CallW cx 46 [.agg [.int .u64 (hi : Int), .int .u64 (lo : Int)], .int .u64 (c : Int)] s K = K (.tuple [.int .u64 18446744073709551615, .int .u64 0]) s := by
  refine CallW.eq (CallW.fn' (fn := ir46) rfl rfl (by kernel_rfl) ir46.eq_1 ?_) K
  have d1 : decide (c ≤ hi) = true := by simp; omega
  simp (config := {contextual := true, implicitDefEqProofs := false, maxSteps := 4000000}) only [go_sem, ↓reduceIte, Bool.false_eq_true, Nat.reduceEqDiff, Nat.reduceAdd, Int.reduceLE, Int.reduceLT, Int.reduceEq, Int.reduceToNat, Int.toNat_natCast, Int.cast_ofNat_Int, Int.natCast_one, Nat.reduceMod, Nat.reduceDiv, UInt8.reduceToNat, Nat.reduceLT, leN, d1]
theorem c34 (hi lo c : Nat) (neg : Bool) (hc : 0 < c) (hc2 : c < 9223372036854775808) (hl : lo < 18446744073709551616) (s : St) (K : AV → St → Prop) :
    CallW cx 34 [.bool neg, .agg [.int .u64 (hi : Int), .int .u64 (lo : Int)], .int .u64 (c : Int)] s K = K (.int .i64 (sgn neg (lim (hi * 18446744073709551616 + lo) c))) s := by
  refine CallW.eq (CallW.fn' (fn := ir34) rfl rfl (by kernel_rfl) ir34.eq_1 ?_) K
  have w4 : IntKind.i64.wrap 1000000000000 = 1000000000000 := rfl
  have w5 : IntKind.i64.wrap (0 - 1000000000000) = -1000000000000 := rfl
  by_cases h : hi < c
  · have k46 := fun st K => c46 hi lo c h (by omega) hl st K
    have hr := Nat.mod_lt (hi * 18446744073709551616 + lo) hc
    obtain ⟨N, hN⟩ : ∃ N, hi * 18446744073709551616 + lo = N := ⟨_, rfl⟩
    rw [hN] at k46 hr ⊢
    obtain ⟨q, hq⟩ : ∃ q, N / c = q := ⟨_, rfl⟩
    obtain ⟨r, hrr⟩ : ∃ q, N % c = q := ⟨_, rfl⟩
    rw [hq, hrr] at k46
    rw [hrr] at hr
    have e1 := sub_c (Nat.le_of_lt hr) (show c < 18446744073709551616 by omega)
    by_cases h2 : q < 1000000000000
    · have d2 : decide (1000000000000 ≤ q) = false := by simp; omega
      by_cases h3 : c ≤ 2 * r
      · rw [lim_up hq hrr h2 h3]
        clear hN hq hrr
        have d3 : decide (c - r ≤ r) = true := by simp; omega
        have e2 : (q + 1) % 18446744073709551616 = q + 1 := by omega
        have e4 := wrap_pos (q + 1) (by omega)
        have e5 := wrap_neg (q + 1) (by omega)
        cases neg
        · simp (config := {contextual := true, implicitDefEqProofs := false, maxSteps := 4000000}) only [go_sem, ↓reduceIte, Bool.false_eq_true, Nat.reduceEqDiff, Nat.reduceAdd, Int.reduceLE, Int.reduceLT, Int.reduceEq, Int.reduceToNat, Int.toNat_natCast, Int.cast_ofNat_Int, Int.natCast_one, Nat.reduceMod, Nat.reduceDiv, UInt8.reduceToNat, Nat.reduceLT, k46, leU, leN, d2, d3, e1, addL, wrapN, e2, e4, sgn]
        · simp (config := {contextual := true, implicitDefEqProofs := false, maxSteps := 4000000}) only [go_sem, ↓reduceIte, Bool.false_eq_true, Nat.reduceEqDiff, Nat.reduceAdd, Int.reduceLE, Int.reduceLT, Int.reduceEq, Int.reduceToNat, Int.toNat_natCast, Int.cast_ofNat_Int, Int.natCast_one, Nat.reduceMod, Nat.reduceDiv, UInt8.reduceToNat, Nat.reduceLT, k46, leU, leN, d2, d3, e1, addL, wrapN, e2, e4, e5, sgn]
      · rw [lim_same hq hrr h2 h3]
        clear hN hq hrr
        have d3 : decide (c - r ≤ r) = false := by simp; omega
        have e4 := wrap_pos q (by omega)
        have e5 := wrap_neg q (by omega)
        cases neg
        · simp (config := {contextual := true, implicitDefEqProofs := false, maxSteps := 4000000}) only [go_sem, ↓reduceIte, Bool.false_eq_true, Nat.reduceEqDiff, Nat.reduceAdd, Int.reduceLE, Int.reduceLT, Int.reduceEq, Int.reduceToNat, Int.toNat_natCast, Int.cast_ofNat_Int, Int.natCast_one, Nat.reduceMod, Nat.reduceDiv, UInt8.reduceToNat, Nat.reduceLT, k46, leU, leN, d2, d3, e1, e4, sgn]
        · simp (config := {contextual := true, implicitDefEqProofs := false, maxSteps := 4000000}) only [go_sem, ↓reduceIte, Bool.false_eq_true, Nat.reduceEqDiff, Nat.reduceAdd, Int.reduceLE, Int.reduceLT, Int.reduceEq, Int.reduceToNat, Int.toNat_natCast, Int.cast_ofNat_Int, Int.natCast_one, Nat.reduceMod, Nat.reduceDiv, UInt8.reduceToNat, Nat.reduceLT, k46, leU, leN, d2, d3, e1, e4, e5, sgn]
    · have d2 : decide (1000000000000 ≤ q) = true := by simp; omega
      rw [lim_big hq (by omega)]
      cases neg
      · simp (config := {contextual := true, implicitDefEqProofs := false, maxSteps := 4000000}) only [go_sem, ↓reduceIte, Bool.false_eq_true, Nat.reduceEqDiff, Nat.reduceAdd, Int.reduceLE, Int.reduceLT, Int.reduceEq, Int.reduceToNat, Int.toNat_natCast, Int.cast_ofNat_Int, Int.natCast_one, Nat.reduceMod, Nat.reduceDiv, UInt8.reduceToNat, Nat.reduceLT, k46, leU, d2, w4, sgn]
      · simp (config := {contextual := true, implicitDefEqProofs := false, maxSteps := 4000000}) only [go_sem, ↓reduceIte, Bool.false_eq_true, Nat.reduceEqDiff, Nat.reduceAdd, Int.reduceLE, Int.reduceLT, Int.reduceEq, Int.reduceToNat, Int.toNat_natCast, Int.cast_ofNat_Int, Int.natCast_one, Nat.reduceMod, Nat.reduceDiv, UInt8.reduceToNat, Nat.reduceLT, k46, leU, d2, w4, w5, sgn]
  · have k46 := fun st K => c46b hi lo c (by omega) st K
    rw [big_quo hc (by omega)]
    cases neg
    · simp (config := {contextual := true, implicitDefEqProofs := false, maxSteps := 4000000}) only [go_sem, ↓reduceIte, Bool.false_eq_true, Nat.reduceEqDiff, Nat.reduceAdd, Int.reduceLE, Int.reduceLT, Int.reduceEq, Int.reduceToNat, Int.toNat_natCast, Int.cast_ofNat_Int, Int.natCast_one, Nat.reduceMod, Nat.reduceDiv, UInt8.reduceToNat, Nat.reduceLT, k46, w4, sgn]
    · simp (config := {contextual := true, implicitDefEqProofs := false, maxSteps := 4000000}) only [go_sem, ↓reduceIte, Bool.false_eq_true, Nat.reduceEqDiff, Nat.reduceAdd, Int.reduceLE, Int.reduceLT, Int.reduceEq, Int.reduceToNat, Int.toNat_natCast, Int.cast_ofNat_Int, Int.natCast_one, Nat.reduceMod, Nat.reduceDiv, UInt8.reduceToNat, Nat.reduceLT, k46, w4, w5, sgn]
theorem c33 (hi lo b : Nat) (hl : lo < 18446744073709551616) (hb : b < 18446744073709551616) (hh : hi + 1 < 18446744073709551616) (s : St) (K : AV → St → Prop) :
    CallW cx 33 [.agg [.int .u64 (hi : Int), .int .u64 (lo : Int)], .int .u64 (b : Int)] s K = K (.agg [.int .u64 ((hi + (lo + b) / 18446744073709551616 : Nat) : Int), .int .u64 (((lo + b) % 18446744073709551616 : Nat) : Int)]) s := by
  refine CallW.eq (CallW.fn' (fn := ir33) rfl rfl (by kernel_rfl) ir33.eq_1 ?_) K
  by_cases h : lo + b < 18446744073709551616
  · have d1 : decide ((lo + b) % 18446744073709551616 < lo) = false := by simp; omega
    simp (config := {contextual := true, implicitDefEqProofs := false, maxSteps := 4000000}) only [go_sem, ↓reduceIte, Bool.false_eq_true, Nat.reduceEqDiff, Nat.reduceAdd, Int.reduceLE, Int.reduceLT, Int.reduceEq, Int.reduceToNat, Int.toNat_natCast, Int.cast_ofNat_Int, Int.natCast_one, Nat.reduceMod, Nat.reduceDiv, UInt8.reduceToNat, Nat.reduceLT, addC, wrapN, ltC, d1]
    exact agg2 (by omega) rfl
  · have d1 : decide ((lo + b) % 18446744073709551616 < lo) = true := by simp; omega
    have e1 : (hi + 1) % 18446744073709551616 = hi + 1 := by omega
    simp (config := {contextual := true, implicitDefEqProofs := false, maxSteps := 4000000}) only [go_sem, ↓reduceIte, Bool.false_eq_true, Nat.reduceEqDiff, Nat.reduceAdd, Int.reduceLE, Int.reduceLT, Int.reduceEq, Int.reduceToNat, Int.toNat_natCast, Int.cast_ofNat_Int, Int.natCast_one, Nat.reduceMod, Nat.reduceDiv, UInt8.reduceToNat, Nat.reduceLT, addC, addL, wrapN, ltC, d1, e1]
    exact agg2 (by omega) rfl
theorem c35 (ah al bh bl : Nat) (hl : al < 18446744073709551616) (hb : bl < 18446744073709551616) (hh : ah < 18446744073709551616) (hle : bh * 18446744073709551616 + bl ≤ ah * 18446744073709551616 + al) (s : St) (K : AV → St → Prop) :
    CallW cx 35 [.agg [.int .u64 (ah : Int), .int .u64 (al : Int)], .agg [.int .u64 (bh : Int), .int .u64 (bl : Int)]] s K =
      K (.agg [.int .u64 (((ah * 18446744073709551616 + al - (bh * 18446744073709551616 + bl)) / 18446744073709551616 : Nat) : Int), .int .u64 (((ah * 18446744073709551616 + al - (bh * 18446744073709551616 + bl)) % 18446744073709551616 : Nat) : Int)]) s := by
  refine CallW.eq (CallW.fn' (fn := ir35) rfl rfl (by kernel_rfl) ir35.eq_1 ?_) K
  have e1 : IntKind.u64.wrap ((ah : Int) - (bh : Int)) = ((ah - bh : Nat) : Int) := by rw [wrap_u64]; omega
  have e2 : IntKind.u64.wrap ((al : Int) - (bl : Int)) = (((al + 18446744073709551616 - bl) % 18446744073709551616 : Nat) : Int) := by rw [wrap_u64]; omega
  by_cases h : al < bl
  · have d1 : decide (al < bl) = true := by simpa using h
    have e3 : IntKind.u64.wrap (((ah - bh : Nat) : Int) - 1) = ((ah - bh - 1 : Nat) : Int) := by rw [wrap_u64]; omega
    simp (config := {contextual := true, implicitDefEqProofs := false, maxSteps := 4000000}) only [go_sem, ↓reduceIte, Bool.false_eq_true, Nat.reduceEqDiff, Nat.reduceAdd, Int.reduceLE, Int.reduceLT, Int.reduceEq, Int.reduceToNat, Int.toNat_natCast, Int.cast_ofNat_Int, Int.natCast_one, Nat.reduceMod, Nat.reduceDiv, UInt8.reduceToNat, Nat.reduceLT, ltC, d1, e1, e2, e3]
    exact agg2 (by omega) (by omega)
  · have d1 : decide (al < bl) = false := by simpa using h
    simp (config := {contextual := true, implicitDefEqProofs := false, maxSteps := 4000000}) only [go_sem, ↓reduceIte, Bool.false_eq_true, Nat.reduceEqDiff, Nat.reduceAdd, Int.reduceLE, Int.reduceLT, Int.reduceEq, Int.reduceToNat, Int.toNat_natCast, Int.cast_ofNat_Int, Int.natCast_one, Nat.reduceMod, Nat.reduceDiv, UInt8.reduceToNat, Nat.reduceLT, ltC, d1, e1, e2]
    exact agg2 (by omega) (by omega)
theorem c27 (x y : Nat) (hx : x < 18446744073709551616) (hy : y < 18446744073709551616) (s : St) (K : AV → St → Prop) :
    CallW cx 27 [.int .u64 (x : Int), .int .u64 (y : Int), .int .u64 0] s K = K (.tuple [.int .u64 (((x + y) % 18446744073709551616 : Nat) : Int), .int .u64 (((x + y) / 18446744073709551616 : Nat) : Int)]) s := by
  have h : xAdd64 [.int .u64 (x : Int), .int .u64 (y : Int), .int .u64 0] s = some (.tuple [.int .u64 (((x + y) % 18446744073709551616 : Nat) : Int), .int .u64 (((x + y) / 18446744073709551616 : Nat) : Int)], s) := by
    simp only [xAdd64]
    rw [if_pos ⟨by omega, by omega, by omega, by omega⟩, Int.add_zero]; rfl
  exact CallW.eq (CallW.ext (g := xAdd64) rfl (by rw [h, oget_some]; exact ⟨rfl, rfl⟩)) K
theorem c29 (x y : Nat) (hx : x < 18446744073709551616) (hy : y < 18446744073709551616) (s : St) (K : AV → St → Prop) :
    CallW cx 29 [.int .u64 (x : Int), .int .u64 (y : Int), .int .u64 0] s K = K (.tuple [.int .u64 (((x + 18446744073709551616 - y) % 18446744073709551616 : Nat) : Int), .int .u64 ((if x < y then 1 else 0 : Nat) : Int)]) s := by
  have h : xSub64 [.int .u64 (x : Int), .int .u64 (y : Int), .int .u64 0] s = some (.tuple [.int .u64 (((x + 18446744073709551616 - y) % 18446744073709551616 : Nat) : Int), .int .u64 ((if x < y then 1 else 0 : Nat) : Int)], s) := by
    simp only [xSub64]
    rw [if_pos ⟨by omega, by omega, by omega, by omega, by omega⟩]
    have e1 : ((x : Int) + 18446744073709551616 - (y : Int) - 0) % 18446744073709551616 = (((x + 18446744073709551616 - y) % 18446744073709551616 : Nat) : Int) := by omega
    have e2 : (if (x : Int) < (y : Int) + 0 then (1 : Int) else 0) = ((if x < y then 1 else 0 : Nat) : Int) := by split <;> split <;> omega
    rw [e1, e2]
  exact CallW.eq (CallW.ext (g := xSub64) rfl (by rw [h, oget_some]; exact ⟨rfl, rfl⟩)) K

/- the line -/
def lineC (x x1 y1 x2 y2 : Int) : Int :=
  if x2 ≤ x1 then (if x < x1 then y1 else y2) else if x ≤ x1 then y1 else if x2 ≤ x then y2 else rndI (y1 * (x2 - x) + y2 * (x - x1)) (x2 - x1).natAbs
def lineI (x x1 y1 x2 y2 : Int) : Int := lineC (clampI x) (clampI x1) (clampI y1) (clampI x2) (clampI y2)
theorem prod_lt {a b : Nat} (ha : a ≤ 2000000000000) (hb : b ≤ 2000000000000) : a * b ≤ 4000000000000000000000000 := Nat.mul_le_mul ha hb
theorem natAbs_le {n : Int} (h1 : -2000000000000 ≤ n) (h2 : n ≤ 2000000000000) : n.natAbs ≤ 2000000000000 := by omega
theorem sgn_eq (n : Int) : sgn (decide (n < 0)) n.natAbs = n := by unfold sgn; split <;> rename_i h <;> simp at h <;> omega
theorem sgn_abs (n : Int) (b : Bool) (h : b = decide (n < 0)) : sgn b n.natAbs = n := by rw [h]; exact sgn_eq n
theorem sgn_mul (n : Int) (m : Nat) (b : Bool) (h : b = decide (n < 0)) : sgn b (n.natAbs * m) = n * m := by
  rw [h]; unfold sgn
  split
  · rename_i h; simp at h
    have : n = -(n.natAbs : Int) := by omega
    rw [Int.natCast_mul]; conv => rhs; rw [this]
    rw [Int.neg_mul]
  · rename_i h; simp at h
    have : n = (n.natAbs : Int) := by omega
    rw [Int.natCast_mul]; conv => rhs; rw [this]
theorem sgn_add (b : Bool) (m n : Nat) : sgn b (m + n) = sgn b m + sgn b n := by unfold sgn; split <;> omega
theorem sgn_sub (b : Bool) (m n : Nat) (h : n ≤ m) : sgn b (m - n) = sgn b m + sgn (!b) n := by unfold sgn; cases b <;> simp <;> omega
theorem wide_add (A B : Nat) : (A / 18446744073709551616 + B / 18446744073709551616 + (A % 18446744073709551616 + B % 18446744073709551616) / 18446744073709551616) * 18446744073709551616 + (A % 18446744073709551616 + B % 18446744073709551616) % 18446744073709551616 = A + B := by omega
theorem split_w (A : Nat) : A / 18446744073709551616 * 18446744073709551616 + A % 18446744073709551616 = A := by omega
theorem wide_lt (A B : Nat) : (A / 18446744073709551616 < B / 18446744073709551616 ∨ (A / 18446744073709551616 = B / 18446744073709551616 ∧ A % 18446744073709551616 < B % 18446744073709551616)) ↔ A < B := by omega
theorem eqC (a b : Nat) : ((a : Int) = (b : Int)) = (a = b) := by apply propext; omega
theorem c9 (x x1 y1 x2 y2 : Int) (s : St) (K : AV → St → Prop) : CallW cx 9 [.int .i64 x, .int .i64 x1, .int .i64 y1, .int .i64 x2, .int .i64 y2] s K = K (.int .i64 (lineI x x1 y1 x2 y2)) s := by
  refine CallW.eq (CallW.fn' (fn := ir9) rfl rfl (by kernel_rfl) ir9.eq_1 ?_) K
  unfold lineI
  have a1 := clamp_lo x; have a2 := clamp_hi x
  have b1 := clamp_lo x1; have b2 := clamp_hi x1
  have c1 := clamp_lo y1; have c2 := clamp_hi y1
  have d1 := clamp_lo x2; have d2 := clamp_hi x2
  have e1 := clamp_lo y2; have e2 := clamp_hi y2
  have kx := fun st K => c30 x st K
  have kx1 := fun st K => c30 x1 st K
  have ky1 := fun st K => c30 y1 st K
  have kx2 := fun st K => c30 x2 st K
  have ky2 := fun st K => c30 y2 st K
  generalize clampI x = x at *
  generalize clampI x1 = x1 at *
  generalize clampI y1 = y1 at *
  generalize clampI x2 = x2 at *
  generalize clampI y2 = y2 at *
  unfold lineC
  by_cases h1 : x2 ≤ x1
  · have g1 : decide (x2 ≤ x1) = true := by simpa using h1
    rw [if_pos h1]
    by_cases h2 : x < x1
    · have g2 : decide (x < x1) = true := by simpa using h2
      rw [if_pos h2]
      simp (config := {contextual := true, implicitDefEqProofs := false, maxSteps := 4000000}) only [go_sem, ↓reduceIte, Bool.false_eq_true, Nat.reduceEqDiff, Nat.reduceAdd, Int.reduceLE, Int.reduceLT, Int.reduceEq, Int.reduceToNat, Int.toNat_natCast, Int.cast_ofNat_Int, Int.natCast_one, Nat.reduceMod, Nat.reduceDiv, UInt8.reduceToNat, Nat.reduceLT, kx, kx1, ky1, kx2, ky2, g1, g2]
    · have g2 : decide (x < x1) = false := by simpa using h2
      rw [if_neg h2]
      simp (config := {contextual := true, implicitDefEqProofs := false, maxSteps := 4000000}) only [go_sem, ↓reduceIte, Bool.false_eq_true, Nat.reduceEqDiff, Nat.reduceAdd, Int.reduceLE, Int.reduceLT, Int.reduceEq, Int.reduceToNat, Int.toNat_natCast, Int.cast_ofNat_Int, Int.natCast_one, Nat.reduceMod, Nat.reduceDiv, UInt8.reduceToNat, Nat.reduceLT, kx, kx1, ky1, kx2, ky2, g1, g2]
  have g1 : decide (x2 ≤ x1) = false := by simpa using h1
  rw [if_neg h1]
  by_cases h2 : x ≤ x1
  · have g2 : decide (x ≤ x1) = true := by simpa using h2
    rw [if_pos h2]
    simp (config := {contextual := true, implicitDefEqProofs := false, maxSteps := 4000000}) only [go_sem, ↓reduceIte, Bool.false_eq_true, Nat.reduceEqDiff, Nat.reduceAdd, Int.reduceLE, Int.reduceLT, Int.reduceEq, Int.reduceToNat, Int.toNat_natCast, Int.cast_ofNat_Int, Int.natCast_one, Nat.reduceMod, Nat.reduceDiv, UInt8.reduceToNat, Nat.reduceLT, kx, kx1, ky1, kx2, ky2, g1, g2]
  have g2 : decide (x ≤ x1) = false := by simpa using h2
  rw [if_neg h2]
  by_cases h3 : x2 ≤ x
  · have g3 : decide (x2 ≤ x) = true := by simpa using h3
    rw [if_pos h3]
    simp (config := {contextual := true, implicitDefEqProofs := false, maxSteps := 4000000}) only [go_sem, ↓reduceIte, Bool.false_eq_true, Nat.reduceEqDiff, Nat.reduceAdd, Int.reduceLE, Int.reduceLT, Int.reduceEq, Int.reduceToNat, Int.toNat_natCast, Int.cast_ofNat_Int, Int.natCast_one, Nat.reduceMod, Nat.reduceDiv, UInt8.reduceToNat, Nat.reduceLT, kx, kx1, ky1, kx2, ky2, g1, g2, g3]
  have g3 : decide (x2 ≤ x) = false := by simpa using h3
  rw [if_neg h3]
  have w1 : IntKind.i64.wrap (x2 - x1) = x2 - x1 := wrap_i64 (by omega) (by omega)
  have w2 : IntKind.i64.wrap (x2 - x) = x2 - x := wrap_i64 (by omega) (by omega)
  have w3 : IntKind.i64.wrap (x - x1) = x - x1 := wrap_i64 (by omega) (by omega)
  have s1 := fun st K => c31 (x2 - x1) (by omega) (by omega) st K
  have s2 := fun st K => c31 y1 (by omega) (by omega) st K
  have s3 := fun st K => c31 (x2 - x) (by omega) (by omega) st K
  have s4 := fun st K => c31 y2 (by omega) (by omega) st K
  have s5 := fun st K => c31 (x - x1) (by omega) (by omega) st K
  have p1 := fun st K => c32 y1.natAbs (x2 - x).natAbs (by omega) (by omega) st K
  have p2 := fun st K => c32 y2.natAbs (x - x1).natAbs (by omega) (by omega) st K
  have n1 : ((x2 - x).natAbs : Int) = x2 - x := by omega
  have n2 : ((x - x1).natAbs : Int) = x - x1 := by omega
  have m1 := sgn_mul y1 (x2 - x).natAbs _ rfl
  have m2 := sgn_mul y2 (x - x1).natAbs _ rfl
  rw [n1] at m1
  rw [n2] at m2
  have bA := prod_lt (natAbs_le (n := y1) (by omega) (by omega)) (natAbs_le (n := x2 - x) (by omega) (by omega))
  have bB := prod_lt (natAbs_le (n := y2) (by omega) (by omega)) (natAbs_le (n := x - x1) (by omega) (by omega))
  rw [← m1, ← m2]
  clear m1 m2
  generalize y1.natAbs * (x2 - x).natAbs = A at *
  generalize y2.natAbs * (x - x1).natAbs = B at *
  have hw : 0 < (x2 - x1).natAbs := by omega
  have hw2 : (x2 - x1).natAbs < 9223372036854775808 := by omega
  by_cases hs : decide (y1 < 0) = decide (y2 < 0)
  · have hx : (decide (y1 < 0) == decide (y2 < 0)) = true := by simpa using hs
    rw [← hs, ← sgn_add, ← sgn_lim hw]
    have q1 : (A / 18446744073709551616 + B / 18446744073709551616) % 18446744073709551616 = A / 18446744073709551616 + B / 18446744073709551616 := by omega
    have k33 := fun st K => c33 (A / 18446744073709551616 + B / 18446744073709551616) (A % 18446744073709551616) (B % 18446744073709551616) (by omega) (by omega) (by omega) st K
    have k34 := fun st K => c34 (A / 18446744073709551616 + B / 18446744073709551616 + (A % 18446744073709551616 + B % 18446744073709551616) / 18446744073709551616) ((A % 18446744073709551616 + B % 18446744073709551616) % 18446744073709551616) (x2 - x1).natAbs (decide (y1 < 0)) hw hw2 (by omega) st K
    rw [wide_add, Nat.add_assoc] at k34
    simp (config := {contextual := true, implicitDefEqProofs := false, maxSteps := 4000000}) only [go_sem, ↓reduceIte, Bool.false_eq_true, Nat.reduceEqDiff, Nat.reduceAdd, Int.reduceLE, Int.reduceLT, Int.reduceEq, Int.reduceToNat, Int.toNat_natCast, Int.cast_ofNat_Int, Int.natCast_one, Nat.reduceMod, Nat.reduceDiv, UInt8.reduceToNat, Nat.reduceLT, kx, kx1, ky1, kx2, ky2, g1, g2, g3, w1, w2, w3, s1, s2, s3, s4, s5, p1, p2, hx, addC, wrapN, q1, k33, k34]
  · have hx : (decide (y1 < 0) == decide (y2 < 0)) = false := by simpa using hs
    have hn : decide (y2 < 0) = !decide (y1 < 0) := by cases h1 : decide (y1 < 0) <;> cases h2 : decide (y2 < 0) <;> simp_all
    by_cases hAB : A < B
    · have hg : sgn (decide (y1 < 0)) A + sgn (decide (y2 < 0)) B = sgn (decide (y2 < 0)) (B - A) := by
        rw [sgn_sub _ _ _ (Nat.le_of_lt hAB), hn, Bool.not_not]; omega
      rw [hg, ← sgn_lim hw]
      have k35 := fun st K => c35 (B / 18446744073709551616) (B % 18446744073709551616) (A / 18446744073709551616) (A % 18446744073709551616) (by omega) (by omega) (by omega) (by omega) st K
      have k34 := fun st K => c34 ((B - A) / 18446744073709551616) ((B - A) % 18446744073709551616) (x2 - x1).natAbs (decide (y2 < 0)) hw hw2 (by omega) st K
      rw [split_w, split_w] at k35
      rw [split_w] at k34
      by_cases u1 : A / 18446744073709551616 < B / 18446744073709551616
      · have v1 : decide (A / 18446744073709551616 < B / 18446744073709551616) = true := by simpa using u1
        simp (config := {contextual := true, implicitDefEqProofs := false, maxSteps := 4000000}) only [go_sem, ↓reduceIte, Bool.false_eq_true, Nat.reduceEqDiff, Nat.reduceAdd, Int.reduceLE, Int.reduceLT, Int.reduceEq, Int.reduceToNat, Int.toNat_natCast, Int.cast_ofNat_Int, Int.natCast_one, Nat.reduceMod, Nat.reduceDiv, UInt8.reduceToNat, Nat.reduceLT, kx, kx1, ky1, kx2, ky2, g1, g2, g3, w1, w2, w3, s1, s2, s3, s4, s5, p1, p2, hx, ltC, eqC, v1, k35, k34]
      · have v1 : decide (A / 18446744073709551616 < B / 18446744073709551616) = false := by simpa using u1
        have v2 : decide (A / 18446744073709551616 = B / 18446744073709551616) = true := by simp; omega
        have v3 : decide (A % 18446744073709551616 < B % 18446744073709551616) = true := by simp; omega
        simp (config := {contextual := true, implicitDefEqProofs := false, maxSteps := 4000000}) only [go_sem, ↓reduceIte, Bool.false_eq_true, Nat.reduceEqDiff, Nat.reduceAdd, Int.reduceLE, Int.reduceLT, Int.reduceEq, Int.reduceToNat, Int.toNat_natCast, Int.cast_ofNat_Int, Int.natCast_one, Nat.reduceMod, Nat.reduceDiv, UInt8.reduceToNat, Nat.reduceLT, kx, kx1, ky1, kx2, ky2, g1, g2, g3, w1, w2, w3, s1, s2, s3, s4, s5, p1, p2, hx, ltC, eqC, v1, v2, v3, k35, k34]
    · have hg : sgn (decide (y1 < 0)) A + sgn (decide (y2 < 0)) B = sgn (decide (y1 < 0)) (A - B) := by
        rw [sgn_sub _ _ _ (by omega), hn]
      rw [hg, ← sgn_lim hw]
      have k35 := fun st K => c35 (A / 18446744073709551616) (A % 18446744073709551616) (B / 18446744073709551616) (B % 18446744073709551616) (by omega) (by omega) (by omega) (by omega) st K
      have k34 := fun st K => c34 ((A - B) / 18446744073709551616) ((A - B) % 18446744073709551616) (x2 - x1).natAbs (decide (y1 < 0)) hw hw2 (by omega) st K
      rw [split_w, split_w] at k35
      rw [split_w] at k34
      have v1 : decide (A / 18446744073709551616 < B / 18446744073709551616) = false := by simp; omega
      by_cases u2 : A / 18446744073709551616 = B / 18446744073709551616
      · have v2 : decide (A / 18446744073709551616 = B / 18446744073709551616) = true := by simpa using u2
        have v3 : decide (A % 18446744073709551616 < B % 18446744073709551616) = false := by simp; omega
        simp (config := {contextual := true, implicitDefEqProofs := false, maxSteps := 4000000}) only [go_sem, ↓reduceIte, Bool.false_eq_true, Nat.reduceEqDiff, Nat.reduceAdd, Int.reduceLE, Int.reduceLT, Int.reduceEq, Int.reduceToNat, Int.toNat_natCast, Int.cast_ofNat_Int, Int.natCast_one, Nat.reduceMod, Nat.reduceDiv, UInt8.reduceToNat, Nat.reduceLT, kx, kx1, ky1, kx2, ky2, g1, g2, g3, w1, w2, w3, s1, s2, s3, s4, s5, p1, p2, hx, ltC, eqC, v1, v2, v3, k35, k34]
      · have v2 : decide (A / 18446744073709551616 = B / 18446744073709551616) = false := by simpa using u2
        simp (config := {contextual := true, implicitDefEqProofs := false, maxSteps := 4000000}) only [go_sem, ↓reduceIte, Bool.false_eq_true, Nat.reduceEqDiff, Nat.reduceAdd, Int.reduceLE, Int.reduceLT, Int.reduceEq, Int.reduceToNat, Int.toNat_natCast, Int.cast_ofNat_Int, Int.natCast_one, Nat.reduceMod, Nat.reduceDiv, UInt8.reduceToNat, Nat.reduceLT, kx, kx1, ky1, kx2, ky2, g1, g2, g3, w1, w2, w3, s1, s2, s3, s4, s5, p1, p2, hx, ltC, eqC, v1, v2, k35, k34]
end T01

/- The program's line. -/
namespace T01
open Go Fw Go.Proofs
set_option maxRecDepth 100000
set_option linter.unusedSimpArgs false
set_option linter.unusedVariables false
theorem line_eq (x x1 y1 x2 y2 : Int) : y1 * (x2 - x) + y2 * (x - x1) = y1 * (x2 - x1) + (y2 - y1) * (x - x1) := by
  simp only [Int.mul_sub, Int.sub_mul]; omega
theorem u64_abs {n : Int} (h : 0 ≤ n) (h2 : n < 18446744073709551616) : IntKind.u64.wrap n = (n.natAbs : Int) := by rw [wrap_u64]; omega
theorem c8 (x x1 y1 x2 y2 : Int) (s : St) (K : AV → St → Prop) : CallW cx 8 [.int .i64 x, .int .i64 x1, .int .i64 y1, .int .i64 x2, .int .i64 y2] s K = K (.int .i64 (lineI x x1 y1 x2 y2)) s := by
  refine CallW.eq (CallW.fn' (fn := ir8) rfl rfl (by kernel_rfl) ir8.eq_1 ?_) K
  unfold lineI
  have a1 := clamp_lo x; have a2 := clamp_hi x
  have b1 := clamp_lo x1; have b2 := clamp_hi x1
  have c1 := clamp_lo y1; have c2 := clamp_hi y1
  have d1 := clamp_lo x2; have d2 := clamp_hi x2
  have e1 := clamp_lo y2; have e2 := clamp_hi y2
  have kx := fun st K => c15 x st K
  have kx1 := fun st K => c15 x1 st K
  have ky1 := fun st K => c15 y1 st K
  have kx2 := fun st K => c15 x2 st K
  have ky2 := fun st K => c15 y2 st K
  generalize clampI x = x at *
  generalize clampI x1 = x1 at *
  generalize clampI y1 = y1 at *
  generalize clampI x2 = x2 at *
  generalize clampI y2 = y2 at *
  unfold lineC
  by_cases h1 : x2 ≤ x1
  · have g1 : decide (x2 ≤ x1) = true := by simpa using h1
    have g1' : decide (x1 < x2) = false := by simpa using h1
    rw [if_pos h1]
    by_cases h2 : x < x1
    · have g2 : decide (x < x1) = true := by simpa using h2
      rw [if_pos h2]
      simp (config := {contextual := true, implicitDefEqProofs := false, maxSteps := 4000000}) only [go_sem, ↓reduceIte, Bool.false_eq_true, Nat.reduceEqDiff, Nat.reduceAdd, Int.reduceLE, Int.reduceLT, Int.reduceEq, Int.reduceToNat, Int.toNat_natCast, Int.cast_ofNat_Int, Int.natCast_one, Nat.reduceMod, Nat.reduceDiv, UInt8.reduceToNat, Nat.reduceLT, kx, kx1, ky1, kx2, ky2, g1, g1', g2]
    · have g2 : decide (x < x1) = false := by simpa using h2
      rw [if_neg h2]
      simp (config := {contextual := true, implicitDefEqProofs := false, maxSteps := 4000000}) only [go_sem, ↓reduceIte, Bool.false_eq_true, Nat.reduceEqDiff, Nat.reduceAdd, Int.reduceLE, Int.reduceLT, Int.reduceEq, Int.reduceToNat, Int.toNat_natCast, Int.cast_ofNat_Int, Int.natCast_one, Nat.reduceMod, Nat.reduceDiv, UInt8.reduceToNat, Nat.reduceLT, kx, kx1, ky1, kx2, ky2, g1, g1', g2]
  have g1 : decide (x2 ≤ x1) = false := by simpa using h1
  have g1' : decide (x1 < x2) = true := by simp; omega
  rw [if_neg h1]
  by_cases h2 : x ≤ x1
  · have g2 : decide (x ≤ x1) = true := by simpa using h2
    rw [if_pos h2]
    simp (config := {contextual := true, implicitDefEqProofs := false, maxSteps := 4000000}) only [go_sem, ↓reduceIte, Bool.false_eq_true, Nat.reduceEqDiff, Nat.reduceAdd, Int.reduceLE, Int.reduceLT, Int.reduceEq, Int.reduceToNat, Int.toNat_natCast, Int.cast_ofNat_Int, Int.natCast_one, Nat.reduceMod, Nat.reduceDiv, UInt8.reduceToNat, Nat.reduceLT, kx, kx1, ky1, kx2, ky2, g1, g1', g2]
  have g2 : decide (x ≤ x1) = false := by simpa using h2
  rw [if_neg h2]
  by_cases h3 : x2 ≤ x
  · have g3 : decide (x2 ≤ x) = true := by simpa using h3
    rw [if_pos h3]
    simp (config := {contextual := true, implicitDefEqProofs := false, maxSteps := 4000000}) only [go_sem, ↓reduceIte, Bool.false_eq_true, Nat.reduceEqDiff, Nat.reduceAdd, Int.reduceLE, Int.reduceLT, Int.reduceEq, Int.reduceToNat, Int.toNat_natCast, Int.cast_ofNat_Int, Int.natCast_one, Nat.reduceMod, Nat.reduceDiv, UInt8.reduceToNat, Nat.reduceLT, kx, kx1, ky1, kx2, ky2, g1, g1', g2, g3]
  have g3 : decide (x2 ≤ x) = false := by simpa using h3
  rw [if_neg h3]
  have w1 : IntKind.i64.wrap (x2 - x1) = x2 - x1 := wrap_i64 (by omega) (by omega)
  have w2 : IntKind.i64.wrap (y2 - y1) = y2 - y1 := wrap_i64 (by omega) (by omega)
  have w3 : IntKind.i64.wrap (x - x1) = x - x1 := wrap_i64 (by omega) (by omega)
  have w4 : IntKind.u64.wrap (x2 - x1) = ((x2 - x1).natAbs : Int) := u64_abs (by omega) (by omega)
  have w5 : IntKind.u64.wrap (x - x1) = ((x - x1).natAbs : Int) := u64_abs (by omega) (by omega)
  have s1 := fun st K => c25 (y2 - y1) (by omega) (by omega) st K
  have s2 := fun st K => c25 y1 (by omega) (by omega) st K
  have p1 := fun st K => c26 (x - x1).natAbs (y2 - y1).natAbs (by omega) (by omega) st K
  have p2 := fun st K => c26 y1.natAbs (x2 - x1).natAbs (by omega) (by omega) st K
  have n1 : ((x2 - x1).natAbs : Int) = x2 - x1 := by omega
  have n2 : ((x - x1).natAbs : Int) = x - x1 := by omega
  have m1 := sgn_mul y1 (x2 - x1).natAbs _ rfl
  have m2 := sgn_mul (y2 - y1) (x - x1).natAbs _ rfl
  rw [n1] at m1
  rw [n2] at m2
  have bA := prod_lt (natAbs_le (n := y1) (by omega) (by omega)) (natAbs_le (n := x2 - x1) (by omega) (by omega))
  have bB := prod_lt (natAbs_le (n := x - x1) (by omega) (by omega)) (natAbs_le (n := y2 - y1) (by omega) (by omega))
  rw [line_eq, ← m1, ← m2, Nat.mul_comm (y2 - y1).natAbs]
  clear m1 m2
  generalize y1.natAbs * (x2 - x1).natAbs = B at *
  generalize (x - x1).natAbs * (y2 - y1).natAbs = A at *
  have hw : 0 < (x2 - x1).natAbs := by omega
  have hw2 : (x2 - x1).natAbs < 9223372036854775808 := by omega
  by_cases hs : decide (y2 - y1 < 0) = decide (y1 < 0)
  · have hx : (decide (y2 - y1 < 0) == decide (y1 < 0)) = true := by simpa using hs
    rw [hs, ← sgn_add, ← sgn_lim hw]
    have q1 : (A / 18446744073709551616 + B / 18446744073709551616) % 18446744073709551616 = A / 18446744073709551616 + B / 18446744073709551616 := by omega
    have q2 : (A / 18446744073709551616 + B / 18446744073709551616 + (A % 18446744073709551616 + B % 18446744073709551616) / 18446744073709551616) % 18446744073709551616 = A / 18446744073709551616 + B / 18446744073709551616 + (A % 18446744073709551616 + B % 18446744073709551616) / 18446744073709551616 := by omega
    have k27 := fun st K => c27 (A % 18446744073709551616) (B % 18446744073709551616) (by omega) (by omega) st K
    have k28 := fun st K => c28 (A / 18446744073709551616 + B / 18446744073709551616 + (A % 18446744073709551616 + B % 18446744073709551616) / 18446744073709551616) ((A % 18446744073709551616 + B % 18446744073709551616) % 18446744073709551616) (x2 - x1).natAbs (decide (y1 < 0)) hw hw2 (by omega) st K
    rw [wide_add, Nat.add_comm A B, Nat.add_assoc] at k28
    rw [Nat.add_assoc] at q2
    simp (config := {contextual := true, implicitDefEqProofs := false, maxSteps := 4000000}) only [go_sem, ↓reduceIte, Bool.false_eq_true, Nat.reduceEqDiff, Nat.reduceAdd, Int.reduceLE, Int.reduceLT, Int.reduceEq, Int.reduceToNat, Int.toNat_natCast, Int.cast_ofNat_Int, Int.natCast_one, Nat.reduceMod, Nat.reduceDiv, UInt8.reduceToNat, Nat.reduceLT, kx, kx1, ky1, kx2, ky2, w1, w2, w3, w4, w5, s1, s2, p1, p2, addC, ltC, eqC, leN, wrapN, g1, g1', g2, g3, hx, q1, q2, k27, k28]
  · have hx : (decide (y2 - y1 < 0) == decide (y1 < 0)) = false := by simpa using hs
    have hn : decide (y1 < 0) = !decide (y2 - y1 < 0) := by cases h1 : decide (y1 < 0) <;> cases h2 : decide (y2 - y1 < 0) <;> simp_all
    by_cases hAB : A ≤ B
    · have hg : sgn (decide (y1 < 0)) B + sgn (decide (y2 - y1 < 0)) A = sgn (decide (y1 < 0)) (B - A) := by
        rw [sgn_sub _ _ _ hAB, hn, Bool.not_not]
      rw [hg, ← sgn_lim hw]
      have k28 := fun st K => c28 ((B - A) / 18446744073709551616) ((B - A) % 18446744073709551616) (x2 - x1).natAbs (decide (y1 < 0)) hw hw2 (by omega) st K
      have k29 := fun st K => c29 (B % 18446744073709551616) (A % 18446744073709551616) (by omega) (by omega) st K
      have f1 : (B % 18446744073709551616 + 18446744073709551616 - A % 18446744073709551616) % 18446744073709551616 = (B - A) % 18446744073709551616 := by omega
      have f2 : IntKind.u64.wrap (((B / 18446744073709551616 : Nat) : Int) - ((A / 18446744073709551616 : Nat) : Int)) = ((B / 18446744073709551616 - A / 18446744073709551616 : Nat) : Int) := by rw [wrap_u64]; omega
      have f3 : IntKind.u64.wrap (((B / 18446744073709551616 - A / 18446744073709551616 : Nat) : Int) - ((if B % 18446744073709551616 < A % 18446744073709551616 then 1 else 0 : Nat) : Int)) = (((B - A) / 18446744073709551616 : Nat) : Int) := by rw [wrap_u64]; split <;> omega
      generalize (if B % 18446744073709551616 < A % 18446744073709551616 then 1 else 0 : Nat) = bw at *
      rw [split_w] at k28
      rw [f1] at k29
      by_cases u1 : A / 18446744073709551616 < B / 18446744073709551616
      · have v1 : decide (A / 18446744073709551616 < B / 18446744073709551616) = true := by simpa using u1
        simp (config := {contextual := true, implicitDefEqProofs := false, maxSteps := 4000000}) only [go_sem, ↓reduceIte, Bool.false_eq_true, Nat.reduceEqDiff, Nat.reduceAdd, Int.reduceLE, Int.reduceLT, Int.reduceEq, Int.reduceToNat, Int.toNat_natCast, Int.cast_ofNat_Int, Int.natCast_one, Nat.reduceMod, Nat.reduceDiv, UInt8.reduceToNat, Nat.reduceLT, kx, kx1, ky1, kx2, ky2, w1, w2, w3, w4, w5, s1, s2, p1, p2, addC, ltC, eqC, leN, wrapN, g1, g1', g2, g3, hx, v1, f2, f3, k29, k28]
      · have v1 : decide (A / 18446744073709551616 < B / 18446744073709551616) = false := by simpa using u1
        have v2 : decide (B / 18446744073709551616 = A / 18446744073709551616) = true := by simp; omega
        have v3 : decide (A % 18446744073709551616 ≤ B % 18446744073709551616) = true := by simp; omega
        simp (config := {contextual := true, implicitDefEqProofs := false, maxSteps := 4000000}) only [go_sem, ↓reduceIte, Bool.false_eq_true, Nat.reduceEqDiff, Nat.reduceAdd, Int.reduceLE, Int.reduceLT, Int.reduceEq, Int.reduceToNat, Int.toNat_natCast, Int.cast_ofNat_Int, Int.natCast_one, Nat.reduceMod, Nat.reduceDiv, UInt8.reduceToNat, Nat.reduceLT, kx, kx1, ky1, kx2, ky2, w1, w2, w3, w4, w5, s1, s2, p1, p2, addC, ltC, eqC, leN, wrapN, g1, g1', g2, g3, hx, v1, v2, v3, f2, f3, k29, k28]
    · have hg : sgn (decide (y1 < 0)) B + sgn (decide (y2 - y1 < 0)) A = sgn (decide (y2 - y1 < 0)) (A - B) := by
        rw [sgn_sub _ _ _ (by omega), hn]; omega
      rw [hg, ← sgn_lim hw]
      have k28 := fun st K => c28 ((A - B) / 18446744073709551616) ((A - B) % 18446744073709551616) (x2 - x1).natAbs (decide (y2 - y1 < 0)) hw hw2 (by omega) st K
      have k29 := fun st K => c29 (A % 18446744073709551616) (B % 18446744073709551616) (by omega) (by omega) st K
      have f1 : (A % 18446744073709551616 + 18446744073709551616 - B % 18446744073709551616) % 18446744073709551616 = (A - B) % 18446744073709551616 := by omega
      have f2 : IntKind.u64.wrap (((A / 18446744073709551616 : Nat) : Int) - ((B / 18446744073709551616 : Nat) : Int)) = ((A / 18446744073709551616 - B / 18446744073709551616 : Nat) : Int) := by rw [wrap_u64]; omega
      have f3 : IntKind.u64.wrap (((A / 18446744073709551616 - B / 18446744073709551616 : Nat) : Int) - ((if A % 18446744073709551616 < B % 18446744073709551616 then 1 else 0 : Nat) : Int)) = (((A - B) / 18446744073709551616 : Nat) : Int) := by rw [wrap_u64]; split <;> omega
      generalize (if A % 18446744073709551616 < B % 18446744073709551616 then 1 else 0 : Nat) = bw at *
      rw [split_w] at k28
      rw [f1] at k29
      have v1 : decide (A / 18446744073709551616 < B / 18446744073709551616) = false := by simp; omega
      by_cases u2 : B / 18446744073709551616 = A / 18446744073709551616
      · have v2 : decide (B / 18446744073709551616 = A / 18446744073709551616) = true := by simpa using u2
        have v3 : decide (A % 18446744073709551616 ≤ B % 18446744073709551616) = false := by simp; omega
        simp (config := {contextual := true, implicitDefEqProofs := false, maxSteps := 4000000}) only [go_sem, ↓reduceIte, Bool.false_eq_true, Nat.reduceEqDiff, Nat.reduceAdd, Int.reduceLE, Int.reduceLT, Int.reduceEq, Int.reduceToNat, Int.toNat_natCast, Int.cast_ofNat_Int, Int.natCast_one, Nat.reduceMod, Nat.reduceDiv, UInt8.reduceToNat, Nat.reduceLT, kx, kx1, ky1, kx2, ky2, w1, w2, w3, w4, w5, s1, s2, p1, p2, addC, ltC, eqC, leN, wrapN, g1, g1', g2, g3, hx, v1, v2, v3, f2, f3, k29, k28]
      · have v2 : decide (B / 18446744073709551616 = A / 18446744073709551616) = false := by simpa using u2
        simp (config := {contextual := true, implicitDefEqProofs := false, maxSteps := 4000000}) only [go_sem, ↓reduceIte, Bool.false_eq_true, Nat.reduceEqDiff, Nat.reduceAdd, Int.reduceLE, Int.reduceLT, Int.reduceEq, Int.reduceToNat, Int.toNat_natCast, Int.cast_ofNat_Int, Int.natCast_one, Nat.reduceMod, Nat.reduceDiv, UInt8.reduceToNat, Nat.reduceLT, kx, kx1, ky1, kx2, ky2, w1, w2, w3, w4, w5, s1, s2, p1, p2, addC, ltC, eqC, leN, wrapN, g1, g1', g2, g3, hx, v1, v2, f2, f3, k29, k28]
end T01

/- MulDiv and what rests on it; the laws FixedLines, FixedRange, FixedNear answer true. -/
namespace T01
open Go Fw Go.Proofs
set_option maxRecDepth 100000
set_option linter.unusedSimpArgs false
set_option linter.unusedVariables false
theorem c7z (h : List (Nat × AObj)) (l : Nat) (K : AV → St → Prop) : CallW cx 7 [] { heap := h, next := 0, low := l } K = K (.bool true) { heap := h, next := 0, low := l } :=
  CallW.eq ⟨1000, _, _, awake_run0 h l, rfl, rfl⟩ K
theorem law3 (x x1 y1 x2 y2 : Int) : CallW cx 3 [.int .i64 x, .int .i64 x1, .int .i64 y1, .int .i64 x2, .int .i64 y2] { heap := [], next := 0, low := 0 } fun v _ => v = .bool true := by
  refine CallW.fn' (fn := ir3) rfl rfl (by kernel_rfl) ir3.eq_1 ?_
  simp (config := {contextual := true, implicitDefEqProofs := false, maxSteps := 4000000}) only [go_sem, ↓reduceIte, Bool.false_eq_true, Nat.reduceEqDiff, Nat.reduceAdd, Int.reduceLE, Int.reduceLT, Int.reduceEq, Int.reduceToNat, Int.toNat_natCast, Int.cast_ofNat_Int, Int.natCast_one, Nat.reduceMod, Nat.reduceDiv, UInt8.reduceToNat, Nat.reduceLT, c7z, c8, c9]
theorem i64_bounds {n : Int} (h : (Lit.int .i64 n).wf = true) : -9223372036854775808 ≤ n ∧ n ≤ 9223372036854775807 := by
  have h' : (decide (IntKind.i64.min ≤ n) && decide (n ≤ IntKind.i64.max)) = true := h
  rw [show IntKind.i64.min = -9223372036854775808 from rfl, show IntKind.i64.max = 9223372036854775807 from rfl] at h'
  simpa using h'
theorem hlaw3 (as0 : List AV) (h : TyArgs Tryd.prog Tryd.f3.params.toList as0) : ∃ k s', callF cx k 3 as0 st0 = some (.bool true, s') := by
  obtain ⟨a1, r1, rfl, h1, a2, r2, rfl, h2, a3, r3, rfl, h3, a4, r4, rfl, h4, a5, r5, rfl, h5, h6⟩ : ∃ a1 r1, as0 = a1 :: r1 ∧ TyArg Tryd.prog 2 a1 ∧ ∃ a2 r2, r1 = a2 :: r2 ∧ TyArg Tryd.prog 2 a2 ∧ ∃ a3 r3, r2 = a3 :: r3 ∧ TyArg Tryd.prog 2 a3 ∧ ∃ a4 r4, r3 = a4 :: r4 ∧ TyArg Tryd.prog 2 a4 ∧ ∃ a5 r5, r4 = a5 :: r5 ∧ TyArg Tryd.prog 2 a5 ∧ r5 = [] := h
  subst h6
  obtain ⟨x, rfl, _⟩ := TyArg_int Tryd.underlying2 h1
  obtain ⟨x1, rfl, _⟩ := TyArg_int Tryd.underlying2 h2
  obtain ⟨y1, rfl, _⟩ := TyArg_int Tryd.underlying2 h3
  obtain ⟨x2, rfl, _⟩ := TyArg_int Tryd.underlying2 h4
  obtain ⟨y2, rfl, _⟩ := TyArg_int Tryd.underlying2 h5
  obtain ⟨k', v, s', h9, rfl⟩ := law3 x x1 y1 x2 y2
  exact ⟨k', s', h9⟩
/- MulDiv -/
def mdC (a b c : Int) : Int :=
  if a.natAbs * b.natAbs = 0 then 0 else if c = 0 then (if decide (a < 0) = decide (b < 0) then 1000000000000 else -1000000000000)
  else rndI (sgn ((decide (a < 0) != decide (b < 0)) != decide (c < 0)) (a.natAbs * b.natAbs)) c.natAbs
def mdI (a b c : Int) : Int := mdC (clampI a) (clampI b) (clampI c)
theorem c14 (a b c : Int) (s : St) (K : AV → St → Prop) : CallW cx 14 [.int .i64 a, .int .i64 b, .int .i64 c] s K = K (.int .i64 (mdI a b c)) s := by
  refine CallW.eq (CallW.fn' (fn := ir14) rfl rfl (by kernel_rfl) ir14.eq_1 ?_) K
  unfold mdI
  have a1 := clamp_lo a; have a2 := clamp_hi a
  have b1 := clamp_lo b; have b2 := clamp_hi b
  have c1 := clamp_lo c; have c2 := clamp_hi c
  have ka := fun st K => c15 a st K
  have kb := fun st K => c15 b st K
  have kc := fun st K => c15 c st K
  generalize clampI a = a at *
  generalize clampI b = b at *
  generalize clampI c = c at *
  have s1 := fun st K => c25 a (by omega) (by omega) st K
  have s2 := fun st K => c25 b (by omega) (by omega) st K
  have s3 := fun st K => c25 c (by omega) (by omega) st K
  have p1 := fun st K => c26 a.natAbs b.natAbs (by omega) (by omega) st K
  have bA := prod_lt (natAbs_le (n := a) (by omega) (by omega)) (natAbs_le (n := b) (by omega) (by omega))
  unfold mdC
  generalize a.natAbs * b.natAbs = A at *
  by_cases h0 : A = 0
  · rw [if_pos h0]
    subst h0
    simp (config := {contextual := true, implicitDefEqProofs := false, maxSteps := 4000000}) only [go_sem, ↓reduceIte, Bool.false_eq_true, Nat.reduceEqDiff, Nat.reduceAdd, Int.reduceLE, Int.reduceLT, Int.reduceEq, Int.reduceToNat, Int.toNat_natCast, Int.cast_ofNat_Int, Int.natCast_one, Nat.reduceMod, Nat.reduceDiv, UInt8.reduceToNat, Nat.reduceLT, ka, kb, kc, s1, s2, s3, p1, show (((0 / 18446744073709551616 : Nat) : Int) = 0) = True by simp, show (((0 % 18446744073709551616 : Nat) : Int) = 0) = True by simp]
  · rw [if_neg h0]
    have e0 : (if ((A / 18446744073709551616 : Nat) : Int) = 0 then if ((A % 18446744073709551616 : Nat) : Int) = 0 then some true else some false else some false) = some false := by
      split
      · rw [if_neg (by omega)]
      · rfl
    by_cases hc : c = 0
    · rw [if_pos hc]
      subst hc
      by_cases hs : decide (a < 0) = decide (b < 0)
      · rw [if_pos hs]
        have x1 : (decide (a < 0) == decide (b < 0)) = true := by simpa using hs
        simp (config := {contextual := true, implicitDefEqProofs := false, maxSteps := 4000000}) only [go_sem, ↓reduceIte, Bool.false_eq_true, Nat.reduceEqDiff, Nat.reduceAdd, Int.reduceLE, Int.reduceLT, Int.reduceEq, Int.reduceToNat, Int.toNat_natCast, Int.cast_ofNat_Int, Int.natCast_one, Nat.reduceMod, Nat.reduceDiv, UInt8.reduceToNat, Nat.reduceLT, ka, kb, kc, s1, s2, s3, p1, e0, x1, show ((Int.natAbs 0 : Int) = 0) = True by simp]
      · rw [if_neg hs]
        have x1 : (decide (a < 0) == decide (b < 0)) = false := by simpa using hs
        simp (config := {contextual := true, implicitDefEqProofs := false, maxSteps := 4000000}) only [go_sem, ↓reduceIte, Bool.false_eq_true, Nat.reduceEqDiff, Nat.reduceAdd, Int.reduceLE, Int.reduceLT, Int.reduceEq, Int.reduceToNat, Int.toNat_natCast, Int.cast_ofNat_Int, Int.natCast_one, Nat.reduceMod, Nat.reduceDiv, UInt8.reduceToNat, Nat.reduceLT, ka, kb, kc, s1, s2, s3, p1, e0, x1, show ((Int.natAbs 0 : Int) = 0) = True by simp]
    · rw [if_neg hc]
      have hz : decide ((c.natAbs : Int) = 0) = false := by simp; omega
      have k28 := fun neg st K => c28 (A / 18446744073709551616) (A % 18446744073709551616) c.natAbs neg (by omega) (by omega) (by omega) st K
      rw [split_w] at k28
      rw [← sgn_lim (by omega)]
      simp (config := {contextual := true, implicitDefEqProofs := false, maxSteps := 4000000}) only [go_sem, ↓reduceIte, Bool.false_eq_true, Nat.reduceEqDiff, Nat.reduceAdd, Int.reduceLE, Int.reduceLT, Int.reduceEq, Int.reduceToNat, Int.toNat_natCast, Int.cast_ofNat_Int, Int.natCast_one, Nat.reduceMod, Nat.reduceDiv, UInt8.reduceToNat, Nat.reduceLT, ka, kb, kc, s1, s2, s3, p1, e0, hz, k28]
      rfl

theorem c12 (a b : Int) (s : St) (K : AV → St → Prop) : CallW cx 12 [.int .i64 a, .int .i64 b] s K = K (.int .i64 (mdI a b 1000)) s := by
  refine CallW.eq (CallW.fn' (fn := ir12) rfl rfl (by kernel_rfl) ir12.eq_1 ?_) K
  simp (config := {contextual := true, implicitDefEqProofs := false, maxSteps := 4000000}) only [go_sem, ↓reduceIte, Bool.false_eq_true, Nat.reduceEqDiff, Nat.reduceAdd, Int.reduceLE, Int.reduceLT, Int.reduceEq, Int.reduceToNat, Int.toNat_natCast, Int.cast_ofNat_Int, Int.natCast_one, Nat.reduceMod, Nat.reduceDiv, UInt8.reduceToNat, Nat.reduceLT, c14]
theorem c13 (a b : Int) (s : St) (K : AV → St → Prop) : CallW cx 13 [.int .i64 a, .int .i64 b] s K = K (.int .i64 (mdI a 1000 b)) s := by
  refine CallW.eq (CallW.fn' (fn := ir13) rfl rfl (by kernel_rfl) ir13.eq_1 ?_) K
  simp (config := {contextual := true, implicitDefEqProofs := false, maxSteps := 4000000}) only [go_sem, ↓reduceIte, Bool.false_eq_true, Nat.reduceEqDiff, Nat.reduceAdd, Int.reduceLE, Int.reduceLT, Int.reduceEq, Int.reduceToNat, Int.toNat_natCast, Int.cast_ofNat_Int, Int.natCast_one, Nat.reduceMod, Nat.reduceDiv, UInt8.reduceToNat, Nat.reduceLT, c14]
def withinB (n : Int) : Bool := decide (-1000000000000 ≤ n) && decide (n ≤ 1000000000000)
theorem withinB_iff (n : Int) : withinB n = true ↔ -1000000000000 ≤ n ∧ n ≤ 1000000000000 := by simp [withinB]
theorem c10 (n : Int) (s : St) (K : AV → St → Prop) : CallW cx 10 [.int .i64 n] s K = K (.bool (withinB n)) s := by
  refine CallW.eq (CallW.fn' (fn := ir10) rfl rfl (by kernel_rfl) ir10.eq_1 ?_) K
  unfold withinB
  cases h1 : decide (-1000000000000 ≤ n)
  · simp (config := {contextual := true, implicitDefEqProofs := false, maxSteps := 4000000}) only [go_sem, ↓reduceIte, Bool.false_eq_true, Nat.reduceEqDiff, Nat.reduceAdd, Int.reduceLE, Int.reduceLT, Int.reduceEq, Int.reduceToNat, Int.toNat_natCast, Int.cast_ofNat_Int, Int.natCast_one, Nat.reduceMod, Nat.reduceDiv, UInt8.reduceToNat, Nat.reduceLT, h1]
  · simp (config := {contextual := true, implicitDefEqProofs := false, maxSteps := 4000000}) only [go_sem, ↓reduceIte, Bool.false_eq_true, Nat.reduceEqDiff, Nat.reduceAdd, Int.reduceLE, Int.reduceLT, Int.reduceEq, Int.reduceToNat, Int.toNat_natCast, Int.cast_ofNat_Int, Int.natCast_one, Nat.reduceMod, Nat.reduceDiv, UInt8.reduceToNat, Nat.reduceLT, h1]
def addI (a b : Int) : Int := clampI (clampI a + clampI b)
theorem c44 (a b : Int) (o : Own) (s : St) (K : AV → St → Prop) : CallW cx 44 [.slice [.int .i64 a, .int .i64 b] 2 o] s K = K (.int .i64 (clampI a + clampI b)) s := by
  refine CallW.eq (CallW.fn' (fn := ir44) rfl rfl (by kernel_rfl) ir44.eq_1 ?_) K
  have a1 := clamp_lo a; have a2 := clamp_hi a
  have b1 := clamp_lo b; have b2 := clamp_hi b
  have w1 : IntKind.i64.wrap (0 + clampI a) = clampI a := by rw [Int.zero_add]; exact wrap_i64 (by omega) (by omega)
  have w2 : IntKind.i64.wrap (clampI a + clampI b) = clampI a + clampI b := wrap_i64 (by omega) (by omega)
  have u1 : IntKind.i64.wrap (0 + 1) = 1 := rfl
  have u2 : IntKind.i64.wrap (1 + 1) = 2 := rfl
  simp (config := {contextual := true, implicitDefEqProofs := false, maxSteps := 4000000}) only [go_sem, ↓reduceIte, Bool.false_eq_true, Nat.reduceEqDiff, Nat.reduceAdd, Int.reduceLE, Int.reduceLT, Int.reduceEq, Int.reduceToNat, Int.toNat_natCast, Int.cast_ofNat_Int, Int.natCast_one, Nat.reduceMod, Nat.reduceDiv, UInt8.reduceToNat, Nat.reduceLT]
  refine WLoop.rndB (c := _) ir44L0.eq_1 ?_
  simp (config := {contextual := true, implicitDefEqProofs := false, maxSteps := 4000000}) only [go_sem, ↓reduceIte, Bool.false_eq_true, Nat.reduceEqDiff, Nat.reduceAdd, Int.reduceLE, Int.reduceLT, Int.reduceEq, Int.reduceToNat, Int.toNat_natCast, Int.cast_ofNat_Int, Int.natCast_one, Nat.reduceMod, Nat.reduceDiv, UInt8.reduceToNat, Nat.reduceLT, c15, w1, u1]
  refine WLoop.rndB (c := _) ir44L0.eq_1 ?_
  simp (config := {contextual := true, implicitDefEqProofs := false, maxSteps := 4000000}) only [go_sem, ↓reduceIte, Bool.false_eq_true, Nat.reduceEqDiff, Nat.reduceAdd, Int.reduceLE, Int.reduceLT, Int.reduceEq, Int.reduceToNat, Int.toNat_natCast, Int.cast_ofNat_Int, Int.natCast_one, Nat.reduceMod, Nat.reduceDiv, UInt8.reduceToNat, Nat.reduceLT, c15, w2, u2, show Int.toNat 1 = 1 from rfl, show (0 : Int) ≤ 1 by decide, show (1 : Int) < 2 by decide]
  refine WLoop.rndB (c := _) ir44L0.eq_1 ?_
  simp (config := {contextual := true, implicitDefEqProofs := false, maxSteps := 4000000}) only [go_sem, ↓reduceIte, Bool.false_eq_true, Nat.reduceEqDiff, Nat.reduceAdd, Int.reduceLE, Int.reduceLT, Int.reduceEq, Int.reduceToNat, Int.toNat_natCast, Int.cast_ofNat_Int, Int.natCast_one, Nat.reduceMod, Nat.reduceDiv, UInt8.reduceToNat, Nat.reduceLT]
theorem c36 (a b : Int) (o : Own) (s : St) (K : AV → St → Prop) : CallW cx 36 [.slice [.int .i64 a, .int .i64 b] 2 o] s K = K (.int .i64 (addI a b)) s := by
  refine CallW.eq (CallW.fn' (fn := ir36) rfl rfl (by kernel_rfl) ir36.eq_1 ?_) K
  simp (config := {contextual := true, implicitDefEqProofs := false, maxSteps := 4000000}) only [go_sem, ↓reduceIte, Bool.false_eq_true, Nat.reduceEqDiff, Nat.reduceAdd, Int.reduceLE, Int.reduceLT, Int.reduceEq, Int.reduceToNat, Int.toNat_natCast, Int.cast_ofNat_Int, Int.natCast_one, Nat.reduceMod, Nat.reduceDiv, UInt8.reduceToNat, Nat.reduceLT, c44, c15, addI]
theorem c11 (a b : Int) (s : St) (K : AV → St → Prop) : CallW cx 11 [.int .i64 a, .int .i64 b] s K = K (.int .i64 (addI a b)) s := by
  refine CallW.eq (CallW.fn' (fn := ir11) rfl rfl (by kernel_rfl) ir11.eq_1 ?_) K
  simp (config := {contextual := true, implicitDefEqProofs := false, maxSteps := 4000000}) only [go_sem, ↓reduceIte, Bool.false_eq_true, Nat.reduceEqDiff, Nat.reduceAdd, Int.reduceLE, Int.reduceLT, Int.reduceEq, Int.reduceToNat, Int.toNat_natCast, Int.cast_ofNat_Int, Int.natCast_one, Nat.reduceMod, Nat.reduceDiv, UInt8.reduceToNat, Nat.reduceLT, c36]
/- plain laws -/
theorem clamp_neg (a : Int) : clampI (-a) = -clampI a := by unfold clampI; omega
theorem addI_comm (a b : Int) : addI a b = addI b a := by unfold addI; rw [Int.add_comm]
theorem mdI_comm (a b c : Int) : mdI a b c = mdI b a c := by
  unfold mdI mdC
  rw [Nat.mul_comm (clampI b).natAbs]
  have e1 : (decide (clampI b < 0) = decide (clampI a < 0)) = (decide (clampI a < 0) = decide (clampI b < 0)) := propext ⟨Eq.symm, Eq.symm⟩
  have e2 : (decide (clampI b < 0) != decide (clampI a < 0)) = (decide (clampI a < 0) != decide (clampI b < 0)) := by cases decide (clampI b < 0) <;> cases decide (clampI a < 0) <;> rfl
  simp only [e1, e2]
theorem mdI_range (a b c : Int) : withinB (mdI a b c) = true := by
  rw [withinB_iff]
  unfold mdI mdC
  split
  · omega
  · split
    · split <;> omega
    · exact rndI_le _ _
theorem sgn_not (x : Bool) (n : Nat) : sgn (!x) n = -sgn x n := by unfold sgn; cases x <;> simp
theorem mdI_neg (a b c : Int) : mdI (-a) b c = -mdI a b c := by
  unfold mdI mdC
  rw [clamp_neg, Int.natAbs_neg]
  generalize clampI a = a
  generalize clampI b = b
  generalize clampI c = c
  by_cases h0 : a.natAbs * b.natAbs = 0
  · rw [if_pos h0, if_pos h0]; rfl
  · rw [if_neg h0, if_neg h0]
    have ha : a ≠ 0 := by intro h; subst h; simp at h0
    have hn : decide (-a < 0) = !decide (a < 0) := by
      by_cases h : a < 0
      · rw [decide_eq_true h, decide_eq_false (show ¬ -a < 0 by omega)]; rfl
      · rw [decide_eq_false h, decide_eq_true (show -a < 0 by omega)]; rfl
    by_cases hc : c = 0
    · rw [if_pos hc, if_pos hc, hn]
      cases decide (a < 0) <;> cases decide (b < 0) <;> rfl
    · rw [if_neg hc, if_neg hc, hn, ← rndI_neg (by omega)]
      congr 1
      rw [← sgn_not]
      congr 1
      cases decide (a < 0) <;> cases decide (b < 0) <;> cases decide (c < 0) <;> rfl
theorem mdI_unit (a : Int) (h : withinB a = true) : mdI a 1000 1000 = a := by
  rw [withinB_iff] at h
  unfold mdI mdC
  rw [clamp_id h.1 h.2, clamp_id (n := 1000) (by omega) (by omega)]
  have e1 : (1000 : Int).natAbs = 1000 := rfl
  rw [e1]
  split
  · omega
  · rw [if_neg (by omega)]
    have e2 : ((decide (a < 0) != decide ((1000 : Int) < 0)) != decide ((1000 : Int) < 0)) = decide (a < 0) := by cases decide (a < 0) <;> rfl
    rw [e2, ← sgn_lim (by omega)]
    unfold lim
    rw [rnd_exact _ _ (by omega)]
    have : min 1000000000000 a.natAbs = a.natAbs := by omega
    rw [this, sgn_eq]
theorem within_wrap {n : Int} (h : withinB n = true) : IntKind.i64.wrap (0 - n) = -n := by
  rw [withinB_iff] at h
  rw [wrap_i64 (by omega) (by omega)]; omega
theorem law4 (a b c : Int) : CallW cx 4 [.int .i64 a, .int .i64 b, .int .i64 c] { heap := [], next := 0, low := 0 } fun v _ => v = .bool true := by
  refine CallW.fn' (fn := ir4) rfl rfl (by kernel_rfl) ir4.eq_1 ?_
  have r1 : withinB (addI a b) = true := by rw [withinB_iff]; exact ⟨clamp_lo _, clamp_hi _⟩
  have r2 := mdI_range a b 1000
  have r3 := mdI_range a 1000 b
  have r4 := mdI_range a b c
  have r5 : withinB (clampI a) = true := by rw [withinB_iff]; exact ⟨clamp_lo _, clamp_hi _⟩
  have z : ∀ n : Int, decide (n ≠ n) = false := fun n => by simp
  cases hw : withinB a
  · simp (config := {contextual := true, implicitDefEqProofs := false, maxSteps := 4000000}) only [go_sem, ↓reduceIte, Bool.false_eq_true, Nat.reduceEqDiff, Nat.reduceAdd, Int.reduceLE, Int.reduceLT, Int.reduceEq, Int.reduceToNat, Int.toNat_natCast, Int.cast_ofNat_Int, Int.natCast_one, Nat.reduceMod, Nat.reduceDiv, UInt8.reduceToNat, Nat.reduceLT, c7z, c10, c11, c12, c13, c14, c15, r1, r2, r3, r4, r5, addI_comm b a, mdI_comm b a, z, hw]
  · have q1 := within_wrap hw
    have q2 := within_wrap r2
    have q3 := within_wrap r3
    have q4 := within_wrap r4
    simp (config := {contextual := true, implicitDefEqProofs := false, maxSteps := 4000000}) only [go_sem, ↓reduceIte, Bool.false_eq_true, Nat.reduceEqDiff, Nat.reduceAdd, Int.reduceLE, Int.reduceLT, Int.reduceEq, Int.reduceToNat, Int.toNat_natCast, Int.cast_ofNat_Int, Int.natCast_one, Nat.reduceMod, Nat.reduceDiv, UInt8.reduceToNat, Nat.reduceLT, c7z, c10, c11, c12, c13, c14, c15, r1, r2, r3, r4, r5, addI_comm b a, mdI_comm b a, z, hw, q1, q2, q3, q4, mdI_neg, mdI_unit a hw]
end T01

/- FixedNear answers true. -/
namespace T01
open Go Fw Go.Proofs
set_option maxRecDepth 100000
set_option linter.unusedSimpArgs false
set_option linter.unusedVariables false
theorem rnd_lim {n c : Nat} (hc : 0 < c) (hn : n ≤ 1000000000000) : lim n c = rnd n c := by
  have h : rnd n c ≤ 1000000000000 := by
    by_cases h1 : c = 1
    · subst h1
      have := rnd_exact n 1 (by decide)
      rw [Nat.mul_one] at this; omega
    · unfold rnd
      have : n / c ≤ n / 2 := Nat.div_le_div_left (by omega) (by omega)
      generalize n / c = q at *
      have h0 : n % c ≤ n := Nat.mod_le _ _
      split <;> omega
  unfold lim; omega
theorem prod_sgn (a b : Int) : sgn (decide (a < 0) != decide (b < 0)) (a.natAbs * b.natAbs) = a * b := by
  by_cases h : a < 0
  · by_cases h2 : b < 0
    · rw [decide_eq_true h, decide_eq_true h2]
      have e1 : a = -(a.natAbs : Int) := by omega
      have e2 : b = -(b.natAbs : Int) := by omega
      conv => rhs; rw [e1, e2]
      rw [Int.neg_mul_neg]; rfl
    · rw [decide_eq_true h, decide_eq_false h2]
      have e1 : a = -(a.natAbs : Int) := by omega
      have e2 : b = (b.natAbs : Int) := by omega
      conv => rhs; rw [e1, e2]
      rw [Int.neg_mul]; rfl
  · by_cases h2 : b < 0
    · rw [decide_eq_false h, decide_eq_true h2]
      have e1 : a = (a.natAbs : Int) := by omega
      have e2 : b = -(b.natAbs : Int) := by omega
      conv => rhs; rw [e1, e2]
      rw [Int.mul_neg]; rfl
    · rw [decide_eq_false h, decide_eq_false h2]
      have e1 : a = (a.natAbs : Int) := by omega
      have e2 : b = (b.natAbs : Int) := by omega
      conv => rhs; rw [e1, e2]
      rfl
theorem abs_prod {a b : Int} (ha : -1000000 ≤ a) (ha2 : a ≤ 1000000) (hb : -1000000 ≤ b) (hb2 : b ≤ 1000000) : a.natAbs * b.natAbs ≤ 1000000000000 :=
  Nat.mul_le_mul (show a.natAbs ≤ 1000000 by omega) (show b.natAbs ≤ 1000000 by omega)
theorem md_near {a b c : Int} (ha : -1000000 ≤ a) (ha2 : a ≤ 1000000) (hb : -1000000 ≤ b) (hb2 : b ≤ 1000000) (hc : 1 ≤ c) (hc2 : c ≤ 1000000) :
    2 * (a * b) - 2 * (mdI a b c * c) ≤ c ∧ -c ≤ 2 * (a * b) - 2 * (mdI a b c * c) ∧ -1000000000000 ≤ a * b ∧ a * b ≤ 1000000000000 := by
  have hN := abs_prod ha ha2 hb hb2
  have hp := prod_sgn a b
  unfold mdI mdC
  rw [clamp_id (n := a) (by omega) (by omega), clamp_id (n := b) (by omega) (by omega), clamp_id (n := c) (by omega) (by omega)]
  have hcn : decide (c < 0) = false := by simp; omega
  rw [hcn, Bool.bne_false, if_neg (show ¬ c = 0 by omega)]
  rw [← hp]
  generalize (decide (a < 0) != decide (b < 0)) = neg
  generalize a.natAbs * b.natAbs = N at *
  have e0 : (c.natAbs : Int) = c := by omega
  by_cases h0 : N = 0
  · rw [if_pos h0]; subst h0
    have : sgn neg 0 = 0 := by cases neg <;> rfl
    rw [this]; omega
  · rw [if_neg h0, ← sgn_lim (by omega), rnd_lim (by omega) hN]
    have hr := rnd_near N c.natAbs (by omega)
    rw [e0] at hr
    obtain ⟨p, hpe⟩ : ∃ p : Nat, rnd N c.natAbs * c.natAbs = p := ⟨_, rfl⟩
    rw [hpe] at hr
    have e1 : sgn neg (rnd N c.natAbs) * c = sgn neg p := by
      conv => lhs; rw [← e0]
      rw [← hpe]
      unfold sgn
      cases neg
      · rfl
      · simp only [if_true]; rw [Int.neg_mul]; rfl
    rw [e1]
    unfold sgn
    cases neg
    · simp only [Bool.false_eq_true, if_false]; omega
    · simp only [if_true]; omega
theorem law5 (a b c : Int) : CallW cx 5 [.int .i64 a, .int .i64 b, .int .i64 c] { heap := [], next := 0, low := 0 } fun v _ => v = .bool true := by
  refine CallW.fn' (fn := ir5) rfl rfl (by kernel_rfl) ir5.eq_1 ?_
  cases h1 : decide (a < -1000000)
  case true => simp (config := {contextual := true, implicitDefEqProofs := false, maxSteps := 4000000}) only [go_sem, ↓reduceIte, Bool.false_eq_true, Nat.reduceEqDiff, Nat.reduceAdd, Int.reduceLE, Int.reduceLT, Int.reduceEq, Int.reduceToNat, Int.toNat_natCast, Int.cast_ofNat_Int, Int.natCast_one, Nat.reduceMod, Nat.reduceDiv, UInt8.reduceToNat, Nat.reduceLT, c7z, h1]
  cases h2 : decide (1000000 < a)
  case true => simp (config := {contextual := true, implicitDefEqProofs := false, maxSteps := 4000000}) only [go_sem, ↓reduceIte, Bool.false_eq_true, Nat.reduceEqDiff, Nat.reduceAdd, Int.reduceLE, Int.reduceLT, Int.reduceEq, Int.reduceToNat, Int.toNat_natCast, Int.cast_ofNat_Int, Int.natCast_one, Nat.reduceMod, Nat.reduceDiv, UInt8.reduceToNat, Nat.reduceLT, c7z, h1, h2]
  cases h3 : decide (b < -1000000)
  case true => simp (config := {contextual := true, implicitDefEqProofs := false, maxSteps := 4000000}) only [go_sem, ↓reduceIte, Bool.false_eq_true, Nat.reduceEqDiff, Nat.reduceAdd, Int.reduceLE, Int.reduceLT, Int.reduceEq, Int.reduceToNat, Int.toNat_natCast, Int.cast_ofNat_Int, Int.natCast_one, Nat.reduceMod, Nat.reduceDiv, UInt8.reduceToNat, Nat.reduceLT, c7z, h1, h2, h3]
  cases h4 : decide (1000000 < b)
  case true => simp (config := {contextual := true, implicitDefEqProofs := false, maxSteps := 4000000}) only [go_sem, ↓reduceIte, Bool.false_eq_true, Nat.reduceEqDiff, Nat.reduceAdd, Int.reduceLE, Int.reduceLT, Int.reduceEq, Int.reduceToNat, Int.toNat_natCast, Int.cast_ofNat_Int, Int.natCast_one, Nat.reduceMod, Nat.reduceDiv, UInt8.reduceToNat, Nat.reduceLT, c7z, h1, h2, h3, h4]
  cases h5 : decide (c < 1)
  case true => simp (config := {contextual := true, implicitDefEqProofs := false, maxSteps := 4000000}) only [go_sem, ↓reduceIte, Bool.false_eq_true, Nat.reduceEqDiff, Nat.reduceAdd, Int.reduceLE, Int.reduceLT, Int.reduceEq, Int.reduceToNat, Int.toNat_natCast, Int.cast_ofNat_Int, Int.natCast_one, Nat.reduceMod, Nat.reduceDiv, UInt8.reduceToNat, Nat.reduceLT, c7z, h1, h2, h3, h4, h5]
  cases h6 : decide (1000000 < c)
  case true => simp (config := {contextual := true, implicitDefEqProofs := false, maxSteps := 4000000}) only [go_sem, ↓reduceIte, Bool.false_eq_true, Nat.reduceEqDiff, Nat.reduceAdd, Int.reduceLE, Int.reduceLT, Int.reduceEq, Int.reduceToNat, Int.toNat_natCast, Int.cast_ofNat_Int, Int.natCast_one, Nat.reduceMod, Nat.reduceDiv, UInt8.reduceToNat, Nat.reduceLT, c7z, h1, h2, h3, h4, h5, h6]
  have g1 := of_decide_eq_false h1
  have g2 := of_decide_eq_false h2
  have g3 := of_decide_eq_false h3
  have g4 := of_decide_eq_false h4
  have g5 := of_decide_eq_false h5
  have g6 := of_decide_eq_false h6
  obtain ⟨n1, n2, n3, n4⟩ := md_near (a := a) (b := b) (c := c) (by omega) (by omega) (by omega) (by omega) (by omega) (by omega)
  have k14 := fun st K => c14 a b c st K
  generalize mdI a b c = m at *
  have w1 : IntKind.i64.wrap (a * b) = a * b := wrap_i64 (by omega) (by omega)
  have w2 : IntKind.i64.wrap (m * c) = m * c := wrap_i64 (by omega) (by omega)
  have w3 : IntKind.i64.wrap (a * b - m * c) = a * b - m * c := wrap_i64 (by omega) (by omega)
  have w4 : IntKind.i64.wrap (2 * (a * b - m * c)) = 2 * (a * b - m * c) := wrap_i64 (by omega) (by omega)
  have w5 : IntKind.i64.wrap (0 - c) = -c := by rw [wrap_i64 (by omega) (by omega)]; omega
  have d1 : decide (2 * (a * b - m * c) ≤ c) = true := by simp; omega
  have d2 : decide (-c ≤ 2 * (a * b - m * c)) = true := by simp; omega
  simp (config := {contextual := true, implicitDefEqProofs := false, maxSteps := 4000000}) only [go_sem, ↓reduceIte, Bool.false_eq_true, Nat.reduceEqDiff, Nat.reduceAdd, Int.reduceLE, Int.reduceLT, Int.reduceEq, Int.reduceToNat, Int.toNat_natCast, Int.cast_ofNat_Int, Int.natCast_one, Nat.reduceMod, Nat.reduceDiv, UInt8.reduceToNat, Nat.reduceLT, c7z, h1, h2, h3, h4, h5, h6, k14, w1, w2, w3, w4, w5, d1, d2]
theorem hlaw4 (as0 : List AV) (h : TyArgs Tryd.prog Tryd.f4.params.toList as0) : ∃ k s', callF cx k 4 as0 st0 = some (.bool true, s') := by
  obtain ⟨a1, r1, rfl, h1, a2, r2, rfl, h2, a3, r3, rfl, h3, h6⟩ : ∃ a1 r1, as0 = a1 :: r1 ∧ TyArg Tryd.prog 2 a1 ∧ ∃ a2 r2, r1 = a2 :: r2 ∧ TyArg Tryd.prog 2 a2 ∧ ∃ a3 r3, r2 = a3 :: r3 ∧ TyArg Tryd.prog 2 a3 ∧ r3 = [] := h
  subst h6
  obtain ⟨x, rfl, _⟩ := TyArg_int Tryd.underlying2 h1
  obtain ⟨x1, rfl, _⟩ := TyArg_int Tryd.underlying2 h2
  obtain ⟨y1, rfl, _⟩ := TyArg_int Tryd.underlying2 h3
  obtain ⟨k', v, s', h9, rfl⟩ := law4 x x1 y1
  exact ⟨k', s', h9⟩
theorem hlaw5 (as0 : List AV) (h : TyArgs Tryd.prog Tryd.f5.params.toList as0) : ∃ k s', callF cx k 5 as0 st0 = some (.bool true, s') := by
  obtain ⟨a1, r1, rfl, h1, a2, r2, rfl, h2, a3, r3, rfl, h3, h6⟩ : ∃ a1 r1, as0 = a1 :: r1 ∧ TyArg Tryd.prog 2 a1 ∧ ∃ a2 r2, r1 = a2 :: r2 ∧ TyArg Tryd.prog 2 a2 ∧ ∃ a3 r3, r2 = a3 :: r3 ∧ TyArg Tryd.prog 2 a3 ∧ r3 = [] := h
  subst h6
  obtain ⟨x, rfl, _⟩ := TyArg_int Tryd.underlying2 h1
  obtain ⟨x1, rfl, _⟩ := TyArg_int Tryd.underlying2 h2
  obtain ⟨y1, rfl, _⟩ := TyArg_int Tryd.underlying2 h3
  obtain ⟨k', v, s', h9, rfl⟩ := law5 x x1 y1
  exact ⟨k', s', h9⟩
end T01
