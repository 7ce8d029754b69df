/- Parts of the proof, one behind the other. -/
import Derived.Test.YtofeijldadameaaDoorK01d
import Derived.Test.YtofeijldadameaaDoorFwX
import Derived.Test.YtofeijldadameaaDoorK01n
set_option linter.unusedSimpArgs false
set_option linter.unusedVariables false
/- Arithmetic of words of 64 bits; math/bits. -/
namespace T01
open Go Fw Go.Proofs
set_option maxRecDepth 100000
set_option linter.unusedSimpArgs false
set_option linter.unusedVariables false
theorem wrap_u64 (n : Int) : IntKind.u64.wrap n = n % 18446744073709551616 := rfl
theorem wrapN (n : Nat) : IntKind.u64.wrap (n : Int) = ((n % 18446744073709551616 : Nat) : Int) := by rw [wrap_u64]; omega
theorem wrap_u8 (n : Int) : IntKind.u8.wrap n = n % 256 := rfl
theorem addC (a b : Nat) : (a : Int) + (b : Int) = ((a + b : Nat) : Int) := rfl
theorem mulC (a b : Nat) : (a : Int) * (b : Int) = ((a * b : Nat) : Int) := rfl
theorem and_mask (x : Nat) : evBin .and (.int .u64 (x : Int)) (.int .u64 4294967295) = some (.int .u64 ((x % 4294967296 : Nat) : Int)) := by
  rw [bin_and]
  congr 2
  have h1 : (BitVec.ofInt IntKind.u64.bits (x : Int) &&& BitVec.ofInt IntKind.u64.bits 4294967295).toNat = x % 4294967296 := by
    have : (BitVec.ofInt 64 (x : Int) &&& BitVec.ofInt 64 4294967295).toNat = x % 4294967296 := by
      rw [BitVec.toNat_and, BitVec.toNat_ofInt, BitVec.toNat_ofInt]
      have h2 : ((x : Int) % ((2 ^ 64 : Nat) : Int)).toNat = x % 18446744073709551616 := by omega
      have h3 : ((4294967295 : Int) % ((2 ^ 64 : Nat) : Int)).toNat = 2 ^ 32 - 1 := by decide
      rw [h2, h3, Nat.and_two_pow_sub_one_eq_mod]
      omega
    exact this
  rw [h1, wrapN]
  congr 1; omega
theorem shr_c (x : Nat) (c : Nat) (hc : c ≤ 64) : evBin .shr (.int .u64 (x : Int)) (.int .u64 (c : Int)) = some (.int .u64 ((x / 2 ^ c : Nat) : Int)) := by
  rw [bin_shr, if_neg (by omega)]
  congr 2
  have h : min (c : Int).toNat IntKind.u64.bits = c := by rw [Int.toNat_natCast]; exact Nat.min_eq_left hc
  rw [h, Int.fdiv_eq_ediv_of_nonneg _ (Int.pow_nonneg (by decide))]
  norm_cast
theorem shr_32 (x : Nat) : evBin .shr (.int .u64 (x : Int)) (.int .u64 32) = some (.int .u64 ((x / 4294967296 : Nat) : Int)) := shr_c x 32 (by decide)
theorem shr_16 (x : Nat) : evBin .shr (.int .u64 (x : Int)) (.int .u64 16) = some (.int .u64 ((x / 65536 : Nat) : Int)) := shr_c x 16 (by decide)
theorem shr_8 (x : Nat) : evBin .shr (.int .u64 (x : Int)) (.int .u64 8) = some (.int .u64 ((x / 256 : Nat) : Int)) := shr_c x 8 (by decide)
theorem shl_c (x : Nat) (c : Nat) (hc : c ≤ 64) : evBin .shl (.int .u64 (x : Int)) (.int .u64 (c : Int)) = some (.int .u64 ((x * 2 ^ c % 18446744073709551616 : Nat) : Int)) := by
  rw [bin_shl, if_neg (by omega)]
  congr 2
  have h : min (c : Int).toNat IntKind.u64.bits = c := by rw [Int.toNat_natCast]; exact Nat.min_eq_left hc
  rw [h, ← wrapN]
  congr 1
/- clamp, size -/
def clampI (n : Int) : Int := max (-1000000000000) (min 1000000000000 n)
theorem clamp_lo (n : Int) : -1000000000000 ≤ clampI n := by unfold clampI; omega
theorem clamp_hi (n : Int) : clampI n ≤ 1000000000000 := by unfold clampI; omega
theorem clamp_id {n : Int} (h : -1000000000000 ≤ n) (h2 : n ≤ 1000000000000) : clampI n = n := by unfold clampI; omega
theorem c15 (n : Int) (s : St) (K : AV → St → Prop) : CallW cx 15 [.int .i64 n] s K = K (.int .i64 (clampI n)) s := by
  refine CallW.eq (CallW.fn' (fn := ir15) rfl rfl (by kernel_rfl) ir15.eq_1 ?_) K
  simp (config := {contextual := true, implicitDefEqProofs := false, maxSteps := 4000000}) only [go_sem, ↓reduceIte, Bool.false_eq_true, Nat.reduceEqDiff, Nat.reduceAdd, Int.reduceLE, Int.reduceLT, Int.reduceEq, Int.reduceToNat, Int.toNat_natCast, Int.cast_ofNat_Int, Int.natCast_one, Nat.reduceMod, Nat.reduceDiv, UInt8.reduceToNat, Nat.reduceLT, clampI]
theorem c30 (n : Int) (s : St) (K : AV → St → Prop) : CallW cx 30 [.int .i64 n] s K = K (.int .i64 (clampI n)) s := by
  refine CallW.eq (CallW.fn' (fn := ir30) rfl rfl (by kernel_rfl) ir30.eq_1 ?_) K
  simp (config := {contextual := true, implicitDefEqProofs := false, maxSteps := 4000000}) only [go_sem, ↓reduceIte, Bool.false_eq_true, Nat.reduceEqDiff, Nat.reduceAdd, Int.reduceLE, Int.reduceLT, Int.reduceEq, Int.reduceToNat, Int.toNat_natCast, Int.cast_ofNat_Int, Int.natCast_one, Nat.reduceMod, Nat.reduceDiv, UInt8.reduceToNat, Nat.reduceLT, clampI]
theorem c25 (n : Int) (h : -9223372036854775807 ≤ n) (h2 : n ≤ 9223372036854775807) (s : St) (K : AV → St → Prop) : CallW cx 25 [.int .i64 n] s K = K (.tuple [.int .u64 (n.natAbs : Int), .bool (decide (n < 0))]) s := by
  refine CallW.eq (CallW.fn' (fn := ir25) rfl rfl (by kernel_rfl) ir25.eq_1 ?_) K
  cases hx : decide (n < 0) with
  | true =>
    have h3 : n < 0 := by simpa using hx
    have hw : IntKind.i64.wrap (0 - n) = (n.natAbs : Int) := by rw [wrap_i64 (by omega) (by omega)]; omega
    have hm : n.natAbs % 18446744073709551616 = n.natAbs := by omega
    simp (config := {contextual := true, implicitDefEqProofs := false, maxSteps := 4000000}) only [go_sem, ↓reduceIte, Bool.false_eq_true, Nat.reduceEqDiff, Nat.reduceAdd, Int.reduceLE, Int.reduceLT, Int.reduceEq, Int.reduceToNat, Int.toNat_natCast, Int.cast_ofNat_Int, Int.natCast_one, Nat.reduceMod, Nat.reduceDiv, UInt8.reduceToNat, Nat.reduceLT, hx, hw, wrapN, hm]
  | false =>
    have h3 : ¬ n < 0 := by simpa using hx
    have hw : IntKind.u64.wrap n = (n.natAbs : Int) := by rw [wrap_u64]; omega
    simp (config := {contextual := true, implicitDefEqProofs := false, maxSteps := 4000000}) only [go_sem, ↓reduceIte, Bool.false_eq_true, Nat.reduceEqDiff, Nat.reduceAdd, Int.reduceLE, Int.reduceLT, Int.reduceEq, Int.reduceToNat, Int.toNat_natCast, Int.cast_ofNat_Int, Int.natCast_one, Nat.reduceMod, Nat.reduceDiv, UInt8.reduceToNat, Nat.reduceLT, hx, hw]
theorem c31 (n : Int) (h : -9223372036854775807 ≤ n) (h2 : n ≤ 9223372036854775807) (s : St) (K : AV → St → Prop) : CallW cx 31 [.int .i64 n] s K = K (.int .u64 (n.natAbs : Int)) s := by
  refine CallW.eq (CallW.fn' (fn := ir31) rfl rfl (by kernel_rfl) ir31.eq_1 ?_) K
  cases hx : decide (n < 0) with
  | true =>
    have h3 : n < 0 := by simpa using hx
    have hw : IntKind.i64.wrap (0 - n) = (n.natAbs : Int) := by rw [wrap_i64 (by omega) (by omega)]; omega
    have hm : n.natAbs % 18446744073709551616 = n.natAbs := by omega
    simp (config := {contextual := true, implicitDefEqProofs := false, maxSteps := 4000000}) only [go_sem, ↓reduceIte, Bool.false_eq_true, Nat.reduceEqDiff, Nat.reduceAdd, Int.reduceLE, Int.reduceLT, Int.reduceEq, Int.reduceToNat, Int.toNat_natCast, Int.cast_ofNat_Int, Int.natCast_one, Nat.reduceMod, Nat.reduceDiv, UInt8.reduceToNat, Nat.reduceLT, hx, hw, wrapN, hm]
  | false =>
    have h3 : ¬ n < 0 := by simpa using hx
    have hw : IntKind.u64.wrap n = (n.natAbs : Int) := by rw [wrap_u64]; omega
    simp (config := {contextual := true, implicitDefEqProofs := false, maxSteps := 4000000}) only [go_sem, ↓reduceIte, Bool.false_eq_true, Nat.reduceEqDiff, Nat.reduceAdd, Int.reduceLE, Int.reduceLT, Int.reduceEq, Int.reduceToNat, Int.toNat_natCast, Int.cast_ofNat_Int, Int.natCast_one, Nat.reduceMod, Nat.reduceDiv, UInt8.reduceToNat, Nat.reduceLT, hx, hw]
/- the product by halves -/
theorem half_prod (x y : Nat) (hx : x < 18446744073709551616) (hy : y < 18446744073709551616) :
    x * y = (x / 4294967296 * (y / 4294967296)) * 18446744073709551616 + (x / 4294967296 * (y % 4294967296)) * 4294967296 + (x % 4294967296 * (y / 4294967296)) * 4294967296 + x % 4294967296 * (y % 4294967296) ∧
    x % 4294967296 * (y % 4294967296) ≤ 4294967295 * 4294967295 ∧ x / 4294967296 * (y % 4294967296) ≤ 4294967295 * 4294967295 ∧ x % 4294967296 * (y / 4294967296) ≤ 4294967295 * 4294967295 ∧ x / 4294967296 * (y / 4294967296) ≤ 4294967295 * 4294967295 := by
  refine ⟨?_, Nat.mul_le_mul (by omega) (by omega), Nat.mul_le_mul (by omega) (by omega), Nat.mul_le_mul (by omega) (by omega), Nat.mul_le_mul (by omega) (by omega)⟩
  have hx1 := Nat.div_add_mod x 4294967296
  have hy1 := Nat.div_add_mod y 4294967296
  generalize x / 4294967296 = x1 at *
  generalize x % 4294967296 = x0 at *
  generalize y / 4294967296 = y1 at *
  generalize y % 4294967296 = y0 at *
  subst hx1 hy1
  grind
theorem c26 (x y : Nat) (hx : x < 18446744073709551616) (hy : y < 18446744073709551616) (s : St) (K : AV → St → Prop) :
    CallW cx 26 [.int .u64 (x : Int), .int .u64 (y : Int)] s K = K (.tuple [.int .u64 ((x * y / 18446744073709551616 : Nat) : Int), .int .u64 ((x * y % 18446744073709551616 : Nat) : Int)]) s := by
  refine CallW.eq (CallW.fn' (fn := ir26) rfl rfl (by kernel_rfl) ir26.eq_1 ?_) K
  obtain ⟨h, b1, b2, b3, b4⟩ := half_prod x y hx hy
  simp (config := {contextual := true, implicitDefEqProofs := false, maxSteps := 4000000}) only [go_sem, ↓reduceIte, Bool.false_eq_true, Nat.reduceEqDiff, Nat.reduceAdd, Int.reduceLE, Int.reduceLT, Int.reduceEq, Int.reduceToNat, Int.toNat_natCast, Int.cast_ofNat_Int, Int.natCast_one, Nat.reduceMod, Nat.reduceDiv, UInt8.reduceToNat, Nat.reduceLT, and_mask, shr_32, wrapN, addC, mulC]
  rw [h]
  generalize x / 4294967296 * (y / 4294967296) = p11 at *
  generalize x / 4294967296 * (y % 4294967296) = p10 at *
  generalize x % 4294967296 * (y / 4294967296) = p01 at *
  generalize x % 4294967296 * (y % 4294967296) = p00 at *
  refine congrArg (fun z : Nat => AV.tuple [AV.int IntKind.u64 (z : Int), _]) ?_
  omega
/- the same, of the reference -/
theorem quo_32 (x : Nat) : evBin .quo (.int .u64 (x : Int)) (.int .u64 4294967296) = some (.int .u64 ((x / 4294967296 % 18446744073709551616 : Nat) : Int)) := by
  rw [bin_quo, if_neg (by decide), ← wrapN]; congr 2
theorem rem_32 (x : Nat) : evBin .rem (.int .u64 (x : Int)) (.int .u64 4294967296) = some (.int .u64 ((x % 4294967296 : Nat) : Int)) := by
  rw [bin_rem, if_neg (by decide)]; congr 2
theorem agg2 {a b c d : Nat} (h : a = c) (h2 : b = d) : AV.agg [.int .u64 (a : Int), .int .u64 (b : Int)] = .agg [.int .u64 (c : Int), .int .u64 (d : Int)] := by rw [h, h2]
theorem tup2 {a b c d : Nat} (h : a = c) (h2 : b = d) : AV.tuple [.int .u64 (a : Int), .int .u64 (b : Int)] = .tuple [.int .u64 (c : Int), .int .u64 (d : Int)] := by rw [h, h2]
theorem mulK (a : Nat) : (a : Int) * 4294967296 = ((a * 4294967296 : Nat) : Int) := rfl
theorem c32 (x y : Nat) (hx : x < 18446744073709551616) (hy : y < 18446744073709551616) (s : St) (K : AV → St → Prop) :
    CallW cx 32 [.int .u64 (x : Int), .int .u64 (y : Int)] s K = K (.agg [.int .u64 ((x * y / 18446744073709551616 : Nat) : Int), .int .u64 ((x * y % 18446744073709551616 : Nat) : Int)]) s := by
  refine CallW.eq (CallW.fn' (fn := ir32) rfl rfl (by kernel_rfl) ir32.eq_1 ?_) K
  obtain ⟨h, b1, b2, b3, b4⟩ := half_prod x y hx hy
  have q1 : x / 4294967296 % 18446744073709551616 = x / 4294967296 := by omega
  have q2 : y / 4294967296 % 18446744073709551616 = y / 4294967296 := by omega
  simp (config := {contextual := true, implicitDefEqProofs := false, maxSteps := 4000000}) only [go_sem, ↓reduceIte, Bool.false_eq_true, Nat.reduceEqDiff, Nat.reduceAdd, Int.reduceLE, Int.reduceLT, Int.reduceEq, Int.reduceToNat, Int.toNat_natCast, Int.cast_ofNat_Int, Int.natCast_one, Nat.reduceMod, Nat.reduceDiv, UInt8.reduceToNat, Nat.reduceLT, quo_32, rem_32, wrapN, addC, mulC, mulK, q1, q2]
  rw [h]
  generalize x / 4294967296 * (y / 4294967296) = p11 at *
  generalize x / 4294967296 * (y % 4294967296) = p10 at *
  generalize x % 4294967296 * (y / 4294967296) = p01 at *
  generalize x % 4294967296 * (y % 4294967296) = p00 at *
  refine agg2 ?_ ?_ <;> omega
/- the length of a word -/
def lenU (x : Nat) : Nat := if x = 0 then 0 else x.log2 + 1
theorem lenU_lt (x : Nat) : x < 2 ^ lenU x := by
  unfold lenU; split
  · subst x; decide
  · rename_i h; exact (Nat.log2_lt h).1 (Nat.lt_succ_self _)
theorem lenU_le (x : Nat) (h : 0 < x) : 2 ^ (lenU x - 1) ≤ x := by
  unfold lenU; rw [if_neg (by omega)]; exact (Nat.le_log2 (by omega)).1 (Nat.le_refl _)
def len8 : List UInt8 := [0, 1, 2, 2, 3, 3, 3, 3, 4, 4, 4, 4, 4, 4, 4, 4, 5, 5, 5, 5, 5, 5, 5, 5, 5, 5, 5, 5, 5, 5, 5, 5, 6, 6, 6, 6, 6, 6, 6, 6, 6, 6, 6, 6, 6, 6, 6, 6, 6, 6, 6, 6, 6, 6, 6, 6, 6, 6, 6, 6, 6, 6, 6, 6, 7, 7, 7, 7, 7, 7, 7, 7, 7, 7, 7, 7, 7, 7, 7, 7, 7, 7, 7, 7, 7, 7, 7, 7, 7, 7, 7, 7, 7, 7, 7, 7, 7, 7, 7, 7, 7, 7, 7, 7, 7, 7, 7, 7, 7, 7, 7, 7, 7, 7, 7, 7, 7, 7, 7, 7, 7, 7, 7, 7, 7, 7, 7, 7, 8, 8, 8, 8, 8, 8, 8, 8, 8, 8, 8, 8, 8, 8, 8, 8, 8, 8, 8, 8, 8, 8, 8, 8, 8, 8, 8, 8, 8, 8, 8, 8, 8, 8, 8, 8, 8, 8, 8, 8, 8, 8, 8, 8, 8, 8, 8, 8, 8, 8, 8, 8, 8, 8, 8, 8, 8, 8, 8, 8, 8, 8, 8, 8, 8, 8, 8, 8, 8, 8, 8, 8, 8, 8, 8, 8, 8, 8, 8, 8, 8, 8, 8, 8, 8, 8, 8, 8, 8, 8, 8, 8, 8, 8, 8, 8, 8, 8, 8, 8, 8, 8, 8, 8, 8, 8, 8, 8, 8, 8, 8, 8, 8, 8, 8, 8, 8, 8, 8, 8, 8, 8, 8, 8, 8, 8, 8, 8]
theorem len8_get : ∀ x : Fin 256, (len8.getD x.val 0).toNat = lenU x.val := by decide +kernel
theorem lenU_div (x k : Nat) (h : 2 ^ k ≤ x) : lenU x = lenU (x / 2 ^ k) + k := by
  have h1 : 0 < x := Nat.lt_of_lt_of_le (Nat.two_pow_pos k) h
  have h2 : 0 < x / 2 ^ k := Nat.div_pos h (Nat.two_pow_pos k)
  unfold lenU
  rw [if_neg (by omega), if_neg (by omega)]
  have a1 : 2 ^ (x / 2 ^ k).log2 ≤ x / 2 ^ k := (Nat.le_log2 (by omega)).1 (Nat.le_refl _)
  have a2 : x / 2 ^ k < 2 ^ ((x / 2 ^ k).log2 + 1) := (Nat.log2_lt (by omega)).1 (Nat.lt_succ_self _)
  generalize (x / 2 ^ k).log2 = m at *
  rw [Nat.le_div_iff_mul_le (Nat.two_pow_pos k), ← Nat.pow_add] at a1
  rw [Nat.div_lt_iff_lt_mul (Nat.two_pow_pos k), ← Nat.pow_add] at a2
  have b1 := (Nat.le_log2 (show x ≠ 0 by omega)).2 a1
  have b2 := (Nat.log2_lt (show x ≠ 0 by omega)).2 a2
  omega
theorem len_256 : ∀ x : Fin 256, lenU x.val ≤ 8 := by decide +kernel
theorem fin64 (c : Int) (z : Nat) (hc : 0 ≤ c) (hc2 : c ≤ 64) (hz : z < 256) : IntKind.i64.wrap (c + IntKind.i64.wrap (lenU z : Int)) = c + lenU z := by
  have := len_256 ⟨z, hz⟩
  simp only at this
  rw [wrap_i64 (x := (lenU z : Int)) (by omega) (by omega), wrap_i64 (by omega) (by omega)]
theorem wrap8 (z : Nat) (h : z < 256) : IntKind.u8.wrap (z : Int) = (z : Int) := by rw [wrap_u8]; omega
theorem c69 (x : Nat) (hx : x < 18446744073709551616) (s : St) (K : AV → St → Prop) : CallW cx 69 [.int .u64 (x : Int)] s K = K (.int .i64 (lenU x : Int)) s := by
  refine CallW.eq (CallW.fn' (fn := ir69) rfl rfl (by kernel_rfl) ir69.eq_1 ?_) K
  have hg : ∀ y : Nat, y < 256 → ((len8.getD y 0).toNat : Int) = (lenU y : Int) := fun y hy => by rw [len8_get ⟨y, hy⟩]
  simp only [len8] at hg
  by_cases h1 : 4294967296 ≤ x
  · have d1 : decide ((4294967296 : Int) ≤ (x : Int)) = true := by simp; omega
    have e1 := lenU_div x 32 (by omega)
    simp only [Nat.reducePow] at e1
    generalize hy : x / 4294967296 = y at *
    by_cases h16ya : 65536 ≤ y
    · have d16 : decide ((65536 : Int) ≤ (y : Int)) = true := by simp; omega
      have e16 := lenU_div y 16 (by omega)
      simp only [Nat.reducePow] at e16
      generalize h16y : y / 65536 = ya at *
      by_cases h8yab : 256 ≤ ya
      · have d8 : decide ((256 : Int) ≤ (ya : Int)) = true := by simp; omega
        have e8 := lenU_div ya 8 (by omega)
        simp only [Nat.reducePow] at e8
        generalize h8y : ya / 256 = yab at *
        simp (config := {contextual := true, implicitDefEqProofs := false, maxSteps := 4000000}) only [go_sem, ↓reduceIte, Bool.false_eq_true, Nat.reduceEqDiff, Nat.reduceAdd, Int.reduceLE, Int.reduceLT, Int.reduceEq, Int.reduceToNat, Int.toNat_natCast, Int.cast_ofNat_Int, Int.natCast_one, Nat.reduceMod, Nat.reduceDiv, UInt8.reduceToNat, Nat.reduceLT, shr_32, shr_16, shr_8, wrap8 yab (by omega), d1, hy, d16, h16y, d8, h8y]
        refine ⟨by omega, by omega, ?_⟩
        rw [hg yab (by omega)]
        exact congrArg (AV.int .i64) ((fin64 56 yab (by omega) (by omega) (by omega)).trans (by omega))
      · have d8 : decide ((256 : Int) ≤ (ya : Int)) = false := by simp; omega
        simp (config := {contextual := true, implicitDefEqProofs := false, maxSteps := 4000000}) only [go_sem, ↓reduceIte, Bool.false_eq_true, Nat.reduceEqDiff, Nat.reduceAdd, Int.reduceLE, Int.reduceLT, Int.reduceEq, Int.reduceToNat, Int.toNat_natCast, Int.cast_ofNat_Int, Int.natCast_one, Nat.reduceMod, Nat.reduceDiv, UInt8.reduceToNat, Nat.reduceLT, shr_32, shr_16, shr_8, wrap8 ya (by omega), d1, hy, d16, h16y, d8]
        refine ⟨by omega, by omega, ?_⟩
        rw [hg ya (by omega)]
        exact congrArg (AV.int .i64) ((fin64 48 ya (by omega) (by omega) (by omega)).trans (by omega))
    · have d16 : decide ((65536 : Int) ≤ (y : Int)) = false := by simp; omega
      by_cases h8yc : 256 ≤ y
      · have d8 : decide ((256 : Int) ≤ (y : Int)) = true := by simp; omega
        have e8 := lenU_div y 8 (by omega)
        simp only [Nat.reducePow] at e8
        generalize h8y : y / 256 = yc at *
        simp (config := {contextual := true, implicitDefEqProofs := false, maxSteps := 4000000}) only [go_sem, ↓reduceIte, Bool.false_eq_true, Nat.reduceEqDiff, Nat.reduceAdd, Int.reduceLE, Int.reduceLT, Int.reduceEq, Int.reduceToNat, Int.toNat_natCast, Int.cast_ofNat_Int, Int.natCast_one, Nat.reduceMod, Nat.reduceDiv, UInt8.reduceToNat, Nat.reduceLT, shr_32, shr_16, shr_8, wrap8 yc (by omega), d1, hy, d16, d8, h8y]
        refine ⟨by omega, by omega, ?_⟩
        rw [hg yc (by omega)]
        exact congrArg (AV.int .i64) ((fin64 40 yc (by omega) (by omega) (by omega)).trans (by omega))
      · have d8 : decide ((256 : Int) ≤ (y : Int)) = false := by simp; omega
        simp (config := {contextual := true, implicitDefEqProofs := false, maxSteps := 4000000}) only [go_sem, ↓reduceIte, Bool.false_eq_true, Nat.reduceEqDiff, Nat.reduceAdd, Int.reduceLE, Int.reduceLT, Int.reduceEq, Int.reduceToNat, Int.toNat_natCast, Int.cast_ofNat_Int, Int.natCast_one, Nat.reduceMod, Nat.reduceDiv, UInt8.reduceToNat, Nat.reduceLT, shr_32, shr_16, shr_8, wrap8 y (by omega), d1, hy, d16, d8]
        refine ⟨by omega, by omega, ?_⟩
        rw [hg y (by omega)]
        exact congrArg (AV.int .i64) ((fin64 32 y (by omega) (by omega) (by omega)).trans (by omega))
  · have d1 : decide ((4294967296 : Int) ≤ (x : Int)) = false := by simp; omega
    by_cases h16xa : 65536 ≤ x
    · have d16 : decide ((65536 : Int) ≤ (x : Int)) = true := by simp; omega
      have e16 := lenU_div x 16 (by omega)
      simp only [Nat.reducePow] at e16
      generalize h16y : x / 65536 = xa at *
      by_cases h8xab : 256 ≤ xa
      · have d8 : decide ((256 : Int) ≤ (xa : Int)) = true := by simp; omega
        have e8 := lenU_div xa 8 (by omega)
        simp only [Nat.reducePow] at e8
        generalize h8y : xa / 256 = xab at *
        simp (config := {contextual := true, implicitDefEqProofs := false, maxSteps := 4000000}) only [go_sem, ↓reduceIte, Bool.false_eq_true, Nat.reduceEqDiff, Nat.reduceAdd, Int.reduceLE, Int.reduceLT, Int.reduceEq, Int.reduceToNat, Int.toNat_natCast, Int.cast_ofNat_Int, Int.natCast_one, Nat.reduceMod, Nat.reduceDiv, UInt8.reduceToNat, Nat.reduceLT, shr_32, shr_16, shr_8, wrap8 xab (by omega), d1, d16, h16y, d8, h8y]
        refine ⟨by omega, by omega, ?_⟩
        rw [hg xab (by omega)]
        exact congrArg (AV.int .i64) ((fin64 24 xab (by omega) (by omega) (by omega)).trans (by omega))
      · have d8 : decide ((256 : Int) ≤ (xa : Int)) = false := by simp; omega
        simp (config := {contextual := true, implicitDefEqProofs := false, maxSteps := 4000000}) only [go_sem, ↓reduceIte, Bool.false_eq_true, Nat.reduceEqDiff, Nat.reduceAdd, Int.reduceLE, Int.reduceLT, Int.reduceEq, Int.reduceToNat, Int.toNat_natCast, Int.cast_ofNat_Int, Int.natCast_one, Nat.reduceMod, Nat.reduceDiv, UInt8.reduceToNat, Nat.reduceLT, shr_32, shr_16, shr_8, wrap8 xa (by omega), d1, d16, h16y, d8]
        refine ⟨by omega, by omega, ?_⟩
        rw [hg xa (by omega)]
        exact congrArg (AV.int .i64) ((fin64 16 xa (by omega) (by omega) (by omega)).trans (by omega))
    · have d16 : decide ((65536 : Int) ≤ (x : Int)) = false := by simp; omega
      by_cases h8xc : 256 ≤ x
      · have d8 : decide ((256 : Int) ≤ (x : Int)) = true := by simp; omega
        have e8 := lenU_div x 8 (by omega)
        simp only [Nat.reducePow] at e8
        generalize h8y : x / 256 = xc at *
        simp (config := {contextual := true, implicitDefEqProofs := false, maxSteps := 4000000}) only [go_sem, ↓reduceIte, Bool.false_eq_true, Nat.reduceEqDiff, Nat.reduceAdd, Int.reduceLE, Int.reduceLT, Int.reduceEq, Int.reduceToNat, Int.toNat_natCast, Int.cast_ofNat_Int, Int.natCast_one, Nat.reduceMod, Nat.reduceDiv, UInt8.reduceToNat, Nat.reduceLT, shr_32, shr_16, shr_8, wrap8 xc (by omega), d1, d16, d8, h8y]
        refine ⟨by omega, by omega, ?_⟩
        rw [hg xc (by omega)]
        exact congrArg (AV.int .i64) ((fin64 8 xc (by omega) (by omega) (by omega)).trans (by omega))
      · have d8 : decide ((256 : Int) ≤ (x : Int)) = false := by simp; omega
        simp (config := {contextual := true, implicitDefEqProofs := false, maxSteps := 4000000}) only [go_sem, ↓reduceIte, Bool.false_eq_true, Nat.reduceEqDiff, Nat.reduceAdd, Int.reduceLE, Int.reduceLT, Int.reduceEq, Int.reduceToNat, Int.toNat_natCast, Int.cast_ofNat_Int, Int.natCast_one, Nat.reduceMod, Nat.reduceDiv, UInt8.reduceToNat, Nat.reduceLT, shr_32, shr_16, shr_8, wrap8 x (by omega), d1, d16, d8]
        refine ⟨by omega, by omega, ?_⟩
        rw [hg x (by omega)]
        exact congrArg (AV.int .i64) ((fin64 0 x (by omega) (by omega) (by omega)).trans (by omega))
theorem c56 (x : Nat) (hx : x < 18446744073709551616) (s : St) (K : AV → St → Prop) : CallW cx 56 [.int .u64 (x : Int)] s K = K (.int .i64 ((64 - lenU x : Nat) : Int)) s := by
  refine CallW.eq (CallW.fn' (fn := ir56) rfl rfl (by kernel_rfl) ir56.eq_1 ?_) K
  have hl : lenU x ≤ 64 := by
    by_cases h : 0 < x
    · have h1 := lenU_le x h
      have h2 : lenU x - 1 < 64 := (Nat.pow_lt_pow_iff_right (by decide : 1 < 2)).1 (Nat.lt_of_le_of_lt h1 (by simpa using hx))
      omega
    · have : x = 0 := by omega
      subst this; decide
  have hw : IntKind.i64.wrap (64 - (lenU x : Int)) = ((64 - lenU x : Nat) : Int) := by rw [wrap_i64 (by omega) (by omega)]; omega
  have k69 := fun st K => c69 x hx st K
  simp (config := {contextual := true, implicitDefEqProofs := false, maxSteps := 4000000}) only [go_sem, ↓reduceIte, Bool.false_eq_true, Nat.reduceEqDiff, Nat.reduceAdd, Int.reduceLE, Int.reduceLT, Int.reduceEq, Int.reduceToNat, Int.toNat_natCast, Int.cast_ofNat_Int, Int.natCast_one, Nat.reduceMod, Nat.reduceDiv, UInt8.reduceToNat, Nat.reduceLT, k69, hw]
end T01

/- Division of two words by one. -/
namespace T01
open Go Fw Go.Proofs
set_option maxRecDepth 100000
set_option linter.unusedSimpArgs false
set_option linter.unusedVariables false
theorem mulL (a : Nat) : 4294967296 * (a : Int) = ((4294967296 * a : Nat) : Int) := rfl
theorem addL (a : Nat) : (a : Int) + 1 = ((a + 1 : Nat) : Int) := rfl
theorem ltC (a b : Nat) : ((a : Int) < (b : Int)) = (a < b) := by simp
theorem leK (a : Nat) : ((4294967296 : Int) ≤ (a : Int)) = (4294967296 ≤ a) := by apply propext; omega
theorem pred64 {a : Nat} (h : 1 ≤ a) (h2 : a < 18446744073709551616) : IntKind.u64.wrap ((a : Int) - 1) = ((a - 1 : Nat) : Int) := by rw [wrap_u64]; omega
theorem dloop_bounds {q y0 r u1 : Nat} (hq : q < 4294967296) (hy0 : y0 < 4294967296) (hr : r < 4294967296) (h1 : u1 < 4294967296) : q * y0 % 18446744073709551616 = q * y0 ∧ (4294967296 * r % 18446744073709551616 + u1) % 18446744073709551616 = 4294967296 * r + u1 := by
  have := Nat.mul_le_mul (show q ≤ 4294967295 by omega) (show y0 ≤ 4294967295 by omega)
  constructor <;> omega
theorem l45a (y1 y0 u u1 : Nat) (hy1 : y1 < 4294967296) (hy0 : y0 < 4294967296) (h1 : u1 < 4294967296) (hp : 0 < y1) (hu : u < y1 * 4294967296 + y0) (st : St) (Q : Sig → FE → St → Prop) : ∀ (n q r : Nat) (e : FE), 4294967296 - r ≤ n → Dig 4294967296 y1 y0 u u1 q r →
    e 15 = .int .u64 (q : Int) → e 16 = .int .u64 (r : Int) → e 9 = .int .u64 (y1 : Int) → e 10 = .int .u64 (y0 : Int) → e 13 = .int .u64 (u1 : Int) →
    (∀ e', e' 15 = .int .u64 (((u * 4294967296 + u1) / (y1 * 4294967296 + y0) : Nat) : Int) → Q (.exit 0) e' st) → WLoop cx ir45L0 e st Q
  | n, q, r, e, hn, hD, h15, h16, h9, h10, h13, hQ => by
    refine WLoop.rnd (c := _) ir45L0.eq_1 ?_
    by_cases hs : 4294967296 ≤ q ∨ 4294967296 * r + u1 < q * y0
    · have h3 := hD.less hu h1 hs
      have hwp := pred64 h3.1 (by have := hD.hi; omega)
      have hsum : (r + y1) % 18446744073709551616 = r + y1 := by have := hD.rl; omega
      have hA : ∀ e' : FE, 4294967296 ≤ r + y1 → e' 15 = .int .u64 ((q - 1 : Nat) : Int) → Q (.exit 0) e' st :=
        fun e' hb a15 => hQ e' (by rw [a15, hD.brk hu h1 hs hy0 hb])
      have hB : ∀ e' : FE, ¬ 4294967296 ≤ r + y1 → e' 15 = .int .u64 ((q - 1 : Nat) : Int) → e' 16 = .int .u64 ((r + y1 : Nat) : Int) → e' 9 = .int .u64 (y1 : Int) → e' 10 = .int .u64 (y0 : Int) → e' 13 = .int .u64 (u1 : Int) → WLoop cx ir45L0 e' st Q := by
        intro e' hb a15 a16 a9 a10 a13
        match n, hn with
        | 0, hn => exact absurd hD.rl (by omega)
        | n + 1, hn => exact l45a y1 y0 u u1 hy1 hy0 h1 hp hu st Q n (q - 1) (r + y1) e' (by omega) (hD.next hu h1 hs (by omega)) a15 a16 a9 a10 a13 hQ
      by_cases hq : 4294967296 ≤ q
      · have hdq : decide (4294967296 ≤ q) = true := by simpa using hq
        by_cases hb : 4294967296 ≤ r + y1
        · have hdb : decide (4294967296 ≤ r + y1) = true := by simpa using hb
          simp (config := {contextual := true, implicitDefEqProofs := false, maxSteps := 4000000}) only [go_sem, ↓reduceIte, Bool.false_eq_true, Nat.reduceEqDiff, Nat.reduceAdd, Int.reduceLE, Int.reduceLT, Int.reduceEq, Int.reduceToNat, Int.toNat_natCast, Int.cast_ofNat_Int, Int.natCast_one, Nat.reduceMod, Nat.reduceDiv, UInt8.reduceToNat, Nat.reduceLT, h15, h16, h9, h10, h13, addC, leK, hdq, hwp, wrapN, hsum, hdb]
          exact hA _ hb rfl
        · have hdb : decide (4294967296 ≤ r + y1) = false := by simpa using hb
          simp (config := {contextual := true, implicitDefEqProofs := false, maxSteps := 4000000}) only [go_sem, ↓reduceIte, Bool.false_eq_true, Nat.reduceEqDiff, Nat.reduceAdd, Int.reduceLE, Int.reduceLT, Int.reduceEq, Int.reduceToNat, Int.toNat_natCast, Int.cast_ofNat_Int, Int.natCast_one, Nat.reduceMod, Nat.reduceDiv, UInt8.reduceToNat, Nat.reduceLT, h15, h16, h9, h10, h13, addC, leK, hdq, hwp, wrapN, hsum, hdb]
          exact hB _ hb rfl rfl h9 h10 h13
      · have hdq : decide (4294967296 ≤ q) = false := by simpa using hq
        have hc : 4294967296 * r + u1 < q * y0 := by rcases hs with hs | hs; exact absurd hs hq; exact hs
        obtain ⟨b1, b2⟩ := dloop_bounds (u1 := u1) (show q < 4294967296 by omega) hy0 hD.rl h1
        have hdc : decide (4294967296 * r + u1 < q * y0) = true := by simpa using hc
        by_cases hb : 4294967296 ≤ r + y1
        · have hdb : decide (4294967296 ≤ r + y1) = true := by simpa using hb
          simp (config := {contextual := true, implicitDefEqProofs := false, maxSteps := 4000000}) only [go_sem, ↓reduceIte, Bool.false_eq_true, Nat.reduceEqDiff, Nat.reduceAdd, Int.reduceLE, Int.reduceLT, Int.reduceEq, Int.reduceToNat, Int.toNat_natCast, Int.cast_ofNat_Int, Int.natCast_one, Nat.reduceMod, Nat.reduceDiv, UInt8.reduceToNat, Nat.reduceLT, h15, h16, h9, h10, h13, addC, mulC, mulL, leK, ltC, hdq, hwp, wrapN, b1, b2, hdc, hsum, hdb]
          exact hA _ hb rfl
        · have hdb : decide (4294967296 ≤ r + y1) = false := by simpa using hb
          simp (config := {contextual := true, implicitDefEqProofs := false, maxSteps := 4000000}) only [go_sem, ↓reduceIte, Bool.false_eq_true, Nat.reduceEqDiff, Nat.reduceAdd, Int.reduceLE, Int.reduceLT, Int.reduceEq, Int.reduceToNat, Int.toNat_natCast, Int.cast_ofNat_Int, Int.natCast_one, Nat.reduceMod, Nat.reduceDiv, UInt8.reduceToNat, Nat.reduceLT, h15, h16, h9, h10, h13, addC, mulC, mulL, leK, ltC, hdq, hwp, wrapN, b1, b2, hdc, hsum, hdb]
          exact hB _ hb rfl rfl h9 h10 h13
    · have hq : ¬ 4294967296 ≤ q := fun h => hs (.inl h)
      have hc : ¬ 4294967296 * r + u1 < q * y0 := fun h => hs (.inr h)
      have hdq : decide (4294967296 ≤ q) = false := by simpa using hq
      have hdc : decide (4294967296 * r + u1 < q * y0) = false := by simpa using hc
      obtain ⟨b1, b2⟩ := dloop_bounds (u1 := u1) (show q < 4294967296 by omega) hy0 hD.rl h1
      simp (config := {contextual := true, implicitDefEqProofs := false, maxSteps := 4000000}) only [go_sem, ↓reduceIte, Bool.false_eq_true, Nat.reduceEqDiff, Nat.reduceAdd, Int.reduceLE, Int.reduceLT, Int.reduceEq, Int.reduceToNat, Int.toNat_natCast, Int.cast_ofNat_Int, Int.natCast_one, Nat.reduceMod, Nat.reduceDiv, UInt8.reduceToNat, Nat.reduceLT, h15, h16, h9, h10, h13, addC, mulC, mulL, leK, ltC, hdq, wrapN, b1, b2, hdc]
      exact hQ _ (h15.trans (by rw [hD.stop (by omega) (by omega)]))
theorem l45b (y1 y0 u u1 : Nat) (hy1 : y1 < 4294967296) (hy0 : y0 < 4294967296) (h1 : u1 < 4294967296) (hp : 0 < y1) (hu : u < y1 * 4294967296 + y0) (st : St) (Q : Sig → FE → St → Prop) : ∀ (n q r : Nat) (e : FE), 4294967296 - r ≤ n → Dig 4294967296 y1 y0 u u1 q r →
    e 18 = .int .u64 (q : Int) → e 16 = .int .u64 (r : Int) → e 9 = .int .u64 (y1 : Int) → e 10 = .int .u64 (y0 : Int) → e 14 = .int .u64 (u1 : Int) →
    (∀ e', e' 18 = .int .u64 (((u * 4294967296 + u1) / (y1 * 4294967296 + y0) : Nat) : Int) → Q (.exit 2) e' st) → WLoop cx ir45L1 e st Q
  | n, q, r, e, hn, hD, h18, h16, h9, h10, h14, hQ => by
    refine WLoop.rnd (c := _) ir45L1.eq_1 ?_
    by_cases hs : 4294967296 ≤ q ∨ 4294967296 * r + u1 < q * y0
    · have h3 := hD.less hu h1 hs
      have hwp := pred64 h3.1 (by have := hD.hi; omega)
      have hsum : (r + y1) % 18446744073709551616 = r + y1 := by have := hD.rl; omega
      have hA : ∀ e' : FE, 4294967296 ≤ r + y1 → e' 18 = .int .u64 ((q - 1 : Nat) : Int) → Q (.exit 2) e' st :=
        fun e' hb a18 => hQ e' (by rw [a18, hD.brk hu h1 hs hy0 hb])
      have hB : ∀ e' : FE, ¬ 4294967296 ≤ r + y1 → e' 18 = .int .u64 ((q - 1 : Nat) : Int) → e' 16 = .int .u64 ((r + y1 : Nat) : Int) → e' 9 = .int .u64 (y1 : Int) → e' 10 = .int .u64 (y0 : Int) → e' 14 = .int .u64 (u1 : Int) → WLoop cx ir45L1 e' st Q := by
        intro e' hb a18 a16 a9 a10 a14
        match n, hn with
        | 0, hn => exact absurd hD.rl (by omega)
        | n + 1, hn => exact l45b y1 y0 u u1 hy1 hy0 h1 hp hu st Q n (q - 1) (r + y1) e' (by omega) (hD.next hu h1 hs (by omega)) a18 a16 a9 a10 a14 hQ
      by_cases hq : 4294967296 ≤ q
      · have hdq : decide (4294967296 ≤ q) = true := by simpa using hq
        by_cases hb : 4294967296 ≤ r + y1
        · have hdb : decide (4294967296 ≤ r + y1) = true := by simpa using hb
          simp (config := {contextual := true, implicitDefEqProofs := false, maxSteps := 4000000}) only [go_sem, ↓reduceIte, Bool.false_eq_true, Nat.reduceEqDiff, Nat.reduceAdd, Int.reduceLE, Int.reduceLT, Int.reduceEq, Int.reduceToNat, Int.toNat_natCast, Int.cast_ofNat_Int, Int.natCast_one, Nat.reduceMod, Nat.reduceDiv, UInt8.reduceToNat, Nat.reduceLT, h18, h16, h9, h10, h14, addC, leK, hdq, hwp, wrapN, hsum, hdb]
          exact hA _ hb rfl
        · have hdb : decide (4294967296 ≤ r + y1) = false := by simpa using hb
          simp (config := {contextual := true, implicitDefEqProofs := false, maxSteps := 4000000}) only [go_sem, ↓reduceIte, Bool.false_eq_true, Nat.reduceEqDiff, Nat.reduceAdd, Int.reduceLE, Int.reduceLT, Int.reduceEq, Int.reduceToNat, Int.toNat_natCast, Int.cast_ofNat_Int, Int.natCast_one, Nat.reduceMod, Nat.reduceDiv, UInt8.reduceToNat, Nat.reduceLT, h18, h16, h9, h10, h14, addC, leK, hdq, hwp, wrapN, hsum, hdb]
          exact hB _ hb rfl rfl h9 h10 h14
      · have hdq : decide (4294967296 ≤ q) = false := by simpa using hq
        have hc : 4294967296 * r + u1 < q * y0 := by rcases hs with hs | hs; exact absurd hs hq; exact hs
        obtain ⟨b1, b2⟩ := dloop_bounds (u1 := u1) (show q < 4294967296 by omega) hy0 hD.rl h1
        have hdc : decide (4294967296 * r + u1 < q * y0) = true := by simpa using hc
        by_cases hb : 4294967296 ≤ r + y1
        · have hdb : decide (4294967296 ≤ r + y1) = true := by simpa using hb
          simp (config := {contextual := true, implicitDefEqProofs := false, maxSteps := 4000000}) only [go_sem, ↓reduceIte, Bool.false_eq_true, Nat.reduceEqDiff, Nat.reduceAdd, Int.reduceLE, Int.reduceLT, Int.reduceEq, Int.reduceToNat, Int.toNat_natCast, Int.cast_ofNat_Int, Int.natCast_one, Nat.reduceMod, Nat.reduceDiv, UInt8.reduceToNat, Nat.reduceLT, h18, h16, h9, h10, h14, addC, mulC, mulL, leK, ltC, hdq, hwp, wrapN, b1, b2, hdc, hsum, hdb]
          exact hA _ hb rfl
        · have hdb : decide (4294967296 ≤ r + y1) = false := by simpa using hb
          simp (config := {contextual := true, implicitDefEqProofs := false, maxSteps := 4000000}) only [go_sem, ↓reduceIte, Bool.false_eq_true, Nat.reduceEqDiff, Nat.reduceAdd, Int.reduceLE, Int.reduceLT, Int.reduceEq, Int.reduceToNat, Int.toNat_natCast, Int.cast_ofNat_Int, Int.natCast_one, Nat.reduceMod, Nat.reduceDiv, UInt8.reduceToNat, Nat.reduceLT, h18, h16, h9, h10, h14, addC, mulC, mulL, leK, ltC, hdq, hwp, wrapN, b1, b2, hdc, hsum, hdb]
          exact hB _ hb rfl rfl h9 h10 h14
    · have hq : ¬ 4294967296 ≤ q := fun h => hs (.inl h)
      have hc : ¬ 4294967296 * r + u1 < q * y0 := fun h => hs (.inr h)
      have hdq : decide (4294967296 ≤ q) = false := by simpa using hq
      have hdc : decide (4294967296 * r + u1 < q * y0) = false := by simpa using hc
      obtain ⟨b1, b2⟩ := dloop_bounds (u1 := u1) (show q < 4294967296 by omega) hy0 hD.rl h1
      simp (config := {contextual := true, implicitDefEqProofs := false, maxSteps := 4000000}) only [go_sem, ↓reduceIte, Bool.false_eq_true, Nat.reduceEqDiff, Nat.reduceAdd, Int.reduceLE, Int.reduceLT, Int.reduceEq, Int.reduceToNat, Int.toNat_natCast, Int.cast_ofNat_Int, Int.natCast_one, Nat.reduceMod, Nat.reduceDiv, UInt8.reduceToNat, Nat.reduceLT, h18, h16, h9, h10, h14, addC, mulC, mulL, leK, ltC, hdq, wrapN, b1, b2, hdc]
      exact hQ _ (h18.trans (by rw [hD.stop (by omega) (by omega)]))

theorem div_steps {u u1 u0 Y B : Nat} (hY : 0 < Y) : (u * (B * B) + (u1 * B + u0)) / Y = (u * B + u1) / Y * B + (((u * B + u1) % Y) * B + u0) / Y ∧ (u * (B * B) + (u1 * B + u0)) % Y = (((u * B + u1) % Y) * B + u0) % Y := by
  have h := Nat.div_add_mod (u * B + u1) Y
  generalize (u * B + u1) / Y = q at *
  generalize (u * B + u1) % Y = r at *
  have e : u * (B * B) + (u1 * B + u0) = (r * B + u0) + Y * (q * B) := by
    have : u * (B * B) + (u1 * B + u0) = (u * B + u1) * B + u0 := by rw [Nat.add_mul, Nat.mul_assoc, Nat.add_assoc]
    rw [this, ← h, Nat.add_mul, Nat.mul_assoc]; omega
  rw [e, Nat.add_mul_div_left _ _ hY, Nat.add_mul_mod_self_left]
  exact ⟨Nat.add_comm _ _, rfl⟩
theorem shl_split (lo s : Nat) (hs : s ≤ 64) (hl : lo < 18446744073709551616) : lo * 2 ^ s = lo / 2 ^ (64 - s) * 18446744073709551616 + lo * 2 ^ s % 18446744073709551616 ∧ lo / 2 ^ (64 - s) < 2 ^ s := by
  have e : 2 ^ (64 - s) * 2 ^ s = 18446744073709551616 := by rw [← Nat.pow_add, show 64 - s + s = 64 by omega]
  have h1 : lo * 2 ^ s / 18446744073709551616 = lo / 2 ^ (64 - s) := by
    rw [← e]; exact Nat.mul_div_mul_right _ _ (Nat.two_pow_pos s)
  constructor
  · rw [← h1]; omega
  · rw [Nat.div_lt_iff_lt_mul (Nat.two_pow_pos _), Nat.mul_comm, e]; exact hl
theorem norm_facts (hi lo y : Nat) (h : hi < y) (hy : y < 18446744073709551616) (hl : lo < 18446744073709551616) :
    64 - lenU y ≤ 63 ∧ y * 2 ^ (64 - lenU y) < 18446744073709551616 ∧ 9223372036854775808 ≤ y * 2 ^ (64 - lenU y) ∧ hi * 2 ^ (64 - lenU y) < 18446744073709551616 ∧
    hi * 2 ^ (64 - lenU y) + lo / 2 ^ (64 - (64 - lenU y)) < y * 2 ^ (64 - lenU y) ∧
    (hi * 2 ^ (64 - lenU y) + lo / 2 ^ (64 - (64 - lenU y))) * 18446744073709551616 + lo * 2 ^ (64 - lenU y) % 18446744073709551616 = (hi * 18446744073709551616 + lo) * 2 ^ (64 - lenU y) := by
  have h1 := lenU_lt y
  have h2 := lenU_le y (by omega)
  have h3 : lenU y ≤ 64 := by
    have h2 : lenU y - 1 < 64 := (Nat.pow_lt_pow_iff_right (by decide : 1 < 2)).1 (Nat.lt_of_le_of_lt h2 (by simpa using hy))
    omega
  have h4 : 1 ≤ lenU y := by unfold lenU; split <;> omega
  have e1 : 2 ^ lenU y * 2 ^ (64 - lenU y) = 18446744073709551616 := by rw [← Nat.pow_add, show lenU y + (64 - lenU y) = 64 by omega]
  have e2 : 2 ^ (lenU y - 1) * 2 ^ (64 - lenU y) = 9223372036854775808 := by rw [← Nat.pow_add, show lenU y - 1 + (64 - lenU y) = 63 by omega]
  have hp := Nat.two_pow_pos (64 - lenU y)
  have b1 : y * 2 ^ (64 - lenU y) < 18446744073709551616 := by rw [← e1]; exact Nat.mul_lt_mul_of_pos_right h1 hp
  have b2 : 9223372036854775808 ≤ y * 2 ^ (64 - lenU y) := by rw [← e2]; exact Nat.mul_le_mul_right _ h2
  obtain ⟨s1, s2⟩ := shl_split lo (64 - lenU y) (by omega) hl
  have b3 : (hi + 1) * 2 ^ (64 - lenU y) ≤ y * 2 ^ (64 - lenU y) := Nat.mul_le_mul_right _ h
  rw [Nat.add_mul, Nat.one_mul] at b3
  refine ⟨by omega, b1, b2, by omega, by omega, ?_⟩
  have h5 : ∀ x m k : Nat, (hi * x + m) * k = hi * x * k + m * k := fun x m k => Nat.add_mul _ _ _
  have h6 : (hi * 18446744073709551616 + lo) * 2 ^ (64 - lenU y) = hi * 18446744073709551616 * 2 ^ (64 - lenU y) + lo * 2 ^ (64 - lenU y) := Nat.add_mul _ _ _
  have this : hi * 18446744073709551616 * 2 ^ (64 - lenU y) = hi * 2 ^ (64 - lenU y) * 18446744073709551616 := Nat.mul_right_comm _ _ _
  rw [h5, h6, this]
  omega
theorem or_c (a b s : Nat) (hb : b < 2 ^ s) (ha : a * 2 ^ s + b < 18446744073709551616) : evBin .or (.int .u64 ((a * 2 ^ s : Nat) : Int)) (.int .u64 (b : Int)) = some (.int .u64 ((a * 2 ^ s + b : Nat) : Int)) := by
  rw [bin_or]
  congr 2
  have h1 : (BitVec.ofInt IntKind.u64.bits ((a * 2 ^ s : Nat) : Int) ||| BitVec.ofInt IntKind.u64.bits (b : Int)).toNat = a * 2 ^ s + b := by
    have : (BitVec.ofInt 64 ((a * 2 ^ s : Nat) : Int) ||| BitVec.ofInt 64 (b : Int)).toNat = a * 2 ^ s + b := by
      rw [BitVec.toNat_or, BitVec.toNat_ofInt, BitVec.toNat_ofInt]
      have h2 : ∀ n : Nat, n < 18446744073709551616 → ((n : Int) % ((2 ^ 64 : Nat) : Int)).toNat = n := by intro n hn; omega
      rw [h2 _ (by omega), h2 _ (by omega), Nat.mul_comm a, ← Nat.two_pow_add_eq_or_of_lt hb]
    exact this
  rw [h1, wrapN]
  congr 1; omega

theorem quo_c (a b : Nat) (ha : a < 18446744073709551616) (hb : 0 < b) : evBin .quo (.int .u64 (a : Int)) (.int .u64 (b : Int)) = some (.int .u64 ((a / b : Nat) : Int)) := by
  rw [bin_quo, if_neg (by omega)]
  have : ((a : Int).tdiv (b : Int)) = ((a / b : Nat) : Int) := rfl
  rw [this, wrapN, Nat.mod_eq_of_lt (Nat.lt_of_le_of_lt (Nat.div_le_self _ _) ha)]
theorem rem_c (a b : Nat) (hb : 0 < b) : evBin .rem (.int .u64 (a : Int)) (.int .u64 (b : Int)) = some (.int .u64 ((a % b : Nat) : Int)) := by
  rw [bin_rem, if_neg (by omega)]; rfl
theorem sub_c {a b : Nat} (h : b ≤ a) (ha : a < 18446744073709551616) : IntKind.u64.wrap ((a : Int) - (b : Int)) = ((a - b : Nat) : Int) := by rw [wrap_u64]; omega
theorem sub_m (A Bq R x y : Nat) (h : A = Bq + R) (hR : R < 18446744073709551616) (hx : x = A % 18446744073709551616) (hy : y = Bq % 18446744073709551616) : IntKind.u64.wrap ((x : Int) - (y : Int)) = (R : Int) := by
  rw [wrap_u64]; omega
theorem c45 (hi lo y : Nat) (h : hi < y) (hy : y < 18446744073709551616) (hl : lo < 18446744073709551616) (s : St) (K : AV → St → Prop) :
    CallW cx 45 [.int .u64 (hi : Int), .int .u64 (lo : Int), .int .u64 (y : Int)] s K = K (.tuple [.int .u64 (((hi * 18446744073709551616 + lo) / y : Nat) : Int), .int .u64 (((hi * 18446744073709551616 + lo) % y : Nat) : Int)]) s := by
  refine CallW.eq (CallW.fn' (fn := ir45) rfl rfl (by kernel_rfl) ir45.eq_1 ?_) K
  have n1 : decide ((y : Int) = 0) = false := by simp; omega
  have n2 : decide ((y : Int) ≤ (hi : Int)) = false := by simp; omega
  by_cases hz : hi = 0
  · have n3 : decide ((hi : Int) = 0) = true := by simp [hz]
    simp (config := {contextual := true, implicitDefEqProofs := false, maxSteps := 4000000}) only [go_sem, ↓reduceIte, Bool.false_eq_true, Nat.reduceEqDiff, Nat.reduceAdd, Int.reduceLE, Int.reduceLT, Int.reduceEq, Int.reduceToNat, Int.toNat_natCast, Int.cast_ofNat_Int, Int.natCast_one, Nat.reduceMod, Nat.reduceDiv, UInt8.reduceToNat, Nat.reduceLT, n1, n2, n3, quo_c lo y hl (by omega), rem_c lo y (by omega)]
    rw [hz, Nat.zero_mul, Nat.zero_add]
  · have n3 : decide ((hi : Int) = 0) = false := by simp; omega
    obtain ⟨f1, f2, f3, f4, f5, f6⟩ := norm_facts hi lo y h hy hl
    have k56 := fun st K => c56 y hy st K
    obtain ⟨sh2, sl2⟩ := shl_split lo (64 - lenU y) (by omega) hl
    generalize 64 - lenU y = sh at *
    have r1 : sh % 18446744073709551616 = sh := by omega
    have r2 := shl_c y sh (by omega)
    rw [Nat.mod_eq_of_lt f2] at r2
    have r3 := shl_c hi sh (by omega)
    rw [Nat.mod_eq_of_lt f4] at r3
    have r4 := shl_c lo sh (by omega)
    have r5 : IntKind.u64.wrap (64 - (sh : Int)) = ((64 - sh : Nat) : Int) := by rw [wrap_u64]; omega
    have r6 := shr_c lo (64 - sh) (by omega)
    have r7 := or_c hi (lo / 2 ^ (64 - sh)) sh sl2 (by omega)
    generalize hYd : y * 2 ^ sh = Y at *
    generalize hud : hi * 2 ^ sh + lo / 2 ^ (64 - sh) = u at *
    have hL : lo * 2 ^ sh % 18446744073709551616 < 18446744073709551616 := Nat.mod_lt _ (by decide)
    generalize hLd : lo * 2 ^ sh % 18446744073709551616 = L at *
    have q1 := shr_32 Y
    have q2 := and_mask Y
    have q3 := shr_32 L
    have q4 := and_mask L
    have hY2 := Nat.div_add_mod' Y 4294967296
    have hL2 := Nat.div_add_mod' L 4294967296
    have by1 : Y / 4294967296 < 4294967296 := by omega
    have by2 : 4294967296 ≤ 2 * (Y / 4294967296) := by omega
    have by0 : Y % 4294967296 < 4294967296 := by omega
    have bu1 : L / 4294967296 < 4294967296 := by omega
    have bu0 : L % 4294967296 < 4294967296 := by omega
    generalize Y / 4294967296 = y1 at *
    generalize Y % 4294967296 = y0 at *
    generalize L / 4294967296 = u1 at *
    generalize L % 4294967296 = u0 at *
    have d1 := quo_c u y1 (by omega) (by omega)
    have d2 : u / y1 * y1 ≤ u := Nat.div_mul_le_self _ _
    have d3 : u / y1 * y1 % 18446744073709551616 = u / y1 * y1 := by omega
    have d4 := sub_c d2 (by omega)
    have D1 := Dig.start (u1 := u1) by2 by1 by0 (by decide) bu1 (hY2 ▸ f5)
    simp (config := {contextual := true, implicitDefEqProofs := false, maxSteps := 4000000}) only [go_sem, ↓reduceIte, Bool.false_eq_true, Nat.reduceEqDiff, Nat.reduceAdd, Int.reduceLE, Int.reduceLT, Int.reduceEq, Int.reduceToNat, Int.toNat_natCast, Int.cast_ofNat_Int, Int.natCast_one, Nat.reduceMod, Nat.reduceDiv, UInt8.reduceToNat, Nat.reduceLT, n1, n2, n3, k56, r1, r2, r3, r4, r5, r6, r7, q1, q2, q3, q4, wrapN, mulC, d1, d3, d4]
    refine WLoop.keep (l45a y1 y0 u u1 by1 by0 bu1 (by omega) (hY2 ▸ f5) _ _ _ _ _ _ (Nat.le_refl _) D1 rfl rfl rfl rfl rfl ?_)
    intro e' h15 hk
    have k2 := hk 2 (by decide +kernel)
    have k8 := hk 8 (by decide +kernel)
    have k9 := hk 9 (by decide +kernel)
    have k10 := hk 10 (by decide +kernel)
    have k11 := hk 11 (by decide +kernel)
    have k13 := hk 13 (by decide +kernel)
    have k14 := hk 14 (by decide +kernel)
    simp only [upd, ↓reduceIte, Nat.reduceEqDiff] at k2 k8 k9 k10 k11 k13 k14
    clear hk D1
    rw [hY2] at h15
    have g1 := Nat.div_add_mod' (u * 4294967296 + u1) Y
    have g2 := Nat.mod_lt (u * 4294967296 + u1) (show Y > 0 by omega)
    have e1 := fun x y hx hy => sub_m (u * 4294967296 + u1) ((u * 4294967296 + u1) / Y * Y) ((u * 4294967296 + u1) % Y) x y g1.symm (by omega) hx hy
    obtain ⟨st1, st2⟩ := div_steps (u := u) (u1 := u1) (u0 := u0) (Y := Y) (B := 4294967296) (by omega)
    have hq1 : (u * 4294967296 + u1) / Y < 4294967296 := quo_lt f5 bu1
    obtain ⟨Q1, hQ1⟩ : ∃ q, (u * 4294967296 + u1) / Y = q := ⟨_, rfl⟩
    obtain ⟨R1, hR1⟩ : ∃ q, (u * 4294967296 + u1) % Y = q := ⟨_, rfl⟩
    rw [hQ1] at h15 g1 e1 st1 hq1
    rw [hR1] at g1 g2 e1 st1 st2
    have e2 := e1 ((u * 4294967296 % 18446744073709551616 + u1) % 18446744073709551616) (Q1 * Y % 18446744073709551616) (by omega) rfl
    have d1' := quo_c R1 y1 (by omega) (by omega)
    have d2' : R1 / y1 * y1 ≤ R1 := Nat.div_mul_le_self _ _
    have d3' : R1 / y1 * y1 % 18446744073709551616 = R1 / y1 * y1 := by omega
    have d4' := sub_c d2' (by omega)
    have D1 := Dig.start (u := R1) (u1 := u0) by2 by1 by0 (by decide) bu0 (hY2 ▸ g2)
    simp (config := {contextual := true, implicitDefEqProofs := false, maxSteps := 4000000}) only [go_sem, ↓reduceIte, Bool.false_eq_true, Nat.reduceEqDiff, Nat.reduceAdd, Int.reduceLE, Int.reduceLT, Int.reduceEq, Int.reduceToNat, Int.toNat_natCast, Int.cast_ofNat_Int, Int.natCast_one, Nat.reduceMod, Nat.reduceDiv, UInt8.reduceToNat, Nat.reduceLT, k2, k8, k9, k10, k11, k13, k14, h15, mulK, mulC, addC, wrapN, e2, d1', d3', d4']
    refine WLoop.keep (l45b y1 y0 R1 u0 by1 by0 bu0 (by omega) (hY2 ▸ g2) _ _ _ _ _ _ (Nat.le_refl _) D1 rfl rfl k9 k10 k14 ?_)
    intro e2 h18 hk
    have j2 := hk 2 (by decide +kernel)
    have j8 := hk 8 (by decide +kernel)
    have j14 := hk 14 (by decide +kernel)
    have j15 := hk 15 (by decide +kernel)
    have j17 := hk 17 (by decide +kernel)
    simp only [upd, ↓reduceIte, Nat.reduceEqDiff, k2, k8, k14, h15] at j2 j8 j14 j15 j17
    clear hk D1
    rw [hY2] at h18
    have g3 := Nat.div_add_mod' (R1 * 4294967296 + u0) Y
    have g4 := Nat.mod_lt (R1 * 4294967296 + u0) (show Y > 0 by omega)
    have e3 := fun x y hx hy => sub_m (R1 * 4294967296 + u0) ((R1 * 4294967296 + u0) / Y * Y) ((R1 * 4294967296 + u0) % Y) x y g3.symm (by omega) hx hy
    have hq0 : (R1 * 4294967296 + u0) / Y < 4294967296 := quo_lt g2 bu0
    have hN : u * (4294967296 * 4294967296) + (u1 * 4294967296 + u0) = (hi * 18446744073709551616 + lo) * 2 ^ sh := by
      rw [hL2]; exact f6
    rw [hN, ← hYd, Nat.mul_div_mul_right _ _ (Nat.two_pow_pos sh)] at st1
    rw [hN, ← hYd, Nat.mul_mod_mul_right] at st2
    rw [hYd] at st1 st2
    obtain ⟨Q0, hQ0⟩ : ∃ q, (R1 * 4294967296 + u0) / Y = q := ⟨_, rfl⟩
    obtain ⟨R0, hR0⟩ : ∃ q, (R1 * 4294967296 + u0) % Y = q := ⟨_, rfl⟩
    rw [hQ0] at h18 g3 e3 st1 hq0
    rw [hR0] at g3 g4 e3 st2
    have e4 := e3 ((R1 * 4294967296 % 18446744073709551616 + u0) % 18446744073709551616) (Q0 * Y % 18446744073709551616) (by omega) rfl
    have e5 : (Q1 * 4294967296 % 18446744073709551616 + Q0) % 18446744073709551616 = Q1 * 4294967296 + Q0 := by omega
    have e6 := shr_c R0 sh (by omega)
    rw [← st2, Nat.mul_div_cancel _ (Nat.two_pow_pos sh)] at e6
    rw [← st2] at e4
    simp (config := {contextual := true, implicitDefEqProofs := false, maxSteps := 4000000}) only [go_sem, ↓reduceIte, Bool.false_eq_true, Nat.reduceEqDiff, Nat.reduceAdd, Int.reduceLE, Int.reduceLT, Int.reduceEq, Int.reduceToNat, Int.toNat_natCast, Int.cast_ofNat_Int, Int.natCast_one, Nat.reduceMod, Nat.reduceDiv, UInt8.reduceToNat, Nat.reduceLT, j2, j8, j14, j15, j17, h18, mulK, mulC, addC, wrapN, e4, e5, e6]
    rw [st1]
end T01

/- Quotients, rounded. -/
namespace T01
open Go Fw Go.Proofs
set_option maxRecDepth 100000
set_option linter.unusedSimpArgs false
set_option linter.unusedVariables false
theorem wrap_pos (n : Nat) (h : n ≤ 1000000000000) : IntKind.i64.wrap (n : Int) = (n : Int) := wrap_i64 (by omega) (by omega)
theorem wrap_neg (n : Nat) (h : n ≤ 1000000000000) : IntKind.i64.wrap (0 - (n : Int)) = -(n : Int) := by rw [wrap_i64 (by omega) (by omega)]; omega
theorem leN (a b : Nat) : ((a : Int) ≤ (b : Int)) = (a ≤ b) := by simp
theorem big_quo {hi lo c : Nat} (hc : 0 < c) (h : c ≤ hi) : lim (hi * 18446744073709551616 + lo) c = 1000000000000 := by
  unfold lim rnd
  have : 18446744073709551616 ≤ (hi * 18446744073709551616 + lo) / c := by
    rw [Nat.le_div_iff_mul_le hc]
    have := Nat.mul_le_mul_left 18446744073709551616 h
    omega
  generalize (hi * 18446744073709551616 + lo) / c = q at *
  omega
theorem lim_up {n c q r : Nat} (hq : n / c = q) (hr : n % c = r) (h : q < 1000000000000) (h2 : c ≤ 2 * r) : lim n c = q + 1 := by unfold lim rnd; rw [hr, if_pos h2, hq]; omega
theorem lim_same {n c q r : Nat} (hq : n / c = q) (hr : n % c = r) (h : q < 1000000000000) (h2 : ¬ c ≤ 2 * r) : lim n c = q := by unfold lim rnd; rw [hr, if_neg h2, hq]; omega
theorem lim_big {n c q : Nat} (hq : n / c = q) (h : 1000000000000 ≤ q) : lim n c = 1000000000000 := by unfold lim rnd; rw [hq]; omega
theorem leU (a : Nat) : ((1000000000000 : Int) ≤ (a : Int)) = (1000000000000 ≤ a) := by apply propext; omega
theorem ltU (a : Nat) : ((a : Int) < (1000000000000 : Int)) = (a < 1000000000000) := by apply propext; omega
theorem minU (a : Nat) : min (1000000000000 : Int) (a : Int) = ((min 1000000000000 a : Nat) : Int) := by omega
theorem c28 (hi lo c : Nat) (neg : Bool) (hc : 0 < c) (hc2 : c < 9223372036854775808) (hl : lo < 18446744073709551616) (s : St) (K : AV → St → Prop) :
    CallW cx 28 [.agg [.int .u64 (hi : Int), .int .u64 (lo : Int)], .int .u64 (c : Int), .bool neg] s K = K (.int .i64 (sgn neg (lim (hi * 18446744073709551616 + lo) c))) s := by
  refine CallW.eq (CallW.fn' (fn := ir28) rfl rfl (by kernel_rfl) ir28.eq_1 ?_) K
  by_cases h : hi < c
  · have d1 : decide (hi < c) = true := by simpa using h
    have k45 := fun st K => c45 hi lo c h (by omega) hl st K
    have hr := Nat.mod_lt (hi * 18446744073709551616 + lo) hc
    obtain ⟨N, hN⟩ : ∃ N, hi * 18446744073709551616 + lo = N := ⟨_, rfl⟩
    rw [hN] at k45 hr ⊢
    obtain ⟨q, hq⟩ : ∃ q, N / c = q := ⟨_, rfl⟩
    obtain ⟨r, hrr⟩ : ∃ q, N % c = q := ⟨_, rfl⟩
    rw [hq, hrr] at k45
    rw [hrr] at hr
    have k45' := k45
    have h' := h
    clear hN h d1
    have d1 : decide (hi < c) = true := by simpa using h'
    have e1 := sub_c (Nat.le_of_lt hr) (show c < 18446744073709551616 by omega)
    by_cases h2 : q < 1000000000000
    · have d2 : decide (q < 1000000000000) = true := by simpa using h2
      by_cases h3 : c ≤ 2 * r
      · rw [lim_up hq hrr h2 h3]
        clear k45 hq hrr
        have d3 : decide (c - r ≤ r) = true := by simp; omega
        have e2 : (q + 1) % 18446744073709551616 = q + 1 := by omega
        have e3 : min 1000000000000 (q + 1) = q + 1 := by omega
        have e4 := wrap_pos (q + 1) (by omega)
        have e5 := wrap_neg (q + 1) (by omega)
        cases neg
        · simp (config := {contextual := true, implicitDefEqProofs := false, maxSteps := 4000000}) only [go_sem, ↓reduceIte, Bool.false_eq_true, Nat.reduceEqDiff, Nat.reduceAdd, Int.reduceLE, Int.reduceLT, Int.reduceEq, Int.reduceToNat, Int.toNat_natCast, Int.cast_ofNat_Int, Int.natCast_one, Nat.reduceMod, Nat.reduceDiv, UInt8.reduceToNat, Nat.reduceLT, k45', ltC, ltU, leN, d1, d2, d3, e1, addL, wrapN, e2, minU, e3, e4, sgn]
        · simp (config := {contextual := true, implicitDefEqProofs := false, maxSteps := 4000000}) only [go_sem, ↓reduceIte, Bool.false_eq_true, Nat.reduceEqDiff, Nat.reduceAdd, Int.reduceLE, Int.reduceLT, Int.reduceEq, Int.reduceToNat, Int.toNat_natCast, Int.cast_ofNat_Int, Int.natCast_one, Nat.reduceMod, Nat.reduceDiv, UInt8.reduceToNat, Nat.reduceLT, k45', ltC, ltU, leN, d1, d2, d3, e1, addL, wrapN, e2, minU, e3, e4, e5, sgn]
      · rw [lim_same hq hrr h2 h3]
        clear k45 hq hrr
        have d3 : decide (c - r ≤ r) = false := by simp; omega
        have e3 : min 1000000000000 q = q := by omega
        have e4 := wrap_pos q (by omega)
        have e5 := wrap_neg q (by omega)
        cases neg
        · simp (config := {contextual := true, implicitDefEqProofs := false, maxSteps := 4000000}) only [go_sem, ↓reduceIte, Bool.false_eq_true, Nat.reduceEqDiff, Nat.reduceAdd, Int.reduceLE, Int.reduceLT, Int.reduceEq, Int.reduceToNat, Int.toNat_natCast, Int.cast_ofNat_Int, Int.natCast_one, Nat.reduceMod, Nat.reduceDiv, UInt8.reduceToNat, Nat.reduceLT, k45', ltC, ltU, leN, d1, d2, d3, e1, addL, wrapN, minU, e3, e4, sgn]
        · simp (config := {contextual := true, implicitDefEqProofs := false, maxSteps := 4000000}) only [go_sem, ↓reduceIte, Bool.false_eq_true, Nat.reduceEqDiff, Nat.reduceAdd, Int.reduceLE, Int.reduceLT, Int.reduceEq, Int.reduceToNat, Int.toNat_natCast, Int.cast_ofNat_Int, Int.natCast_one, Nat.reduceMod, Nat.reduceDiv, UInt8.reduceToNat, Nat.reduceLT, k45', ltC, ltU, leN, d1, d2, d3, e1, addL, wrapN, minU, e3, e4, e5, sgn]
    · have d2 : decide (q < 1000000000000) = false := by simpa using h2
      rw [lim_big hq (by omega)]
      have e3 : min 1000000000000 q = 1000000000000 := by omega
      have e4 : IntKind.i64.wrap 1000000000000 = 1000000000000 := rfl
      have e5 : IntKind.i64.wrap (0 - 1000000000000) = -1000000000000 := rfl
      cases neg
      · simp (config := {contextual := true, implicitDefEqProofs := false, maxSteps := 4000000}) only [go_sem, ↓reduceIte, Bool.false_eq_true, Nat.reduceEqDiff, Nat.reduceAdd, Int.reduceLE, Int.reduceLT, Int.reduceEq, Int.reduceToNat, Int.toNat_natCast, Int.cast_ofNat_Int, Int.natCast_one, Nat.reduceMod, Nat.reduceDiv, UInt8.reduceToNat, Nat.reduceLT, k45', ltC, ltU, leN, d1, d2, e1, addL, wrapN, minU, e3, e4, sgn]
      · simp (config := {contextual := true, implicitDefEqProofs := false, maxSteps := 4000000}) only [go_sem, ↓reduceIte, Bool.false_eq_true, Nat.reduceEqDiff, Nat.reduceAdd, Int.reduceLE, Int.reduceLT, Int.reduceEq, Int.reduceToNat, Int.toNat_natCast, Int.cast_ofNat_Int, Int.natCast_one, Nat.reduceMod, Nat.reduceDiv, UInt8.reduceToNat, Nat.reduceLT, k45', ltC, ltU, leN, d1, d2, e1, addL, wrapN, minU, e3, e4, e5, sgn]
  · have d1 : decide (hi < c) = false := by simpa using h
    rw [big_quo hc (by omega)]
    have e4 : IntKind.i64.wrap 1000000000000 = 1000000000000 := rfl
    have e5 : IntKind.i64.wrap (0 - 1000000000000) = -1000000000000 := rfl
    cases neg
    · simp (config := {contextual := true, implicitDefEqProofs := false, maxSteps := 4000000}) only [go_sem, ↓reduceIte, Bool.false_eq_true, Nat.reduceEqDiff, Nat.reduceAdd, Int.reduceLE, Int.reduceLT, Int.reduceEq, Int.reduceToNat, Int.toNat_natCast, Int.cast_ofNat_Int, Int.natCast_one, Nat.reduceMod, Nat.reduceDiv, UInt8.reduceToNat, Nat.reduceLT, ltC, d1, e4, sgn]
    · simp (config := {contextual := true, implicitDefEqProofs := false, maxSteps := 4000000}) only [go_sem, ↓reduceIte, Bool.false_eq_true, Nat.reduceEqDiff, Nat.reduceAdd, Int.reduceLE, Int.reduceLT, Int.reduceEq, Int.reduceToNat, Int.toNat_natCast, Int.cast_ofNat_Int, Int.natCast_one, Nat.reduceMod, Nat.reduceDiv, UInt8.reduceToNat, Nat.reduceLT, ltC, d1, e4, e5, sgn]

/- the reference's division, bit by bit -/
theorem bit_step (P c b : Nat) (hc : 0 < c) (hb : b < 2) : (2 * P + b) / c = 2 * (P / c) + (if c ≤ 2 * (P % c) + b then 1 else 0) ∧ (2 * P + b) % c = 2 * (P % c) + b - (if c ≤ 2 * (P % c) + b then c else 0) := by
  have h := Nat.div_add_mod P c
  have h2 := Nat.mod_lt P hc
  generalize P / c = q at *
  generalize P % c = r at *
  have e : 2 * P + b = (2 * r + b) + c * (2 * q) := by rw [← h, Nat.mul_add, Nat.mul_left_comm]; omega
  rw [e, Nat.add_mul_div_left _ _ hc, Nat.add_mul_mod_self_left]
  by_cases h3 : c ≤ 2 * r + b
  · rw [if_pos h3, if_pos h3]
    have e2 : 2 * r + b = (2 * r + b - c) + c * 1 := by omega
    have e3 : (2 * r + b) / c = 1 := by rw [e2, Nat.add_mul_div_left _ _ hc, Nat.div_eq_of_lt (by omega)]
    have e4 : (2 * r + b) % c = 2 * r + b - c := by rw [e2, Nat.add_mul_mod_self_left, Nat.mod_eq_of_lt (by omega)]; omega
    rw [e3, e4]; omega
  · rw [if_neg h3, if_neg h3, Nat.div_eq_of_lt (by omega), Nat.mod_eq_of_lt (by omega)]; omega
theorem and_one (x : Nat) : evBin .and (.int .u64 (x : Int)) (.int .u64 1) = some (.int .u64 ((x % 2 : Nat) : Int)) := by
  rw [bin_and]
  congr 2
  have h1 : (BitVec.ofInt IntKind.u64.bits (x : Int) &&& BitVec.ofInt IntKind.u64.bits 1).toNat = x % 2 := by
    have : (BitVec.ofInt 64 (x : Int) &&& BitVec.ofInt 64 1).toNat = x % 2 := by
      rw [BitVec.toNat_and, BitVec.toNat_ofInt, BitVec.toNat_ofInt]
      have h2 : ((x : Int) % ((2 ^ 64 : Nat) : Int)).toNat = x % 18446744073709551616 := by omega
      have h3 : ((1 : Int) % ((2 ^ 64 : Nat) : Int)).toNat = 2 ^ 1 - 1 := by decide
      rw [h2, h3, Nat.and_two_pow_sub_one_eq_mod]
      omega
    exact this
  rw [h1, wrapN]
  congr 1; omega
theorem or_bit (r b : Nat) (hb : b < 2) : evBin .or (.int .u64 ((r * 2 % 18446744073709551616 : Nat) : Int)) (.int .u64 (b : Int)) = some (.int .u64 ((r * 2 % 18446744073709551616 + b : Nat) : Int)) := by
  have h := or_c (r % 9223372036854775808) b 1 (by omega) (by omega)
  have e : r % 9223372036854775808 * 2 ^ 1 = r * 2 % 18446744073709551616 := by omega
  rw [e] at h; exact h
theorem shl_1 (x : Nat) : evBin .shl (.int .u64 (x : Int)) (.int .u64 1) = some (.int .u64 ((x * 2 % 18446744073709551616 : Nat) : Int)) := shl_c x 1 (by decide)
theorem shr_63 (x : Nat) : evBin .shr (.int .u64 (x : Int)) (.int .u64 63) = some (.int .u64 ((x / 9223372036854775808 : Nat) : Int)) := shr_c x 63 (by decide)
/-- The dividend's first bits. -/
def pre (hi lo i : Nat) : Nat := hi * 2 ^ (64 - i) + lo / 2 ^ i
theorem pre_64 (hi lo : Nat) (h : lo < 18446744073709551616) : pre hi lo 64 = hi := by unfold pre; rw [Nat.div_eq_of_lt (by simpa using h)]; simp
theorem pre_0 (hi lo : Nat) : pre hi lo 0 = hi * 18446744073709551616 + lo := by unfold pre; simp
theorem pre_step (hi lo i : Nat) (h : i < 64) : pre hi lo i = 2 * pre hi lo (i + 1) + lo / 2 ^ i % 2 := by
  unfold pre
  have e : 64 - i = (64 - (i + 1)) + 1 := by omega
  rw [e, Nat.pow_succ, Nat.pow_succ, ← Nat.div_div_eq_div_mul, ← Nat.mul_assoc]
  omega
theorem pre_lt (hi lo i c : Nat) (h : hi < c) (hl : lo < 18446744073709551616) (hi2 : i ≤ 64) (hi1 : 1 ≤ i) : pre hi lo i / c < 9223372036854775808 := by
  have h0 : 0 < c := by omega
  rw [Nat.div_lt_iff_lt_mul h0]
  have hs := (shl_split lo (64 - i) (by omega) hl).2
  rw [show 64 - (64 - i) = i by omega] at hs
  have h1 : (hi + 1) * 2 ^ (64 - i) ≤ c * 2 ^ (64 - i) := Nat.mul_le_mul_right _ h
  rw [Nat.add_mul, Nat.one_mul] at h1
  have h2 : 2 ^ (64 - i) ≤ 2 ^ 63 := Nat.pow_le_pow_right (by decide) (by omega)
  have h3 : c * 2 ^ (64 - i) ≤ c * 2 ^ 63 := Nat.mul_le_mul_left _ h2
  have h4 : c * 2 ^ 63 = 9223372036854775808 * c := by rw [Nat.mul_comm]
  unfold pre; omega
theorem l46 (hi lo c : Nat) (h : hi < c) (hc : c < 18446744073709551616) (hl : lo < 18446744073709551616) (C : Nat) (st : St) (ty : Option TypeId) (hst : Fw.look C st.heap = some (.cells ty [.int .u64 (hi : Int), .int .u64 (lo : Int)])) (Q : Sig → FE → St → Prop) : ∀ (n : Nat) (e : FE), n ≤ 64 →
    e 2 = .ptr C 0 → e 1 = .int .u64 (c : Int) → e 8 = .int .i64 ((n : Int) - 1) → e 6 = .int .u64 ((pre hi lo n % c : Nat) : Int) → e 7 = .int .u64 ((pre hi lo n / c : Nat) : Int) →
    (∀ e', e' 6 = .int .u64 (((hi * 18446744073709551616 + lo) % c : Nat) : Int) → e' 7 = .int .u64 (((hi * 18446744073709551616 + lo) / c : Nat) : Int) → Q (.exit 0) e' st) → WLoop cx ir46L0 e st Q
  | 0, e, hn, h2, h1, h8, h6, h7, hQ => by
    refine WLoop.rnd (c := _) ir46L0.eq_1 ?_
    rw [pre_0] at h6 h7
    simp (config := {contextual := true, implicitDefEqProofs := false, maxSteps := 4000000}) only [go_sem, ↓reduceIte, Bool.false_eq_true, Nat.reduceEqDiff, Nat.reduceAdd, Int.reduceLE, Int.reduceLT, Int.reduceEq, Int.reduceToNat, Int.toNat_natCast, Int.cast_ofNat_Int, Int.natCast_one, Nat.reduceMod, Nat.reduceDiv, UInt8.reduceToNat, Nat.reduceLT, h8]
    exact hQ _ h6 h7
  | n + 1, e, hn, h2, h1, h8, h6, h7, hQ => by
    refine WLoop.rnd (c := _) ir46L0.eq_1 ?_
    have e0 : ((n + 1 : Nat) : Int) - 1 = (n : Int) := by omega
    rw [e0] at h8
    have d0 : decide ((0 : Int) ≤ (n : Int)) = true := by simp
    have w0 : IntKind.u64.wrap (n : Int) = (n : Int) := by rw [wrap_u64]; omega
    have w1 : IntKind.i64.wrap ((n : Int) - 1) = (n : Int) - 1 := wrap_i64 (by omega) (by omega)
    have s1 := shr_c lo n (by omega)
    have hb : lo / 2 ^ n % 2 < 2 := Nat.mod_lt _ (by decide)
    have hp := pre_step hi lo n (by omega)
    have hq := pre_lt hi lo (n + 1) c h hl hn (by omega)
    obtain ⟨b1, b2⟩ := bit_step (pre hi lo (n + 1)) c (lo / 2 ^ n % 2) (by omega) hb
    rw [← hp] at b1 b2
    have a1 := and_one (lo / 2 ^ n)
    have hr := Nat.mod_lt (pre hi lo (n + 1)) (show c > 0 by omega)
    have ih := fun e' x2 x1 x8 x6 x7 => l46 hi lo c h hc hl C st ty hst Q n e' (by omega) x2 x1 x8 x6 x7 hQ
    rw [b1, b2] at ih
    clear b1 b2 hp hQ
    obtain ⟨b, hbe⟩ : ∃ b, lo / 2 ^ n % 2 = b := ⟨_, rfl⟩
    obtain ⟨x, hxe⟩ : ∃ b, lo / 2 ^ n = b := ⟨_, rfl⟩
    obtain ⟨q, hqe⟩ : ∃ b, pre hi lo (n + 1) / c = b := ⟨_, rfl⟩
    obtain ⟨r, hre⟩ : ∃ b, pre hi lo (n + 1) % c = b := ⟨_, rfl⟩
    rw [hbe] at a1 hb ih
    rw [hqe] at hq ih h7
    rw [hre] at hr ih h6
    rw [hxe] at a1 s1
    clear hbe hqe hre hxe
    have o1 := or_bit r b hb
    have p1 : q * 2 % 18446744073709551616 = 2 * q := by omega
    have p2 : (2 * q + 1) % 18446744073709551616 = 2 * q + 1 := by omega
    by_cases hcr : c ≤ 2 * r + b
    · rw [if_pos hcr, if_pos hcr] at ih
      by_cases hov : r / 9223372036854775808 = 1
      · have d1 : decide (((r / 9223372036854775808 : Nat) : Int) = 1) = true := by simp; omega
        have u1 : IntKind.u64.wrap (((r * 2 % 18446744073709551616 + b : Nat) : Int) - (c : Int)) = ((2 * r + b - c : Nat) : Int) := by rw [wrap_u64]; omega
        simp (config := {contextual := true, implicitDefEqProofs := false, maxSteps := 4000000}) only [go_sem, ↓reduceIte, Bool.false_eq_true, Nat.reduceEqDiff, Nat.reduceAdd, Int.reduceLE, Int.reduceLT, Int.reduceEq, Int.reduceToNat, Int.toNat_natCast, Int.cast_ofNat_Int, Int.natCast_one, Nat.reduceMod, Nat.reduceDiv, UInt8.reduceToNat, Nat.reduceLT, h2, h1, h8, h6, h7, hst, d0, w0, w1, s1, a1, o1, shl_1, shr_63, d1, u1, addL, wrapN, p1, p2]
        exact ih _ h2 h1 rfl rfl rfl
      · have d1 : decide (((r / 9223372036854775808 : Nat) : Int) = 1) = false := by simp; omega
        have d2 : decide (c ≤ r * 2 % 18446744073709551616 + b) = true := by simp; omega
        have u1 : IntKind.u64.wrap (((r * 2 % 18446744073709551616 + b : Nat) : Int) - (c : Int)) = ((2 * r + b - c : Nat) : Int) := by rw [wrap_u64]; omega
        simp (config := {contextual := true, implicitDefEqProofs := false, maxSteps := 4000000}) only [go_sem, ↓reduceIte, Bool.false_eq_true, Nat.reduceEqDiff, Nat.reduceAdd, Int.reduceLE, Int.reduceLT, Int.reduceEq, Int.reduceToNat, Int.toNat_natCast, Int.cast_ofNat_Int, Int.natCast_one, Nat.reduceMod, Nat.reduceDiv, UInt8.reduceToNat, Nat.reduceLT, h2, h1, h8, h6, h7, hst, d0, w0, w1, s1, a1, o1, shl_1, shr_63, d1, leN, d2, u1, addL, wrapN, p1, p2]
        exact ih _ h2 h1 rfl rfl rfl
    · rw [if_neg hcr, if_neg hcr] at ih
      have d1 : decide (((r / 9223372036854775808 : Nat) : Int) = 1) = false := by simp; omega
      have d2 : decide (c ≤ r * 2 % 18446744073709551616 + b) = false := by simp; omega
      have u1 : r * 2 % 18446744073709551616 + b = 2 * r + b := by omega
      simp (config := {contextual := true, implicitDefEqProofs := false, maxSteps := 4000000}) only [go_sem, ↓reduceIte, Bool.false_eq_true, Nat.reduceEqDiff, Nat.reduceAdd, Int.reduceLE, Int.reduceLT, Int.reduceEq, Int.reduceToNat, Int.toNat_natCast, Int.cast_ofNat_Int, Int.natCast_one, Nat.reduceMod, Nat.reduceDiv, UInt8.reduceToNat, Nat.reduceLT, h2, h1, h8, h6, h7, hst, d0, w0, w1, s1, a1, o1, shl_1, shr_63, d1, leN, d2, wrapN, p1]
      exact ih _ h2 h1 rfl (by rw [Nat.sub_zero, ← u1]; rfl) (by rw [Nat.add_zero]; rfl)
end T01
