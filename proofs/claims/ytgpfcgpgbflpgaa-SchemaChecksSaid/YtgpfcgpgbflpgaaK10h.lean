/- What the check of forms computes: kinds. -/
import Derived.Test.YtgpfcgpgbflpgaaK10g
namespace T10
open Go Fw Go.Proofs
set_option maxRecDepth 100000
set_option linter.unusedSimpArgs false
set_option linter.unusedVariables false
def eqB (a : List UInt8) : Bool := decide (2 ≤ a.length) && decide (a.getD 0 0 = 61)
def knownB (a : List UInt8) : Bool := decide (a ∈ kindsL) || eqB a
theorem first_eq (c : UInt8) : decide ((c.toNat : Int) = 61) = decide (c = 61) := by
  rw [Bool.eq_iff_iff, decide_eq_true_eq, decide_eq_true_eq]
  exact ⟨fun h => byte_eq (n := 61) h, fun h => by rw [h]; rfl⟩
theorem c52_0 (s : St) (K : AV → St → Prop) : CallW cx 52 [.str [119, 111, 114, 100]] s K = K (.bool true) s := by
  refine CallW.eq (CallW.fn' (fn := ir52) rfl rfl (by kernel_rfl) ir52.eq_1 ?_) K
  simp (config := {contextual := true, implicitDefEqProofs := false, maxSteps := 4000000}) only [go_sem, ↓reduceIte, Bool.false_eq_true, Nat.reduceEqDiff, Nat.reduceAdd, Int.reduceLE, Int.reduceLT, Int.reduceEq, Int.reduceToNat, Int.toNat_natCast, Int.cast_ofNat_Int, Int.natCast_one, Nat.reduceMod, Nat.reduceDiv, UInt8.reduceToNat, Nat.reduceLT, tests, c48, show (([119, 111, 114, 100] : List UInt8) = [119, 111, 114, 100]) = True from by simp, show (([119, 111, 114, 100] : List UInt8) = [110, 97, 109, 101]) = False from by simp, show (([119, 111, 114, 100] : List UInt8) = [112, 97, 116, 104]) = False from by simp, show (([119, 111, 114, 100] : List UInt8) = [110, 117, 109, 98, 101, 114]) = False from by simp, show (([119, 111, 114, 100] : List UInt8) = [119, 104, 111, 108, 101]) = False from by simp, show (([119, 111, 114, 100] : List UInt8) = [116, 101, 120, 116]) = False from by simp, show (([119, 111, 114, 100] : List UInt8) = [116, 105, 109, 101]) = False from by simp, show (([119, 111, 114, 100] : List UInt8) = [100, 97, 116, 101]) = False from by simp, show (([119, 111, 114, 100] : List UInt8) = [97, 110, 121]) = False from by simp]
theorem c52_1 (s : St) (K : AV → St → Prop) : CallW cx 52 [.str [110, 97, 109, 101]] s K = K (.bool true) s := by
  refine CallW.eq (CallW.fn' (fn := ir52) rfl rfl (by kernel_rfl) ir52.eq_1 ?_) K
  simp (config := {contextual := true, implicitDefEqProofs := false, maxSteps := 4000000}) only [go_sem, ↓reduceIte, Bool.false_eq_true, Nat.reduceEqDiff, Nat.reduceAdd, Int.reduceLE, Int.reduceLT, Int.reduceEq, Int.reduceToNat, Int.toNat_natCast, Int.cast_ofNat_Int, Int.natCast_one, Nat.reduceMod, Nat.reduceDiv, UInt8.reduceToNat, Nat.reduceLT, tests, c48, show (([110, 97, 109, 101] : List UInt8) = [119, 111, 114, 100]) = False from by simp, show (([110, 97, 109, 101] : List UInt8) = [110, 97, 109, 101]) = True from by simp, show (([110, 97, 109, 101] : List UInt8) = [112, 97, 116, 104]) = False from by simp, show (([110, 97, 109, 101] : List UInt8) = [110, 117, 109, 98, 101, 114]) = False from by simp, show (([110, 97, 109, 101] : List UInt8) = [119, 104, 111, 108, 101]) = False from by simp, show (([110, 97, 109, 101] : List UInt8) = [116, 101, 120, 116]) = False from by simp, show (([110, 97, 109, 101] : List UInt8) = [116, 105, 109, 101]) = False from by simp, show (([110, 97, 109, 101] : List UInt8) = [100, 97, 116, 101]) = False from by simp, show (([110, 97, 109, 101] : List UInt8) = [97, 110, 121]) = False from by simp]
theorem c52_2 (s : St) (K : AV → St → Prop) : CallW cx 52 [.str [112, 97, 116, 104]] s K = K (.bool true) s := by
  refine CallW.eq (CallW.fn' (fn := ir52) rfl rfl (by kernel_rfl) ir52.eq_1 ?_) K
  simp (config := {contextual := true, implicitDefEqProofs := false, maxSteps := 4000000}) only [go_sem, ↓reduceIte, Bool.false_eq_true, Nat.reduceEqDiff, Nat.reduceAdd, Int.reduceLE, Int.reduceLT, Int.reduceEq, Int.reduceToNat, Int.toNat_natCast, Int.cast_ofNat_Int, Int.natCast_one, Nat.reduceMod, Nat.reduceDiv, UInt8.reduceToNat, Nat.reduceLT, tests, c48, show (([112, 97, 116, 104] : List UInt8) = [119, 111, 114, 100]) = False from by simp, show (([112, 97, 116, 104] : List UInt8) = [110, 97, 109, 101]) = False from by simp, show (([112, 97, 116, 104] : List UInt8) = [112, 97, 116, 104]) = True from by simp, show (([112, 97, 116, 104] : List UInt8) = [110, 117, 109, 98, 101, 114]) = False from by simp, show (([112, 97, 116, 104] : List UInt8) = [119, 104, 111, 108, 101]) = False from by simp, show (([112, 97, 116, 104] : List UInt8) = [116, 101, 120, 116]) = False from by simp, show (([112, 97, 116, 104] : List UInt8) = [116, 105, 109, 101]) = False from by simp, show (([112, 97, 116, 104] : List UInt8) = [100, 97, 116, 101]) = False from by simp, show (([112, 97, 116, 104] : List UInt8) = [97, 110, 121]) = False from by simp]
theorem c52_3 (s : St) (K : AV → St → Prop) : CallW cx 52 [.str [110, 117, 109, 98, 101, 114]] s K = K (.bool true) s := by
  refine CallW.eq (CallW.fn' (fn := ir52) rfl rfl (by kernel_rfl) ir52.eq_1 ?_) K
  simp (config := {contextual := true, implicitDefEqProofs := false, maxSteps := 4000000}) only [go_sem, ↓reduceIte, Bool.false_eq_true, Nat.reduceEqDiff, Nat.reduceAdd, Int.reduceLE, Int.reduceLT, Int.reduceEq, Int.reduceToNat, Int.toNat_natCast, Int.cast_ofNat_Int, Int.natCast_one, Nat.reduceMod, Nat.reduceDiv, UInt8.reduceToNat, Nat.reduceLT, tests, c48, show (([110, 117, 109, 98, 101, 114] : List UInt8) = [119, 111, 114, 100]) = False from by simp, show (([110, 117, 109, 98, 101, 114] : List UInt8) = [110, 97, 109, 101]) = False from by simp, show (([110, 117, 109, 98, 101, 114] : List UInt8) = [112, 97, 116, 104]) = False from by simp, show (([110, 117, 109, 98, 101, 114] : List UInt8) = [110, 117, 109, 98, 101, 114]) = True from by simp, show (([110, 117, 109, 98, 101, 114] : List UInt8) = [119, 104, 111, 108, 101]) = False from by simp, show (([110, 117, 109, 98, 101, 114] : List UInt8) = [116, 101, 120, 116]) = False from by simp, show (([110, 117, 109, 98, 101, 114] : List UInt8) = [116, 105, 109, 101]) = False from by simp, show (([110, 117, 109, 98, 101, 114] : List UInt8) = [100, 97, 116, 101]) = False from by simp, show (([110, 117, 109, 98, 101, 114] : List UInt8) = [97, 110, 121]) = False from by simp]
theorem c52_4 (s : St) (K : AV → St → Prop) : CallW cx 52 [.str [119, 104, 111, 108, 101]] s K = K (.bool true) s := by
  refine CallW.eq (CallW.fn' (fn := ir52) rfl rfl (by kernel_rfl) ir52.eq_1 ?_) K
  simp (config := {contextual := true, implicitDefEqProofs := false, maxSteps := 4000000}) only [go_sem, ↓reduceIte, Bool.false_eq_true, Nat.reduceEqDiff, Nat.reduceAdd, Int.reduceLE, Int.reduceLT, Int.reduceEq, Int.reduceToNat, Int.toNat_natCast, Int.cast_ofNat_Int, Int.natCast_one, Nat.reduceMod, Nat.reduceDiv, UInt8.reduceToNat, Nat.reduceLT, tests, c48, show (([119, 104, 111, 108, 101] : List UInt8) = [119, 111, 114, 100]) = False from by simp, show (([119, 104, 111, 108, 101] : List UInt8) = [110, 97, 109, 101]) = False from by simp, show (([119, 104, 111, 108, 101] : List UInt8) = [112, 97, 116, 104]) = False from by simp, show (([119, 104, 111, 108, 101] : List UInt8) = [110, 117, 109, 98, 101, 114]) = False from by simp, show (([119, 104, 111, 108, 101] : List UInt8) = [119, 104, 111, 108, 101]) = True from by simp, show (([119, 104, 111, 108, 101] : List UInt8) = [116, 101, 120, 116]) = False from by simp, show (([119, 104, 111, 108, 101] : List UInt8) = [116, 105, 109, 101]) = False from by simp, show (([119, 104, 111, 108, 101] : List UInt8) = [100, 97, 116, 101]) = False from by simp, show (([119, 104, 111, 108, 101] : List UInt8) = [97, 110, 121]) = False from by simp]
theorem c52_5 (s : St) (K : AV → St → Prop) : CallW cx 52 [.str [116, 101, 120, 116]] s K = K (.bool true) s := by
  refine CallW.eq (CallW.fn' (fn := ir52) rfl rfl (by kernel_rfl) ir52.eq_1 ?_) K
  simp (config := {contextual := true, implicitDefEqProofs := false, maxSteps := 4000000}) only [go_sem, ↓reduceIte, Bool.false_eq_true, Nat.reduceEqDiff, Nat.reduceAdd, Int.reduceLE, Int.reduceLT, Int.reduceEq, Int.reduceToNat, Int.toNat_natCast, Int.cast_ofNat_Int, Int.natCast_one, Nat.reduceMod, Nat.reduceDiv, UInt8.reduceToNat, Nat.reduceLT, tests, c48, show (([116, 101, 120, 116] : List UInt8) = [119, 111, 114, 100]) = False from by simp, show (([116, 101, 120, 116] : List UInt8) = [110, 97, 109, 101]) = False from by simp, show (([116, 101, 120, 116] : List UInt8) = [112, 97, 116, 104]) = False from by simp, show (([116, 101, 120, 116] : List UInt8) = [110, 117, 109, 98, 101, 114]) = False from by simp, show (([116, 101, 120, 116] : List UInt8) = [119, 104, 111, 108, 101]) = False from by simp, show (([116, 101, 120, 116] : List UInt8) = [116, 101, 120, 116]) = True from by simp, show (([116, 101, 120, 116] : List UInt8) = [116, 105, 109, 101]) = False from by simp, show (([116, 101, 120, 116] : List UInt8) = [100, 97, 116, 101]) = False from by simp, show (([116, 101, 120, 116] : List UInt8) = [97, 110, 121]) = False from by simp]
theorem c52_6 (s : St) (K : AV → St → Prop) : CallW cx 52 [.str [116, 105, 109, 101]] s K = K (.bool true) s := by
  refine CallW.eq (CallW.fn' (fn := ir52) rfl rfl (by kernel_rfl) ir52.eq_1 ?_) K
  simp (config := {contextual := true, implicitDefEqProofs := false, maxSteps := 4000000}) only [go_sem, ↓reduceIte, Bool.false_eq_true, Nat.reduceEqDiff, Nat.reduceAdd, Int.reduceLE, Int.reduceLT, Int.reduceEq, Int.reduceToNat, Int.toNat_natCast, Int.cast_ofNat_Int, Int.natCast_one, Nat.reduceMod, Nat.reduceDiv, UInt8.reduceToNat, Nat.reduceLT, tests, c48, show (([116, 105, 109, 101] : List UInt8) = [119, 111, 114, 100]) = False from by simp, show (([116, 105, 109, 101] : List UInt8) = [110, 97, 109, 101]) = False from by simp, show (([116, 105, 109, 101] : List UInt8) = [112, 97, 116, 104]) = False from by simp, show (([116, 105, 109, 101] : List UInt8) = [110, 117, 109, 98, 101, 114]) = False from by simp, show (([116, 105, 109, 101] : List UInt8) = [119, 104, 111, 108, 101]) = False from by simp, show (([116, 105, 109, 101] : List UInt8) = [116, 101, 120, 116]) = False from by simp, show (([116, 105, 109, 101] : List UInt8) = [116, 105, 109, 101]) = True from by simp, show (([116, 105, 109, 101] : List UInt8) = [100, 97, 116, 101]) = False from by simp, show (([116, 105, 109, 101] : List UInt8) = [97, 110, 121]) = False from by simp]
theorem c52_7 (s : St) (K : AV → St → Prop) : CallW cx 52 [.str [100, 97, 116, 101]] s K = K (.bool true) s := by
  refine CallW.eq (CallW.fn' (fn := ir52) rfl rfl (by kernel_rfl) ir52.eq_1 ?_) K
  simp (config := {contextual := true, implicitDefEqProofs := false, maxSteps := 4000000}) only [go_sem, ↓reduceIte, Bool.false_eq_true, Nat.reduceEqDiff, Nat.reduceAdd, Int.reduceLE, Int.reduceLT, Int.reduceEq, Int.reduceToNat, Int.toNat_natCast, Int.cast_ofNat_Int, Int.natCast_one, Nat.reduceMod, Nat.reduceDiv, UInt8.reduceToNat, Nat.reduceLT, tests, c48, show (([100, 97, 116, 101] : List UInt8) = [119, 111, 114, 100]) = False from by simp, show (([100, 97, 116, 101] : List UInt8) = [110, 97, 109, 101]) = False from by simp, show (([100, 97, 116, 101] : List UInt8) = [112, 97, 116, 104]) = False from by simp, show (([100, 97, 116, 101] : List UInt8) = [110, 117, 109, 98, 101, 114]) = False from by simp, show (([100, 97, 116, 101] : List UInt8) = [119, 104, 111, 108, 101]) = False from by simp, show (([100, 97, 116, 101] : List UInt8) = [116, 101, 120, 116]) = False from by simp, show (([100, 97, 116, 101] : List UInt8) = [116, 105, 109, 101]) = False from by simp, show (([100, 97, 116, 101] : List UInt8) = [100, 97, 116, 101]) = True from by simp, show (([100, 97, 116, 101] : List UInt8) = [97, 110, 121]) = False from by simp]
theorem c52_8 (s : St) (K : AV → St → Prop) : CallW cx 52 [.str [97, 110, 121]] s K = K (.bool true) s := by
  refine CallW.eq (CallW.fn' (fn := ir52) rfl rfl (by kernel_rfl) ir52.eq_1 ?_) K
  simp (config := {contextual := true, implicitDefEqProofs := false, maxSteps := 4000000}) only [go_sem, ↓reduceIte, Bool.false_eq_true, Nat.reduceEqDiff, Nat.reduceAdd, Int.reduceLE, Int.reduceLT, Int.reduceEq, Int.reduceToNat, Int.toNat_natCast, Int.cast_ofNat_Int, Int.natCast_one, Nat.reduceMod, Nat.reduceDiv, UInt8.reduceToNat, Nat.reduceLT, tests, c48, show (([97, 110, 121] : List UInt8) = [119, 111, 114, 100]) = False from by simp, show (([97, 110, 121] : List UInt8) = [110, 97, 109, 101]) = False from by simp, show (([97, 110, 121] : List UInt8) = [112, 97, 116, 104]) = False from by simp, show (([97, 110, 121] : List UInt8) = [110, 117, 109, 98, 101, 114]) = False from by simp, show (([97, 110, 121] : List UInt8) = [119, 104, 111, 108, 101]) = False from by simp, show (([97, 110, 121] : List UInt8) = [116, 101, 120, 116]) = False from by simp, show (([97, 110, 121] : List UInt8) = [116, 105, 109, 101]) = False from by simp, show (([97, 110, 121] : List UInt8) = [100, 97, 116, 101]) = False from by simp, show (([97, 110, 121] : List UInt8) = [97, 110, 121]) = True from by simp]
theorem c52 (a : List UInt8) (s : St) (K : AV → St → Prop) : CallW cx 52 [.str a] s K = K (.bool (knownB a)) s := by
  by_cases hk : a ∈ kindsL
  · have hb : knownB a = true := by simp [knownB, hk]
    rw [hb]
    simp only [kindsL, List.mem_cons, List.not_mem_nil, or_false] at hk
    rcases hk with rfl | rfl | rfl | rfl | rfl | rfl | rfl | rfl | rfl
    · exact c52_0 s K
    · exact c52_1 s K
    · exact c52_2 s K
    · exact c52_3 s K
    · exact c52_4 s K
    · exact c52_5 s K
    · exact c52_6 s K
    · exact c52_7 s K
    · exact c52_8 s K
  · refine CallW.eq (CallW.fn' (fn := ir52) rfl rfl (by kernel_rfl) ir52.eq_1 ?_) K
    have n0 : (a = [119, 111, 114, 100]) = False := by simp; intro h; exact hk (h ▸ by decide)
    have n1 : (a = [110, 97, 109, 101]) = False := by simp; intro h; exact hk (h ▸ by decide)
    have n2 : (a = [112, 97, 116, 104]) = False := by simp; intro h; exact hk (h ▸ by decide)
    have n3 : (a = [110, 117, 109, 98, 101, 114]) = False := by simp; intro h; exact hk (h ▸ by decide)
    have n4 : (a = [119, 104, 111, 108, 101]) = False := by simp; intro h; exact hk (h ▸ by decide)
    have n5 : (a = [116, 101, 120, 116]) = False := by simp; intro h; exact hk (h ▸ by decide)
    have n6 : (a = [116, 105, 109, 101]) = False := by simp; intro h; exact hk (h ▸ by decide)
    have n7 : (a = [100, 97, 116, 101]) = False := by simp; intro h; exact hk (h ▸ by decide)
    have n8 : (a = [97, 110, 121]) = False := by simp; intro h; exact hk (h ▸ by decide)
    have hb : knownB a = eqB a := by simp [knownB, hk]
    simp (config := {contextual := true, implicitDefEqProofs := false, maxSteps := 4000000}) only [go_sem, ↓reduceIte, Bool.false_eq_true, Nat.reduceEqDiff, Nat.reduceAdd, Int.reduceLE, Int.reduceLT, Int.reduceEq, Int.reduceToNat, Int.toNat_natCast, Int.cast_ofNat_Int, Int.natCast_one, Nat.reduceMod, Nat.reduceDiv, UInt8.reduceToNat, Nat.reduceLT, tests, c48, n0, n1, n2, n3, n4, n5, n6, n7, n8, first_eq]
    rw [hb]
    by_cases h : 2 ≤ a.length
    · have hx : decide (1 < (a.length : Int)) = true := by simp; omega
      have hy : decide (2 ≤ a.length) = true := by simp [h]
      rw [hx, pif_true]
      refine ⟨by omega, ?_⟩
      simp only [eqB, hy, Bool.true_and]
    · have hx : decide (1 < (a.length : Int)) = false := by simp; omega
      have hy : decide (2 ≤ a.length) = false := by simp [h]
      rw [hx, pif_false]
      simp only [eqB, hy, Bool.false_and]
def endsStar (a : List UInt8) : Bool := decide (1 ≤ a.length) && decide (a.drop (a.length - 1) = [42])
def splitB (a : List UInt8) : Bool := !decide (a = [61, 42]) && endsStar a
def splitW (a : List UInt8) : List UInt8 := if splitB a = true then a.take (a.length - 1) else a
theorem c78 (a : List UInt8) (ha : a.length ≤ 4611686018427387904) (s : St) (K : AV → St → Prop) : CallW cx 78 [.str a, .str [42]] s K = K (.bool (endsStar a)) s := by
  refine CallW.eq (CallW.fn' (fn := ir78) rfl rfl (by kernel_rfl) ir78.eq_1 ?_) K
  by_cases h : 1 ≤ a.length
  · have hx : decide (1 ≤ (a.length : Int)) = true := by simp; omega
    have hy : decide (1 ≤ a.length) = true := by simp [h]
    have hw : IntKind.i64.wrap ((a.length : Int) - 1) = ((a.length - 1 : Nat) : Int) := by rw [wrap_i64 (by omega) (by omega)]; omega
    simp (config := {contextual := true, implicitDefEqProofs := false, maxSteps := 4000000}) only [go_sem, ↓reduceIte, Bool.false_eq_true, Nat.reduceEqDiff, Nat.reduceAdd, Int.reduceLE, Int.reduceLT, Int.reduceEq, Int.reduceToNat, Int.toNat_natCast, Int.cast_ofNat_Int, Int.natCast_one, Nat.reduceMod, Nat.reduceDiv, UInt8.reduceToNat, Nat.reduceLT, hx, hw]
    refine ⟨by omega, ?_⟩
    simp only [endsStar, hy, Bool.true_and]
  · have hx : decide (1 ≤ (a.length : Int)) = false := by simp; omega
    have hy : decide (1 ≤ a.length) = false := by simp [h]
    simp (config := {contextual := true, implicitDefEqProofs := false, maxSteps := 4000000}) only [go_sem, ↓reduceIte, Bool.false_eq_true, Nat.reduceEqDiff, Nat.reduceAdd, Int.reduceLE, Int.reduceLT, Int.reduceEq, Int.reduceToNat, Int.toNat_natCast, Int.cast_ofNat_Int, Int.natCast_one, Nat.reduceMod, Nat.reduceDiv, UInt8.reduceToNat, Nat.reduceLT, hx]
    simp only [endsStar, hy, Bool.false_and]
theorem c70 (a : List UInt8) (ha : a.length ≤ 4611686018427387904) (s : St) (K : AV → St → Prop) : CallW cx 70 [.str a, .str [42]] s K = K (.bool (endsStar a)) s := by
  refine CallW.eq (CallW.fn' (fn := ir70) rfl rfl (by kernel_rfl) ir70.eq_1 ?_) K
  have k := fun st K => c78 a ha st K
  simp (config := {contextual := true, implicitDefEqProofs := false, maxSteps := 4000000}) only [go_sem, ↓reduceIte, Bool.false_eq_true, Nat.reduceEqDiff, Nat.reduceAdd, Int.reduceLE, Int.reduceLT, Int.reduceEq, Int.reduceToNat, Int.toNat_natCast, Int.cast_ofNat_Int, Int.natCast_one, Nat.reduceMod, Nat.reduceDiv, UInt8.reduceToNat, Nat.reduceLT, k]
theorem c51 (a : List UInt8) (ha : a.length ≤ 4611686018427387904) (s : St) (K : AV → St → Prop) : CallW cx 51 [.str a] s K = K (.tuple [.str (splitW a), .bool (splitB a)]) s := by
  refine CallW.eq (CallW.fn' (fn := ir51) rfl rfl (by kernel_rfl) ir51.eq_1 ?_) K
  have k := fun st K => c70 a ha st K
  by_cases h1 : a = [61, 42]
  · have hx : decide (a = [61, 42]) = true := by simp [h1]
    have hb : splitB a = false := by simp [splitB, hx]
    simp (config := {contextual := true, implicitDefEqProofs := false, maxSteps := 4000000}) only [go_sem, ↓reduceIte, Bool.false_eq_true, Nat.reduceEqDiff, Nat.reduceAdd, Int.reduceLE, Int.reduceLT, Int.reduceEq, Int.reduceToNat, Int.toNat_natCast, Int.cast_ofNat_Int, Int.natCast_one, Nat.reduceMod, Nat.reduceDiv, UInt8.reduceToNat, Nat.reduceLT, hx]
    simp [splitW, hb]
  have hx : decide (a = [61, 42]) = false := by simp [h1]
  cases h2 : endsStar a with
  | false =>
    have hb : splitB a = false := by simp [splitB, h2]
    simp (config := {contextual := true, implicitDefEqProofs := false, maxSteps := 4000000}) only [go_sem, ↓reduceIte, Bool.false_eq_true, Nat.reduceEqDiff, Nat.reduceAdd, Int.reduceLE, Int.reduceLT, Int.reduceEq, Int.reduceToNat, Int.toNat_natCast, Int.cast_ofNat_Int, Int.natCast_one, Nat.reduceMod, Nat.reduceDiv, UInt8.reduceToNat, Nat.reduceLT, hx, k, h2]
    simp [splitW, hb]
  | true =>
    have hb : splitB a = true := by simp [splitB, h2, h1]
    have h3 : 1 ≤ a.length := by simp [endsStar] at h2; omega
    have hw : IntKind.i64.wrap ((a.length : Int) - 1) = ((a.length - 1 : Nat) : Int) := by rw [wrap_i64 (by omega) (by omega)]; omega
    simp (config := {contextual := true, implicitDefEqProofs := false, maxSteps := 4000000}) only [go_sem, ↓reduceIte, Bool.false_eq_true, Nat.reduceEqDiff, Nat.reduceAdd, Int.reduceLE, Int.reduceLT, Int.reduceEq, Int.reduceToNat, Int.toNat_natCast, Int.cast_ofNat_Int, Int.natCast_one, Nat.reduceMod, Nat.reduceDiv, UInt8.reduceToNat, Nat.reduceLT, hx, k, h2, hw]
    refine ⟨by omega, ?_⟩
    simp [splitW, hb]
def kindsOk (n : Nat) : List (List UInt8) → Nat → Bool
  | [], _ => true
  | a :: l, i => (knownB (splitW a) && !(splitB a && decide (i + 1 < n))) && kindsOk n l (i + 1)
theorem l36 (f : Form) (hl : f.args.length ≤ 12) (hs : ∀ a ∈ f.args, a.length ≤ 100) (p : Nat) (st : St) (hp : look p st.heap = some (.cells (some 55) [.str f.word, slv f.an f.args.length (f.args.map AV.str), slv f.kn f.kids.length (encFs f.kids), .int .i64 f.least, .int .i64 f.most])) (Q : Sig → FE → St → Prop) : ∀ (n i : Nat) (e : FE), i + n = f.args.length → e 1 = .ptr p 0 → e 8 = slv f.an f.args.length (f.args.map AV.str) → e 9 = .int .i64 f.args.length → e 10 = .int .i64 i →
    (kindsOk f.args.length (f.args.drop i) i = true → ∀ e', Q (.exit 0) e' st) → (kindsOk f.args.length (f.args.drop i) i = false → ∀ e', e' 2 = .bool false → Q .ret e' st) → WLoop cx ir36L0 e st Q
  | 0, i, e, hi, h1, h8, h9, h10, hT, hF => by
    refine WLoop.rnd (c := _) ir36L0.eq_1 ?_
    have hd : decide ((i : Int) < (f.args.length : Int)) = false := by simp; omega
    simp (config := {contextual := true, implicitDefEqProofs := false, maxSteps := 4000000}) only [go_sem, ↓reduceIte, Bool.false_eq_true, Nat.reduceEqDiff, Nat.reduceAdd, Int.reduceLE, Int.reduceLT, Int.reduceEq, Int.reduceToNat, Int.toNat_natCast, Int.cast_ofNat_Int, Int.natCast_one, Nat.reduceMod, Nat.reduceDiv, UInt8.reduceToNat, Nat.reduceLT, h1, h8, h9, h10, hd]
    exact hT (by rw [List.drop_eq_nil_of_le (by omega)]; rfl) _
  | n + 1, i, e, hi, h1, h8, h9, h10, hT, hF => by
    refine WLoop.rnd (c := _) ir36L0.eq_1 ?_
    have hd : decide ((i : Int) < (f.args.length : Int)) = true := by simp; omega
    have hw := wrap_one (i := i) (by omega)
    have hlt : i < f.args.length := by omega
    have hw2 : IntKind.i64.wrap ((f.args.length : Int) - 1) = ((f.args.length - 1 : Nat) : Int) := by rw [wrap_i64 (by omega) (by omega)]; omega
    have hz : decide ((i : Int) < ((f.args.length - 1 : Nat) : Int)) = decide (i + 1 < f.args.length) := by
      rw [Bool.eq_iff_iff, decide_eq_true_eq, decide_eq_true_eq]; omega
    have hlen := hs _ (List.getElem_mem hlt)
    have k51 := fun st K => c51 f.args[i] (by omega) st K
    rw [List.drop_eq_getElem_cons hlt] at hT hF
    simp only [kindsOk] at hT hF
    have next : ∀ e', (knownB (splitW f.args[i]) && !(splitB f.args[i] && decide (i + 1 < f.args.length))) = true → e' 1 = .ptr p 0 → e' 8 = slv f.an f.args.length (f.args.map AV.str) → e' 9 = .int .i64 f.args.length → e' 10 = .int .i64 ((i + 1 : Nat) : Int) → WLoop cx ir36L0 e' st Q := fun e' hb k1 k8 k9 k10 => by
      rw [hb, Bool.true_and] at hT hF
      exact l36 f hl hs p st hp Q n (i + 1) e' (by omega) k1 k8 k9 k10 hT hF
    simp (config := {contextual := true, implicitDefEqProofs := false, maxSteps := 4000000}) only [go_sem, ↓reduceIte, Bool.false_eq_true, Nat.reduceEqDiff, Nat.reduceAdd, Int.reduceLE, Int.reduceLT, Int.reduceEq, Int.reduceToNat, Int.toNat_natCast, Int.cast_ofNat_Int, Int.natCast_one, Nat.reduceMod, Nat.reduceDiv, UInt8.reduceToNat, Nat.reduceLT, h1, h8, h9, h10, hd, hw, hw2, hz, sub_str hlt, k51, c52, hp]
    refine ⟨by omega, ?_⟩
    cases hA : knownB (splitW f.args[i]) <;> cases hB : splitB f.args[i] <;> cases hC : decide (i + 1 < f.args.length) <;> simp only [pif, Bool.not_true, Bool.not_false, if_true, Bool.false_eq_true, if_false]
    all_goals first
      | exact next _ (by rw [hA, hB, hC]; rfl) h1 h8 h9 rfl
      | exact hF (by rw [hA, hB, hC]; rfl) _ rfl
def kindsF (f : Form) : Bool := kindsOk f.args.length f.args 0
theorem c36 (f : Form) (hl : f.args.length ≤ 12) (hs : ∀ a ∈ f.args, a.length ≤ 100) (s : St) (K : AV → St → Prop) : CallW cx 36 [.agg [.str f.word, slv f.an f.args.length (f.args.map AV.str), slv f.kn f.kids.length (encFs f.kids), .int .i64 f.least, .int .i64 f.most]] s K = K (.bool (kindsF f)) s := by
  refine CallW.eq (CallW.fn' (fn := ir36) rfl rfl (by kernel_rfl) ir36.eq_1 ?_) K
  simp (config := {contextual := true, implicitDefEqProofs := false, maxSteps := 4000000}) only [go_sem, ↓reduceIte, Bool.false_eq_true, Nat.reduceEqDiff, Nat.reduceAdd, Int.reduceLE, Int.reduceLT, Int.reduceEq, Int.reduceToNat, Int.toNat_natCast, Int.cast_ofNat_Int, Int.natCast_one, Nat.reduceMod, Nat.reduceDiv, UInt8.reduceToNat, Nat.reduceLT]
  refine l36 f hl hs s.next _ (by simp [Fw.look]) _ f.args.length 0 _ (by omega) rfl rfl rfl rfl ?_ ?_
  · intro h e'
    rw [List.drop_zero] at h
    simp (config := {contextual := true, implicitDefEqProofs := false, maxSteps := 4000000}) only [go_sem, ↓reduceIte, Bool.false_eq_true, Nat.reduceEqDiff, Nat.reduceAdd, Int.reduceLE, Int.reduceLT, Int.reduceEq, Int.reduceToNat, Int.toNat_natCast, Int.cast_ofNat_Int, Int.natCast_one, Nat.reduceMod, Nat.reduceDiv, UInt8.reduceToNat, Nat.reduceLT, h, kindsF]
  · intro h e' h2
    rw [List.drop_zero] at h
    simp (config := {contextual := true, implicitDefEqProofs := false, maxSteps := 4000000}) only [go_sem, ↓reduceIte, Bool.false_eq_true, Nat.reduceEqDiff, Nat.reduceAdd, Int.reduceLE, Int.reduceLT, Int.reduceEq, Int.reduceToNat, Int.toNat_natCast, Int.cast_ofNat_Int, Int.natCast_one, Nat.reduceMod, Nat.reduceDiv, UInt8.reduceToNat, Nat.reduceLT, h, h2, kindsF]
theorem c34 (f : Form) (s : St) (K : AV → St → Prop) : CallW cx 34 [.agg [.str f.word, slv f.an f.args.length (f.args.map AV.str), slv f.kn f.kids.length (encFs f.kids), .int .i64 f.least, .int .i64 f.most]] s K = K (.bool (nameB f.word)) s := by
  refine CallW.eq (CallW.fn' (fn := ir34) rfl rfl (by kernel_rfl) ir34.eq_1 ?_) K
  simp (config := {contextual := true, implicitDefEqProofs := false, maxSteps := 4000000}) only [go_sem, ↓reduceIte, Bool.false_eq_true, Nat.reduceEqDiff, Nat.reduceAdd, Int.reduceLE, Int.reduceLT, Int.reduceEq, Int.reduceToNat, Int.toNat_natCast, Int.cast_ofNat_Int, Int.natCast_one, Nat.reduceMod, Nat.reduceDiv, UInt8.reduceToNat, Nat.reduceLT, c35]
def limitsF (f : Form) : Bool := decide (0 ≤ f.least) && decide (f.least ≤ 1000) && decide (1 ≤ f.most) && decide (f.most ≤ 1000) && decide (f.least ≤ f.most)
theorem c32 (f : Form) (s : St) (K : AV → St → Prop) : CallW cx 32 [.agg [.str f.word, slv f.an f.args.length (f.args.map AV.str), slv f.kn f.kids.length (encFs f.kids), .int .i64 f.least, .int .i64 f.most]] s K = K (.bool (limitsF f)) s := by
  refine CallW.eq (CallW.fn' (fn := ir32) rfl rfl (by kernel_rfl) ir32.eq_1 ?_) K
  simp (config := {contextual := true, implicitDefEqProofs := false, maxSteps := 4000000}) only [go_sem, ↓reduceIte, Bool.false_eq_true, Nat.reduceEqDiff, Nat.reduceAdd, Int.reduceLE, Int.reduceLT, Int.reduceEq, Int.reduceToNat, Int.toNat_natCast, Int.cast_ofNat_Int, Int.natCast_one, Nat.reduceMod, Nat.reduceDiv, UInt8.reduceToNat, Nat.reduceLT, limitsF]
  cases decide (0 ≤ f.least) <;> cases decide (f.least ≤ 1000) <;> cases decide (1 ≤ f.most) <;> cases decide (f.most ≤ 1000) <;> simp [pif]
end T10
