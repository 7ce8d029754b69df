/- What the functions that SchemaFits reaches compute, continued: what fits. -/
import Derived.Test.YtgpfcgpgbflpgaaK10s3
namespace T10
open Go Fw Go.Proofs
set_option maxRecDepth 100000
set_option linter.unusedSimpArgs false
set_option linter.unusedVariables false
def tests (p : Nat) : List (AV × AV) := [(.str [119, 111, 114, 100], .func 60 [] []), (.str [110, 97, 109, 101], .func 61 [] [.ptr p 0]), (.str [112, 97, 116, 104], .func 62 [] [.ptr p 0]), (.str [110, 117, 109, 98, 101, 114], .func 64 [] []), (.str [119, 104, 111, 108, 101], .func 65 [] []), (.str [116, 101, 120, 116], .func 66 [] []), (.str [116, 105, 109, 101], .func 67 [] []), (.str [100, 97, 116, 101], .func 68 [] []), (.str [97, 110, 121], .func 69 [] [])]
theorem c48 (s : St) (K : AV → St → Prop) : CallW cx 48 [] s K = K (.map (s.next + 1)) { heap := (s.next + 1, .map (tests s.next)) :: (s.next, .cells (some 79) [.func 60 [] []]) :: s.heap, next := s.next + 2, low := min s.low s.next } := by
  refine CallW.eq (CallW.fn' (fn := ir48) rfl rfl (by kernel_rfl) ir48.eq_1 ?_) K
  simp (config := {contextual := true, implicitDefEqProofs := false, maxSteps := 4000000}) only [go_sem, ↓reduceIte, Bool.false_eq_true, Nat.reduceEqDiff, Nat.reduceAdd, Int.reduceLE, Int.reduceLT, Int.reduceEq, Int.reduceToNat, Int.toNat_natCast, Int.cast_ofNat_Int, Int.natCast_one, Nat.reduceMod, Nat.reduceDiv, UInt8.reduceToNat, Nat.reduceLT, show (([110, 97, 109, 101] : List UInt8) = [119, 111, 114, 100]) = False from by simp, show (([112, 97, 116, 104] : List UInt8) = [119, 111, 114, 100]) = False from by simp, show (([112, 97, 116, 104] : List UInt8) = [110, 97, 109, 101]) = False from by simp, show (([110, 117, 109, 98, 101, 114] : List UInt8) = [119, 111, 114, 100]) = False from by simp, show (([110, 117, 109, 98, 101, 114] : List UInt8) = [110, 97, 109, 101]) = False from by simp, show (([110, 117, 109, 98, 101, 114] : List UInt8) = [112, 97, 116, 104]) = False from by simp, show (([119, 104, 111, 108, 101] : List UInt8) = [119, 111, 114, 100]) = False from by simp, show (([119, 104, 111, 108, 101] : List UInt8) = [110, 97, 109, 101]) = False from by simp, show (([119, 104, 111, 108, 101] : List UInt8) = [112, 97, 116, 104]) = False from by simp, show (([119, 104, 111, 108, 101] : List UInt8) = [110, 117, 109, 98, 101, 114]) = False from by simp, show (([116, 101, 120, 116] : List UInt8) = [119, 111, 114, 100]) = False from by simp, show (([116, 101, 120, 116] : List UInt8) = [110, 97, 109, 101]) = False from by simp, show (([116, 101, 120, 116] : List UInt8) = [112, 97, 116, 104]) = False from by simp, show (([116, 101, 120, 116] : List UInt8) = [110, 117, 109, 98, 101, 114]) = False from by simp, show (([116, 101, 120, 116] : List UInt8) = [119, 104, 111, 108, 101]) = False from by simp, show (([116, 105, 109, 101] : List UInt8) = [119, 111, 114, 100]) = False from by simp, show (([116, 105, 109, 101] : List UInt8) = [110, 97, 109, 101]) = False from by simp, show (([116, 105, 109, 101] : List UInt8) = [112, 97, 116, 104]) = False from by simp, show (([116, 105, 109, 101] : List UInt8) = [110, 117, 109, 98, 101, 114]) = False from by simp, show (([116, 105, 109, 101] : List UInt8) = [119, 104, 111, 108, 101]) = False from by simp, show (([116, 105, 109, 101] : List UInt8) = [116, 101, 120, 116]) = False from by simp, show (([100, 97, 116, 101] : List UInt8) = [119, 111, 114, 100]) = False from by simp, show (([100, 97, 116, 101] : List UInt8) = [110, 97, 109, 101]) = False from by simp, show (([100, 97, 116, 101] : List UInt8) = [112, 97, 116, 104]) = False from by simp, show (([100, 97, 116, 101] : List UInt8) = [110, 117, 109, 98, 101, 114]) = False from by simp, show (([100, 97, 116, 101] : List UInt8) = [119, 104, 111, 108, 101]) = False from by simp, show (([100, 97, 116, 101] : List UInt8) = [116, 101, 120, 116]) = False from by simp, show (([100, 97, 116, 101] : List UInt8) = [116, 105, 109, 101]) = False from by simp, show (([97, 110, 121] : List UInt8) = [119, 111, 114, 100]) = False from by simp, show (([97, 110, 121] : List UInt8) = [110, 97, 109, 101]) = False from by simp, show (([97, 110, 121] : List UInt8) = [112, 97, 116, 104]) = False from by simp, show (([97, 110, 121] : List UInt8) = [110, 117, 109, 98, 101, 114]) = False from by simp, show (([97, 110, 121] : List UInt8) = [119, 104, 111, 108, 101]) = False from by simp, show (([97, 110, 121] : List UInt8) = [116, 101, 120, 116]) = False from by simp, show (([97, 110, 121] : List UInt8) = [116, 105, 109, 101]) = False from by simp, show (([97, 110, 121] : List UInt8) = [100, 97, 116, 101]) = False from by simp]
  rw [LeaveW_map (Nat.le_succ _)]
  exact ⟨rfl, rfl⟩
def fitsB (kind : List UInt8) (k : Int) (t : List UInt8) (n : Int) : Bool :=
  if kind = [119, 111, 114, 100] then decide (k = 1)
  else if kind = [110, 97, 109, 101] then decide (k = 1) && nameB t
  else if kind = [112, 97, 116, 104] then decide (k = 1) && pathB t
  else if kind = [110, 117, 109, 98, 101, 114] then decide (k = 2)
  else if kind = [119, 104, 111, 108, 101] then decide (k = 2) && decide (0 ≤ n) && decide (n.tmod 1000 = 0)
  else if kind = [116, 101, 120, 116] then decide (k = 3)
  else if kind = [116, 105, 109, 101] then decide (k = 4)
  else if kind = [100, 97, 116, 101] then decide (k = 5)
  else if kind = [97, 110, 121] then true
  else (decide (2 ≤ kind.length) && decide (kind.getD 0 0 = 61)) && (decide (k = 1) || decide (k = 6)) && decide (t = kind.drop 1)
section
variable (k : Int) (t : List UInt8) (n m : Int) (s : St) (K : AV → St → Prop)
theorem c11_0 (ht : t.length ≤ 4611686018427387904) : CallW cx 11 [.str [119, 111, 114, 100], .agg [.int .i64 k, .str t, .int .i64 n, .int .i64 m]] s K = K (.bool (decide (k = 1))) s := by
  refine CallW.eq (CallW.fn' (fn := ir11) rfl rfl (by kernel_rfl) ir11.eq_1 ?_) K
  have kn := fun K => c26 t ht { heap := (s.next, .cells (some 23) [.int .i64 k, .str t, .int .i64 n, .int .i64 m]) :: s.heap, next := s.next + 1, low := s.next } K
  have kp := fun K => c27 t ht { heap := (s.next, .cells (some 23) [.int .i64 k, .str t, .int .i64 n, .int .i64 m]) :: s.heap, next := s.next + 1, low := s.next } K
  simp (config := {contextual := true, implicitDefEqProofs := false, maxSteps := 4000000}) only [go_sem, ↓reduceIte, Bool.false_eq_true, Nat.reduceEqDiff, Nat.reduceAdd, Int.reduceLE, Int.reduceLT, Int.reduceEq, Int.reduceToNat, Int.toNat_natCast, Int.cast_ofNat_Int, Int.natCast_one, Nat.reduceMod, Nat.reduceDiv, UInt8.reduceToNat, Nat.reduceLT, kn, kp, show (([119, 111, 114, 100] : List UInt8) = [119, 111, 114, 100]) = True from by simp]
theorem c25_0 (ht : t.length ≤ 4611686018427387904) : CallW cx 25 [.str [119, 111, 114, 100], .agg [.int .i64 k, .str t, .int .i64 n, .int .i64 m]] s K = K (.bool (decide (k = 1))) s := by
  refine CallW.eq (CallW.fn' (fn := ir25) rfl rfl (by kernel_rfl) ir25.eq_1 ?_) K
  have k62 := fun p st K h1 h2 => c62 k t n m st K p h1 h2 ht
  simp (config := {contextual := true, implicitDefEqProofs := false, maxSteps := 4000000}) only [go_sem, ↓reduceIte, Bool.false_eq_true, Nat.reduceEqDiff, Nat.reduceAdd, Int.reduceLE, Int.reduceLT, Int.reduceEq, Int.reduceToNat, Int.toNat_natCast, Int.cast_ofNat_Int, Int.natCast_one, Nat.reduceMod, Nat.reduceDiv, UInt8.reduceToNat, Nat.reduceLT, tests, c48, c60, c61, k62, c64, c65, c66, c67, c68, c69, show (([119, 111, 114, 100] : List UInt8) = [119, 111, 114, 100]) = True from by simp, show (([119, 111, 114, 100] : List UInt8) = [110, 97, 109, 101]) = False from by simp, show (([119, 111, 114, 100] : List UInt8) = [112, 97, 116, 104]) = False from by simp, show (([119, 111, 114, 100] : List UInt8) = [110, 117, 109, 98, 101, 114]) = False from by simp, show (([119, 111, 114, 100] : List UInt8) = [119, 104, 111, 108, 101]) = False from by simp, show (([119, 111, 114, 100] : List UInt8) = [116, 101, 120, 116]) = False from by simp, show (([119, 111, 114, 100] : List UInt8) = [116, 105, 109, 101]) = False from by simp, show (([119, 111, 114, 100] : List UInt8) = [100, 97, 116, 101]) = False from by simp, show (([119, 111, 114, 100] : List UInt8) = [97, 110, 121]) = False from by simp]
theorem c11_1 (ht : t.length ≤ 4611686018427387904) : CallW cx 11 [.str [110, 97, 109, 101], .agg [.int .i64 k, .str t, .int .i64 n, .int .i64 m]] s K = K (.bool (decide (k = 1) && nameB t)) s := by
  refine CallW.eq (CallW.fn' (fn := ir11) rfl rfl (by kernel_rfl) ir11.eq_1 ?_) K
  have kn := fun K => c26 t ht { heap := (s.next, .cells (some 23) [.int .i64 k, .str t, .int .i64 n, .int .i64 m]) :: s.heap, next := s.next + 1, low := s.next } K
  have kp := fun K => c27 t ht { heap := (s.next, .cells (some 23) [.int .i64 k, .str t, .int .i64 n, .int .i64 m]) :: s.heap, next := s.next + 1, low := s.next } K
  simp (config := {contextual := true, implicitDefEqProofs := false, maxSteps := 4000000}) only [go_sem, ↓reduceIte, Bool.false_eq_true, Nat.reduceEqDiff, Nat.reduceAdd, Int.reduceLE, Int.reduceLT, Int.reduceEq, Int.reduceToNat, Int.toNat_natCast, Int.cast_ofNat_Int, Int.natCast_one, Nat.reduceMod, Nat.reduceDiv, UInt8.reduceToNat, Nat.reduceLT, kn, kp, show (([110, 97, 109, 101] : List UInt8) = [119, 111, 114, 100]) = False from by simp, show (([110, 97, 109, 101] : List UInt8) = [110, 97, 109, 101]) = True from by simp]
  cases decide (k = 1) <;> simp [pif]
theorem c25_1 (ht : t.length ≤ 4611686018427387904) : CallW cx 25 [.str [110, 97, 109, 101], .agg [.int .i64 k, .str t, .int .i64 n, .int .i64 m]] s K = K (.bool (decide (k = 1) && nameB t)) s := by
  refine CallW.eq (CallW.fn' (fn := ir25) rfl rfl (by kernel_rfl) ir25.eq_1 ?_) K
  have k62 := fun p st K h1 h2 => c62 k t n m st K p h1 h2 ht
  simp (config := {contextual := true, implicitDefEqProofs := false, maxSteps := 4000000}) only [go_sem, ↓reduceIte, Bool.false_eq_true, Nat.reduceEqDiff, Nat.reduceAdd, Int.reduceLE, Int.reduceLT, Int.reduceEq, Int.reduceToNat, Int.toNat_natCast, Int.cast_ofNat_Int, Int.natCast_one, Nat.reduceMod, Nat.reduceDiv, UInt8.reduceToNat, Nat.reduceLT, tests, c48, c60, c61, k62, c64, c65, c66, c67, c68, c69, show (([110, 97, 109, 101] : List UInt8) = [119, 111, 114, 100]) = False from by simp, show (([110, 97, 109, 101] : List UInt8) = [110, 97, 109, 101]) = True from by simp, show (([110, 97, 109, 101] : List UInt8) = [112, 97, 116, 104]) = False from by simp, show (([110, 97, 109, 101] : List UInt8) = [110, 117, 109, 98, 101, 114]) = False from by simp, show (([110, 97, 109, 101] : List UInt8) = [119, 104, 111, 108, 101]) = False from by simp, show (([110, 97, 109, 101] : List UInt8) = [116, 101, 120, 116]) = False from by simp, show (([110, 97, 109, 101] : List UInt8) = [116, 105, 109, 101]) = False from by simp, show (([110, 97, 109, 101] : List UInt8) = [100, 97, 116, 101]) = False from by simp, show (([110, 97, 109, 101] : List UInt8) = [97, 110, 121]) = False from by simp]
theorem c11_2 (ht : t.length ≤ 4611686018427387904) : CallW cx 11 [.str [112, 97, 116, 104], .agg [.int .i64 k, .str t, .int .i64 n, .int .i64 m]] s K = K (.bool (decide (k = 1) && pathB t)) s := by
  refine CallW.eq (CallW.fn' (fn := ir11) rfl rfl (by kernel_rfl) ir11.eq_1 ?_) K
  have kn := fun K => c26 t ht { heap := (s.next, .cells (some 23) [.int .i64 k, .str t, .int .i64 n, .int .i64 m]) :: s.heap, next := s.next + 1, low := s.next } K
  have kp := fun K => c27 t ht { heap := (s.next, .cells (some 23) [.int .i64 k, .str t, .int .i64 n, .int .i64 m]) :: s.heap, next := s.next + 1, low := s.next } K
  simp (config := {contextual := true, implicitDefEqProofs := false, maxSteps := 4000000}) only [go_sem, ↓reduceIte, Bool.false_eq_true, Nat.reduceEqDiff, Nat.reduceAdd, Int.reduceLE, Int.reduceLT, Int.reduceEq, Int.reduceToNat, Int.toNat_natCast, Int.cast_ofNat_Int, Int.natCast_one, Nat.reduceMod, Nat.reduceDiv, UInt8.reduceToNat, Nat.reduceLT, kn, kp, show (([112, 97, 116, 104] : List UInt8) = [119, 111, 114, 100]) = False from by simp, show (([112, 97, 116, 104] : List UInt8) = [110, 97, 109, 101]) = False from by simp, show (([112, 97, 116, 104] : List UInt8) = [112, 97, 116, 104]) = True from by simp]
  cases decide (k = 1) <;> simp [pif]
theorem c25_2 (ht : t.length ≤ 4611686018427387904) : CallW cx 25 [.str [112, 97, 116, 104], .agg [.int .i64 k, .str t, .int .i64 n, .int .i64 m]] s K = K (.bool (decide (k = 1) && pathB t)) s := by
  refine CallW.eq (CallW.fn' (fn := ir25) rfl rfl (by kernel_rfl) ir25.eq_1 ?_) K
  have k62 := fun p st K h1 h2 => c62 k t n m st K p h1 h2 ht
  simp (config := {contextual := true, implicitDefEqProofs := false, maxSteps := 4000000}) only [go_sem, ↓reduceIte, Bool.false_eq_true, Nat.reduceEqDiff, Nat.reduceAdd, Int.reduceLE, Int.reduceLT, Int.reduceEq, Int.reduceToNat, Int.toNat_natCast, Int.cast_ofNat_Int, Int.natCast_one, Nat.reduceMod, Nat.reduceDiv, UInt8.reduceToNat, Nat.reduceLT, tests, c48, c60, c61, k62, c64, c65, c66, c67, c68, c69, show (([112, 97, 116, 104] : List UInt8) = [119, 111, 114, 100]) = False from by simp, show (([112, 97, 116, 104] : List UInt8) = [110, 97, 109, 101]) = False from by simp, show (([112, 97, 116, 104] : List UInt8) = [112, 97, 116, 104]) = True from by simp, show (([112, 97, 116, 104] : List UInt8) = [110, 117, 109, 98, 101, 114]) = False from by simp, show (([112, 97, 116, 104] : List UInt8) = [119, 104, 111, 108, 101]) = False from by simp, show (([112, 97, 116, 104] : List UInt8) = [116, 101, 120, 116]) = False from by simp, show (([112, 97, 116, 104] : List UInt8) = [116, 105, 109, 101]) = False from by simp, show (([112, 97, 116, 104] : List UInt8) = [100, 97, 116, 101]) = False from by simp, show (([112, 97, 116, 104] : List UInt8) = [97, 110, 121]) = False from by simp]
theorem c11_3 (ht : t.length ≤ 4611686018427387904) : CallW cx 11 [.str [110, 117, 109, 98, 101, 114], .agg [.int .i64 k, .str t, .int .i64 n, .int .i64 m]] s K = K (.bool (decide (k = 2))) s := by
  refine CallW.eq (CallW.fn' (fn := ir11) rfl rfl (by kernel_rfl) ir11.eq_1 ?_) K
  have kn := fun K => c26 t ht { heap := (s.next, .cells (some 23) [.int .i64 k, .str t, .int .i64 n, .int .i64 m]) :: s.heap, next := s.next + 1, low := s.next } K
  have kp := fun K => c27 t ht { heap := (s.next, .cells (some 23) [.int .i64 k, .str t, .int .i64 n, .int .i64 m]) :: s.heap, next := s.next + 1, low := s.next } K
  simp (config := {contextual := true, implicitDefEqProofs := false, maxSteps := 4000000}) only [go_sem, ↓reduceIte, Bool.false_eq_true, Nat.reduceEqDiff, Nat.reduceAdd, Int.reduceLE, Int.reduceLT, Int.reduceEq, Int.reduceToNat, Int.toNat_natCast, Int.cast_ofNat_Int, Int.natCast_one, Nat.reduceMod, Nat.reduceDiv, UInt8.reduceToNat, Nat.reduceLT, kn, kp, show (([110, 117, 109, 98, 101, 114] : List UInt8) = [119, 111, 114, 100]) = False from by simp, show (([110, 117, 109, 98, 101, 114] : List UInt8) = [110, 97, 109, 101]) = False from by simp, show (([110, 117, 109, 98, 101, 114] : List UInt8) = [112, 97, 116, 104]) = False from by simp, show (([110, 117, 109, 98, 101, 114] : List UInt8) = [110, 117, 109, 98, 101, 114]) = True from by simp]
theorem c25_3 (ht : t.length ≤ 4611686018427387904) : CallW cx 25 [.str [110, 117, 109, 98, 101, 114], .agg [.int .i64 k, .str t, .int .i64 n, .int .i64 m]] s K = K (.bool (decide (k = 2))) s := by
  refine CallW.eq (CallW.fn' (fn := ir25) rfl rfl (by kernel_rfl) ir25.eq_1 ?_) K
  have k62 := fun p st K h1 h2 => c62 k t n m st K p h1 h2 ht
  simp (config := {contextual := true, implicitDefEqProofs := false, maxSteps := 4000000}) only [go_sem, ↓reduceIte, Bool.false_eq_true, Nat.reduceEqDiff, Nat.reduceAdd, Int.reduceLE, Int.reduceLT, Int.reduceEq, Int.reduceToNat, Int.toNat_natCast, Int.cast_ofNat_Int, Int.natCast_one, Nat.reduceMod, Nat.reduceDiv, UInt8.reduceToNat, Nat.reduceLT, tests, c48, c60, c61, k62, c64, c65, c66, c67, c68, c69, show (([110, 117, 109, 98, 101, 114] : List UInt8) = [119, 111, 114, 100]) = False from by simp, show (([110, 117, 109, 98, 101, 114] : List UInt8) = [110, 97, 109, 101]) = False from by simp, show (([110, 117, 109, 98, 101, 114] : List UInt8) = [112, 97, 116, 104]) = False from by simp, show (([110, 117, 109, 98, 101, 114] : List UInt8) = [110, 117, 109, 98, 101, 114]) = True from by simp, show (([110, 117, 109, 98, 101, 114] : List UInt8) = [119, 104, 111, 108, 101]) = False from by simp, show (([110, 117, 109, 98, 101, 114] : List UInt8) = [116, 101, 120, 116]) = False from by simp, show (([110, 117, 109, 98, 101, 114] : List UInt8) = [116, 105, 109, 101]) = False from by simp, show (([110, 117, 109, 98, 101, 114] : List UInt8) = [100, 97, 116, 101]) = False from by simp, show (([110, 117, 109, 98, 101, 114] : List UInt8) = [97, 110, 121]) = False from by simp]
theorem c11_4 (ht : t.length ≤ 4611686018427387904) : CallW cx 11 [.str [119, 104, 111, 108, 101], .agg [.int .i64 k, .str t, .int .i64 n, .int .i64 m]] s K = K (.bool (decide (k = 2) && decide (0 ≤ n) && decide (n.tmod 1000 = 0))) s := by
  refine CallW.eq (CallW.fn' (fn := ir11) rfl rfl (by kernel_rfl) ir11.eq_1 ?_) K
  have kn := fun K => c26 t ht { heap := (s.next, .cells (some 23) [.int .i64 k, .str t, .int .i64 n, .int .i64 m]) :: s.heap, next := s.next + 1, low := s.next } K
  have kp := fun K => c27 t ht { heap := (s.next, .cells (some 23) [.int .i64 k, .str t, .int .i64 n, .int .i64 m]) :: s.heap, next := s.next + 1, low := s.next } K
  simp (config := {contextual := true, implicitDefEqProofs := false, maxSteps := 4000000}) only [go_sem, ↓reduceIte, Bool.false_eq_true, Nat.reduceEqDiff, Nat.reduceAdd, Int.reduceLE, Int.reduceLT, Int.reduceEq, Int.reduceToNat, Int.toNat_natCast, Int.cast_ofNat_Int, Int.natCast_one, Nat.reduceMod, Nat.reduceDiv, UInt8.reduceToNat, Nat.reduceLT, kn, kp, show (([119, 104, 111, 108, 101] : List UInt8) = [119, 111, 114, 100]) = False from by simp, show (([119, 104, 111, 108, 101] : List UInt8) = [110, 97, 109, 101]) = False from by simp, show (([119, 104, 111, 108, 101] : List UInt8) = [112, 97, 116, 104]) = False from by simp, show (([119, 104, 111, 108, 101] : List UInt8) = [110, 117, 109, 98, 101, 114]) = False from by simp, show (([119, 104, 111, 108, 101] : List UInt8) = [119, 104, 111, 108, 101]) = True from by simp]
  cases decide (k = 2) <;> cases decide (0 ≤ n) <;> simp [pif]
theorem c25_4 (ht : t.length ≤ 4611686018427387904) : CallW cx 25 [.str [119, 104, 111, 108, 101], .agg [.int .i64 k, .str t, .int .i64 n, .int .i64 m]] s K = K (.bool (decide (k = 2) && decide (0 ≤ n) && decide (n.tmod 1000 = 0))) s := by
  refine CallW.eq (CallW.fn' (fn := ir25) rfl rfl (by kernel_rfl) ir25.eq_1 ?_) K
  have k62 := fun p st K h1 h2 => c62 k t n m st K p h1 h2 ht
  simp (config := {contextual := true, implicitDefEqProofs := false, maxSteps := 4000000}) only [go_sem, ↓reduceIte, Bool.false_eq_true, Nat.reduceEqDiff, Nat.reduceAdd, Int.reduceLE, Int.reduceLT, Int.reduceEq, Int.reduceToNat, Int.toNat_natCast, Int.cast_ofNat_Int, Int.natCast_one, Nat.reduceMod, Nat.reduceDiv, UInt8.reduceToNat, Nat.reduceLT, tests, c48, c60, c61, k62, c64, c65, c66, c67, c68, c69, show (([119, 104, 111, 108, 101] : List UInt8) = [119, 111, 114, 100]) = False from by simp, show (([119, 104, 111, 108, 101] : List UInt8) = [110, 97, 109, 101]) = False from by simp, show (([119, 104, 111, 108, 101] : List UInt8) = [112, 97, 116, 104]) = False from by simp, show (([119, 104, 111, 108, 101] : List UInt8) = [110, 117, 109, 98, 101, 114]) = False from by simp, show (([119, 104, 111, 108, 101] : List UInt8) = [119, 104, 111, 108, 101]) = True from by simp, show (([119, 104, 111, 108, 101] : List UInt8) = [116, 101, 120, 116]) = False from by simp, show (([119, 104, 111, 108, 101] : List UInt8) = [116, 105, 109, 101]) = False from by simp, show (([119, 104, 111, 108, 101] : List UInt8) = [100, 97, 116, 101]) = False from by simp, show (([119, 104, 111, 108, 101] : List UInt8) = [97, 110, 121]) = False from by simp]
theorem c11_5 (ht : t.length ≤ 4611686018427387904) : CallW cx 11 [.str [116, 101, 120, 116], .agg [.int .i64 k, .str t, .int .i64 n, .int .i64 m]] s K = K (.bool (decide (k = 3))) s := by
  refine CallW.eq (CallW.fn' (fn := ir11) rfl rfl (by kernel_rfl) ir11.eq_1 ?_) K
  have kn := fun K => c26 t ht { heap := (s.next, .cells (some 23) [.int .i64 k, .str t, .int .i64 n, .int .i64 m]) :: s.heap, next := s.next + 1, low := s.next } K
  have kp := fun K => c27 t ht { heap := (s.next, .cells (some 23) [.int .i64 k, .str t, .int .i64 n, .int .i64 m]) :: s.heap, next := s.next + 1, low := s.next } K
  simp (config := {contextual := true, implicitDefEqProofs := false, maxSteps := 4000000}) only [go_sem, ↓reduceIte, Bool.false_eq_true, Nat.reduceEqDiff, Nat.reduceAdd, Int.reduceLE, Int.reduceLT, Int.reduceEq, Int.reduceToNat, Int.toNat_natCast, Int.cast_ofNat_Int, Int.natCast_one, Nat.reduceMod, Nat.reduceDiv, UInt8.reduceToNat, Nat.reduceLT, kn, kp, show (([116, 101, 120, 116] : List UInt8) = [119, 111, 114, 100]) = False from by simp, show (([116, 101, 120, 116] : List UInt8) = [110, 97, 109, 101]) = False from by simp, show (([116, 101, 120, 116] : List UInt8) = [112, 97, 116, 104]) = False from by simp, show (([116, 101, 120, 116] : List UInt8) = [110, 117, 109, 98, 101, 114]) = False from by simp, show (([116, 101, 120, 116] : List UInt8) = [119, 104, 111, 108, 101]) = False from by simp, show (([116, 101, 120, 116] : List UInt8) = [116, 101, 120, 116]) = True from by simp]
theorem c25_5 (ht : t.length ≤ 4611686018427387904) : CallW cx 25 [.str [116, 101, 120, 116], .agg [.int .i64 k, .str t, .int .i64 n, .int .i64 m]] s K = K (.bool (decide (k = 3))) s := by
  refine CallW.eq (CallW.fn' (fn := ir25) rfl rfl (by kernel_rfl) ir25.eq_1 ?_) K
  have k62 := fun p st K h1 h2 => c62 k t n m st K p h1 h2 ht
  simp (config := {contextual := true, implicitDefEqProofs := false, maxSteps := 4000000}) only [go_sem, ↓reduceIte, Bool.false_eq_true, Nat.reduceEqDiff, Nat.reduceAdd, Int.reduceLE, Int.reduceLT, Int.reduceEq, Int.reduceToNat, Int.toNat_natCast, Int.cast_ofNat_Int, Int.natCast_one, Nat.reduceMod, Nat.reduceDiv, UInt8.reduceToNat, Nat.reduceLT, tests, c48, c60, c61, k62, c64, c65, c66, c67, c68, c69, show (([116, 101, 120, 116] : List UInt8) = [119, 111, 114, 100]) = False from by simp, show (([116, 101, 120, 116] : List UInt8) = [110, 97, 109, 101]) = False from by simp, show (([116, 101, 120, 116] : List UInt8) = [112, 97, 116, 104]) = False from by simp, show (([116, 101, 120, 116] : List UInt8) = [110, 117, 109, 98, 101, 114]) = False from by simp, show (([116, 101, 120, 116] : List UInt8) = [119, 104, 111, 108, 101]) = False from by simp, show (([116, 101, 120, 116] : List UInt8) = [116, 101, 120, 116]) = True from by simp, show (([116, 101, 120, 116] : List UInt8) = [116, 105, 109, 101]) = False from by simp, show (([116, 101, 120, 116] : List UInt8) = [100, 97, 116, 101]) = False from by simp, show (([116, 101, 120, 116] : List UInt8) = [97, 110, 121]) = False from by simp]
theorem c11_6 (ht : t.length ≤ 4611686018427387904) : CallW cx 11 [.str [116, 105, 109, 101], .agg [.int .i64 k, .str t, .int .i64 n, .int .i64 m]] s K = K (.bool (decide (k = 4))) s := by
  refine CallW.eq (CallW.fn' (fn := ir11) rfl rfl (by kernel_rfl) ir11.eq_1 ?_) K
  have kn := fun K => c26 t ht { heap := (s.next, .cells (some 23) [.int .i64 k, .str t, .int .i64 n, .int .i64 m]) :: s.heap, next := s.next + 1, low := s.next } K
  have kp := fun K => c27 t ht { heap := (s.next, .cells (some 23) [.int .i64 k, .str t, .int .i64 n, .int .i64 m]) :: s.heap, next := s.next + 1, low := s.next } K
  simp (config := {contextual := true, implicitDefEqProofs := false, maxSteps := 4000000}) only [go_sem, ↓reduceIte, Bool.false_eq_true, Nat.reduceEqDiff, Nat.reduceAdd, Int.reduceLE, Int.reduceLT, Int.reduceEq, Int.reduceToNat, Int.toNat_natCast, Int.cast_ofNat_Int, Int.natCast_one, Nat.reduceMod, Nat.reduceDiv, UInt8.reduceToNat, Nat.reduceLT, kn, kp, show (([116, 105, 109, 101] : List UInt8) = [119, 111, 114, 100]) = False from by simp, show (([116, 105, 109, 101] : List UInt8) = [110, 97, 109, 101]) = False from by simp, show (([116, 105, 109, 101] : List UInt8) = [112, 97, 116, 104]) = False from by simp, show (([116, 105, 109, 101] : List UInt8) = [110, 117, 109, 98, 101, 114]) = False from by simp, show (([116, 105, 109, 101] : List UInt8) = [119, 104, 111, 108, 101]) = False from by simp, show (([116, 105, 109, 101] : List UInt8) = [116, 101, 120, 116]) = False from by simp, show (([116, 105, 109, 101] : List UInt8) = [116, 105, 109, 101]) = True from by simp]
theorem c25_6 (ht : t.length ≤ 4611686018427387904) : CallW cx 25 [.str [116, 105, 109, 101], .agg [.int .i64 k, .str t, .int .i64 n, .int .i64 m]] s K = K (.bool (decide (k = 4))) s := by
  refine CallW.eq (CallW.fn' (fn := ir25) rfl rfl (by kernel_rfl) ir25.eq_1 ?_) K
  have k62 := fun p st K h1 h2 => c62 k t n m st K p h1 h2 ht
  simp (config := {contextual := true, implicitDefEqProofs := false, maxSteps := 4000000}) only [go_sem, ↓reduceIte, Bool.false_eq_true, Nat.reduceEqDiff, Nat.reduceAdd, Int.reduceLE, Int.reduceLT, Int.reduceEq, Int.reduceToNat, Int.toNat_natCast, Int.cast_ofNat_Int, Int.natCast_one, Nat.reduceMod, Nat.reduceDiv, UInt8.reduceToNat, Nat.reduceLT, tests, c48, c60, c61, k62, c64, c65, c66, c67, c68, c69, show (([116, 105, 109, 101] : List UInt8) = [119, 111, 114, 100]) = False from by simp, show (([116, 105, 109, 101] : List UInt8) = [110, 97, 109, 101]) = False from by simp, show (([116, 105, 109, 101] : List UInt8) = [112, 97, 116, 104]) = False from by simp, show (([116, 105, 109, 101] : List UInt8) = [110, 117, 109, 98, 101, 114]) = False from by simp, show (([116, 105, 109, 101] : List UInt8) = [119, 104, 111, 108, 101]) = False from by simp, show (([116, 105, 109, 101] : List UInt8) = [116, 101, 120, 116]) = False from by simp, show (([116, 105, 109, 101] : List UInt8) = [116, 105, 109, 101]) = True from by simp, show (([116, 105, 109, 101] : List UInt8) = [100, 97, 116, 101]) = False from by simp, show (([116, 105, 109, 101] : List UInt8) = [97, 110, 121]) = False from by simp]
theorem c11_7 (ht : t.length ≤ 4611686018427387904) : CallW cx 11 [.str [100, 97, 116, 101], .agg [.int .i64 k, .str t, .int .i64 n, .int .i64 m]] s K = K (.bool (decide (k = 5))) s := by
  refine CallW.eq (CallW.fn' (fn := ir11) rfl rfl (by kernel_rfl) ir11.eq_1 ?_) K
  have kn := fun K => c26 t ht { heap := (s.next, .cells (some 23) [.int .i64 k, .str t, .int .i64 n, .int .i64 m]) :: s.heap, next := s.next + 1, low := s.next } K
  have kp := fun K => c27 t ht { heap := (s.next, .cells (some 23) [.int .i64 k, .str t, .int .i64 n, .int .i64 m]) :: s.heap, next := s.next + 1, low := s.next } K
  simp (config := {contextual := true, implicitDefEqProofs := false, maxSteps := 4000000}) only [go_sem, ↓reduceIte, Bool.false_eq_true, Nat.reduceEqDiff, Nat.reduceAdd, Int.reduceLE, Int.reduceLT, Int.reduceEq, Int.reduceToNat, Int.toNat_natCast, Int.cast_ofNat_Int, Int.natCast_one, Nat.reduceMod, Nat.reduceDiv, UInt8.reduceToNat, Nat.reduceLT, kn, kp, show (([100, 97, 116, 101] : List UInt8) = [119, 111, 114, 100]) = False from by simp, show (([100, 97, 116, 101] : List UInt8) = [110, 97, 109, 101]) = False from by simp, show (([100, 97, 116, 101] : List UInt8) = [112, 97, 116, 104]) = False from by simp, show (([100, 97, 116, 101] : List UInt8) = [110, 117, 109, 98, 101, 114]) = False from by simp, show (([100, 97, 116, 101] : List UInt8) = [119, 104, 111, 108, 101]) = False from by simp, show (([100, 97, 116, 101] : List UInt8) = [116, 101, 120, 116]) = False from by simp, show (([100, 97, 116, 101] : List UInt8) = [116, 105, 109, 101]) = False from by simp, show (([100, 97, 116, 101] : List UInt8) = [100, 97, 116, 101]) = True from by simp]
theorem c25_7 (ht : t.length ≤ 4611686018427387904) : CallW cx 25 [.str [100, 97, 116, 101], .agg [.int .i64 k, .str t, .int .i64 n, .int .i64 m]] s K = K (.bool (decide (k = 5))) s := by
  refine CallW.eq (CallW.fn' (fn := ir25) rfl rfl (by kernel_rfl) ir25.eq_1 ?_) K
  have k62 := fun p st K h1 h2 => c62 k t n m st K p h1 h2 ht
  simp (config := {contextual := true, implicitDefEqProofs := false, maxSteps := 4000000}) only [go_sem, ↓reduceIte, Bool.false_eq_true, Nat.reduceEqDiff, Nat.reduceAdd, Int.reduceLE, Int.reduceLT, Int.reduceEq, Int.reduceToNat, Int.toNat_natCast, Int.cast_ofNat_Int, Int.natCast_one, Nat.reduceMod, Nat.reduceDiv, UInt8.reduceToNat, Nat.reduceLT, tests, c48, c60, c61, k62, c64, c65, c66, c67, c68, c69, show (([100, 97, 116, 101] : List UInt8) = [119, 111, 114, 100]) = False from by simp, show (([100, 97, 116, 101] : List UInt8) = [110, 97, 109, 101]) = False from by simp, show (([100, 97, 116, 101] : List UInt8) = [112, 97, 116, 104]) = False from by simp, show (([100, 97, 116, 101] : List UInt8) = [110, 117, 109, 98, 101, 114]) = False from by simp, show (([100, 97, 116, 101] : List UInt8) = [119, 104, 111, 108, 101]) = False from by simp, show (([100, 97, 116, 101] : List UInt8) = [116, 101, 120, 116]) = False from by simp, show (([100, 97, 116, 101] : List UInt8) = [116, 105, 109, 101]) = False from by simp, show (([100, 97, 116, 101] : List UInt8) = [100, 97, 116, 101]) = True from by simp, show (([100, 97, 116, 101] : List UInt8) = [97, 110, 121]) = False from by simp]
theorem c11_8 (ht : t.length ≤ 4611686018427387904) : CallW cx 11 [.str [97, 110, 121], .agg [.int .i64 k, .str t, .int .i64 n, .int .i64 m]] s K = K (.bool (true)) s := by
  refine CallW.eq (CallW.fn' (fn := ir11) rfl rfl (by kernel_rfl) ir11.eq_1 ?_) K
  have kn := fun K => c26 t ht { heap := (s.next, .cells (some 23) [.int .i64 k, .str t, .int .i64 n, .int .i64 m]) :: s.heap, next := s.next + 1, low := s.next } K
  have kp := fun K => c27 t ht { heap := (s.next, .cells (some 23) [.int .i64 k, .str t, .int .i64 n, .int .i64 m]) :: s.heap, next := s.next + 1, low := s.next } K
  simp (config := {contextual := true, implicitDefEqProofs := false, maxSteps := 4000000}) only [go_sem, ↓reduceIte, Bool.false_eq_true, Nat.reduceEqDiff, Nat.reduceAdd, Int.reduceLE, Int.reduceLT, Int.reduceEq, Int.reduceToNat, Int.toNat_natCast, Int.cast_ofNat_Int, Int.natCast_one, Nat.reduceMod, Nat.reduceDiv, UInt8.reduceToNat, Nat.reduceLT, kn, kp, show (([97, 110, 121] : List UInt8) = [119, 111, 114, 100]) = False from by simp, show (([97, 110, 121] : List UInt8) = [110, 97, 109, 101]) = False from by simp, show (([97, 110, 121] : List UInt8) = [112, 97, 116, 104]) = False from by simp, show (([97, 110, 121] : List UInt8) = [110, 117, 109, 98, 101, 114]) = False from by simp, show (([97, 110, 121] : List UInt8) = [119, 104, 111, 108, 101]) = False from by simp, show (([97, 110, 121] : List UInt8) = [116, 101, 120, 116]) = False from by simp, show (([97, 110, 121] : List UInt8) = [116, 105, 109, 101]) = False from by simp, show (([97, 110, 121] : List UInt8) = [100, 97, 116, 101]) = False from by simp, show (([97, 110, 121] : List UInt8) = [97, 110, 121]) = True from by simp]
theorem c25_8 (ht : t.length ≤ 4611686018427387904) : CallW cx 25 [.str [97, 110, 121], .agg [.int .i64 k, .str t, .int .i64 n, .int .i64 m]] s K = K (.bool (true)) s := by
  refine CallW.eq (CallW.fn' (fn := ir25) rfl rfl (by kernel_rfl) ir25.eq_1 ?_) K
  have k62 := fun p st K h1 h2 => c62 k t n m st K p h1 h2 ht
  simp (config := {contextual := true, implicitDefEqProofs := false, maxSteps := 4000000}) only [go_sem, ↓reduceIte, Bool.false_eq_true, Nat.reduceEqDiff, Nat.reduceAdd, Int.reduceLE, Int.reduceLT, Int.reduceEq, Int.reduceToNat, Int.toNat_natCast, Int.cast_ofNat_Int, Int.natCast_one, Nat.reduceMod, Nat.reduceDiv, UInt8.reduceToNat, Nat.reduceLT, tests, c48, c60, c61, k62, c64, c65, c66, c67, c68, c69, show (([97, 110, 121] : List UInt8) = [119, 111, 114, 100]) = False from by simp, show (([97, 110, 121] : List UInt8) = [110, 97, 109, 101]) = False from by simp, show (([97, 110, 121] : List UInt8) = [112, 97, 116, 104]) = False from by simp, show (([97, 110, 121] : List UInt8) = [110, 117, 109, 98, 101, 114]) = False from by simp, show (([97, 110, 121] : List UInt8) = [119, 104, 111, 108, 101]) = False from by simp, show (([97, 110, 121] : List UInt8) = [116, 101, 120, 116]) = False from by simp, show (([97, 110, 121] : List UInt8) = [116, 105, 109, 101]) = False from by simp, show (([97, 110, 121] : List UInt8) = [100, 97, 116, 101]) = False from by simp, show (([97, 110, 121] : List UInt8) = [97, 110, 121]) = True from by simp]
theorem c11_d (kind : List UInt8) (hk : kind ∉ kindsL) : CallW cx 11 [.str kind, .agg [.int .i64 k, .str t, .int .i64 n, .int .i64 m]] s K = K (.bool ((decide (2 ≤ kind.length) && decide (kind.getD 0 0 = 61)) && (decide (k = 1) || decide (k = 6)) && decide (t = kind.drop 1))) s := by
  refine CallW.eq (CallW.fn' (fn := ir11) rfl rfl (by kernel_rfl) ir11.eq_1 ?_) K
  have kd := fun st K => c28 kind hk st K
  have n0 : (kind = [119, 111, 114, 100]) = False := by simp; intro h; exact hk (h ▸ by decide)
  have n1 : (kind = [110, 97, 109, 101]) = False := by simp; intro h; exact hk (h ▸ by decide)
  have n2 : (kind = [112, 97, 116, 104]) = False := by simp; intro h; exact hk (h ▸ by decide)
  have n3 : (kind = [110, 117, 109, 98, 101, 114]) = False := by simp; intro h; exact hk (h ▸ by decide)
  have n4 : (kind = [119, 104, 111, 108, 101]) = False := by simp; intro h; exact hk (h ▸ by decide)
  have n5 : (kind = [116, 101, 120, 116]) = False := by simp; intro h; exact hk (h ▸ by decide)
  have n6 : (kind = [116, 105, 109, 101]) = False := by simp; intro h; exact hk (h ▸ by decide)
  have n7 : (kind = [100, 97, 116, 101]) = False := by simp; intro h; exact hk (h ▸ by decide)
  have n8 : (kind = [97, 110, 121]) = False := by simp; intro h; exact hk (h ▸ by decide)
  simp (config := {contextual := true, implicitDefEqProofs := false, maxSteps := 4000000}) only [go_sem, ↓reduceIte, Bool.false_eq_true, Nat.reduceEqDiff, Nat.reduceAdd, Int.reduceLE, Int.reduceLT, Int.reduceEq, Int.reduceToNat, Int.toNat_natCast, Int.cast_ofNat_Int, Int.natCast_one, Nat.reduceMod, Nat.reduceDiv, UInt8.reduceToNat, Nat.reduceLT, kd, n0, n1, n2, n3, n4, n5, n6, n7, n8]
  unfold pif
  split
  · rename_i hb
    simp only [Bool.and_eq_true, decide_eq_true_eq] at hb
    (repeat' split) <;> first | trivial | omega
  · trivial
theorem c25_d (kind : List UInt8) (hk : kind ∉ kindsL) : CallW cx 25 [.str kind, .agg [.int .i64 k, .str t, .int .i64 n, .int .i64 m]] s K = K (.bool ((decide (2 ≤ kind.length) && decide (kind.getD 0 0 = 61)) && (decide (k = 1) || decide (k = 6)) && decide (t = kind.drop 1))) s := by
  refine CallW.eq (CallW.fn' (fn := ir25) rfl rfl (by kernel_rfl) ir25.eq_1 ?_) K
  have n0 : (kind = [119, 111, 114, 100]) = False := by simp; intro h; exact hk (h ▸ by decide)
  have n1 : (kind = [110, 97, 109, 101]) = False := by simp; intro h; exact hk (h ▸ by decide)
  have n2 : (kind = [112, 97, 116, 104]) = False := by simp; intro h; exact hk (h ▸ by decide)
  have n3 : (kind = [110, 117, 109, 98, 101, 114]) = False := by simp; intro h; exact hk (h ▸ by decide)
  have n4 : (kind = [119, 104, 111, 108, 101]) = False := by simp; intro h; exact hk (h ▸ by decide)
  have n5 : (kind = [116, 101, 120, 116]) = False := by simp; intro h; exact hk (h ▸ by decide)
  have n6 : (kind = [116, 105, 109, 101]) = False := by simp; intro h; exact hk (h ▸ by decide)
  have n7 : (kind = [100, 97, 116, 101]) = False := by simp; intro h; exact hk (h ▸ by decide)
  have n8 : (kind = [97, 110, 121]) = False := by simp; intro h; exact hk (h ▸ by decide)
  simp (config := {contextual := true, implicitDefEqProofs := false, maxSteps := 4000000}) only [go_sem, ↓reduceIte, Bool.false_eq_true, Nat.reduceEqDiff, Nat.reduceAdd, Int.reduceLE, Int.reduceLT, Int.reduceEq, Int.reduceToNat, Int.toNat_natCast, Int.cast_ofNat_Int, Int.natCast_one, Nat.reduceMod, Nat.reduceDiv, UInt8.reduceToNat, Nat.reduceLT, tests, c48, n0, n1, n2, n3, n4, n5, n6, n7, n8]
  by_cases h : 2 ≤ kind.length
  · have hx : decide (1 < (kind.length : Int)) = true := by simp; omega
    have hy : decide (2 ≤ kind.length) = true := by simp [h]
    rw [hx, hy, pif_true]
    refine ⟨by omega, ?_⟩
    by_cases h6 : kind.getD 0 0 = 61
    · have h7 : decide (((kind.getD 0 0).toNat : Int) = 61) = true := by rw [h6]; rfl
      have h8 : decide (kind.getD 0 0 = 61) = true := by rw [h6]; rfl
      rw [h7, h8, pif_true]
      unfold pif
      (repeat' split) <;> first | trivial | (refine ⟨by omega, ?_⟩; simp)
    · have h7 : decide (((kind.getD 0 0).toNat : Int) = 61) = false := by
        simp only [decide_eq_false_iff_not]; intro h; exact h6 (byte_eq (n := 61) h)
      have h8 : decide (kind.getD 0 0 = 61) = false := by simp only [decide_eq_false_iff_not]; exact h6
      rw [h7, h8, pif_false]
      simp
  · have hx : decide (1 < (kind.length : Int)) = false := by simp; omega
    have hy : decide (2 ≤ kind.length) = false := by simp [h]
    rw [hx, hy, pif_false]
    simp
theorem fitsB_d (kind : List UInt8) (hk : kind ∉ kindsL) : fitsB kind k t n = ((decide (2 ≤ kind.length) && decide (kind.getD 0 0 = 61)) && (decide (k = 1) || decide (k = 6)) && decide (t = kind.drop 1)) := by
  simp only [kindsL, List.mem_cons, List.not_mem_nil, or_false, not_or] at hk
  obtain ⟨h0, h1, h2, h3, h4, h5, h6, h7, h8⟩ := hk
  simp only [fitsB, h0, h1, h2, h3, h4, h5, h6, h7, h8, if_false]
theorem c11 (kind : List UInt8) (ht : t.length ≤ 4611686018427387904) : CallW cx 11 [.str kind, .agg [.int .i64 k, .str t, .int .i64 n, .int .i64 m]] s K = K (.bool (fitsB kind k t n)) s := by
  by_cases hk : kind ∈ kindsL
  · simp only [kindsL, List.mem_cons, List.not_mem_nil, or_false] at hk
    rcases hk with rfl | rfl | rfl | rfl | rfl | rfl | rfl | rfl | rfl
    · exact c11_0 k t n m s K ht
    · exact c11_1 k t n m s K ht
    · exact c11_2 k t n m s K ht
    · exact c11_3 k t n m s K ht
    · exact c11_4 k t n m s K ht
    · exact c11_5 k t n m s K ht
    · exact c11_6 k t n m s K ht
    · exact c11_7 k t n m s K ht
    · exact c11_8 k t n m s K ht
  · rw [fitsB_d k t n kind hk]; exact c11_d k t n m s K kind hk
theorem c25 (kind : List UInt8) (ht : t.length ≤ 4611686018427387904) : CallW cx 25 [.str kind, .agg [.int .i64 k, .str t, .int .i64 n, .int .i64 m]] s K = K (.bool (fitsB kind k t n)) s := by
  by_cases hk : kind ∈ kindsL
  · simp only [kindsL, List.mem_cons, List.not_mem_nil, or_false] at hk
    rcases hk with rfl | rfl | rfl | rfl | rfl | rfl | rfl | rfl | rfl
    · exact c25_0 k t n m s K ht
    · exact c25_1 k t n m s K ht
    · exact c25_2 k t n m s K ht
    · exact c25_3 k t n m s K ht
    · exact c25_4 k t n m s K ht
    · exact c25_5 k t n m s K ht
    · exact c25_6 k t n m s K ht
    · exact c25_7 k t n m s K ht
    · exact c25_8 k t n m s K ht
  · rw [fitsB_d k t n kind hk]; exact c25_d k t n m s K kind hk
theorem c10 (kind : List UInt8) (ht : t.length ≤ 4611686018427387904) : CallW cx 10 [.str kind, .agg [.int .i64 k, .str t, .int .i64 n, .int .i64 m]] s K = K (.bool (fitsB kind k t n)) s := by
  refine CallW.eq (CallW.fn' (fn := ir10) rfl rfl (by kernel_rfl) ir10.eq_1 ?_) K
  have k1 := fun st K => c25 k t n m st K kind ht
  simp (config := {contextual := true, implicitDefEqProofs := false, maxSteps := 4000000}) only [go_sem, ↓reduceIte, Bool.false_eq_true, Nat.reduceEqDiff, Nat.reduceAdd, Int.reduceLE, Int.reduceLT, Int.reduceEq, Int.reduceToNat, Int.toNat_natCast, Int.cast_ofNat_Int, Int.natCast_one, Nat.reduceMod, Nat.reduceDiv, UInt8.reduceToNat, Nat.reduceLT, k1]
end
end T10
