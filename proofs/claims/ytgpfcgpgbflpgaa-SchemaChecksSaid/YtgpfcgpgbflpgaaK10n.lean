/- What the functions answer to forms that are not valid. -/
import Derived.Test.YtgpfcgpgbflpgaaK10m
import Derived.Test.YtgpfcgpgbflpgaaK10aw0
namespace T10
open Go Fw Go.Proofs
set_option maxRecDepth 100000
set_option linter.unusedSimpArgs false
set_option linter.unusedVariables false
section
variable (fs : List Form) (hsm : smallFs fs) (hcnt : cntFs fs ≤ 40) (b : Bool) (hne : checkS fs ≠ 0) (s : St) (K : AV → St → Prop)
include hsm hcnt hne
theorem c14e : CallW cx 14 [slv b fs.length (encFs fs)] s K = K (.tuple [.nilslice, .int .i64 (checkS fs)]) s := by
  refine CallW.eq (CallW.fn' (fn := ir14) rfl rfl (by kernel_rfl) ir14.eq_1 ?_) K
  have k := fun st K => c13 fs hsm hcnt b st K
  have hx : decide (checkS fs ≠ 0) = true := by simp [hne]
  simp (config := {contextual := true, implicitDefEqProofs := false, maxSteps := 4000000}) only [go_sem, ↓reduceIte, Bool.false_eq_true, Nat.reduceEqDiff, Nat.reduceAdd, Int.reduceLE, Int.reduceLT, Int.reduceEq, Int.reduceToNat, Int.toNat_natCast, Int.cast_ofNat_Int, Int.natCast_one, Nat.reduceMod, Nat.reduceDiv, UInt8.reduceToNat, Nat.reduceLT, k, hx]
theorem c15e (l : AV) : CallW cx 15 [slv b fs.length (encFs fs), l] s K = K (.tuple [.agg [.int .i64 0, .int .i64 0, .int .i64 0], .int .i64 (checkS fs)]) s := by
  refine CallW.eq (CallW.fn' (fn := ir15) rfl rfl (by kernel_rfl) ir15.eq_1 ?_) K
  have k := fun st K => c13 fs hsm hcnt b st K
  have hx : decide (checkS fs ≠ 0) = true := by simp [hne]
  simp (config := {contextual := true, implicitDefEqProofs := false, maxSteps := 4000000}) only [go_sem, ↓reduceIte, Bool.false_eq_true, Nat.reduceEqDiff, Nat.reduceAdd, Int.reduceLE, Int.reduceLT, Int.reduceEq, Int.reduceToNat, Int.toNat_natCast, Int.cast_ofNat_Int, Int.natCast_one, Nat.reduceMod, Nat.reduceDiv, UInt8.reduceToNat, Nat.reduceLT, k, hx, fillF]
theorem c18e (l : AV) : CallW cx 18 [slv b fs.length (encFs fs), l] s K = K (.tuple [.nilslice, .int .i64 (checkS fs)]) s := by
  refine CallW.eq (CallW.fn' (fn := ir18) rfl rfl (by kernel_rfl) ir18.eq_1 ?_) K
  have k := fun st K => c13 fs hsm hcnt b st K
  have hx : decide (checkS fs ≠ 0) = true := by simp [hne]
  simp (config := {contextual := true, implicitDefEqProofs := false, maxSteps := 4000000}) only [go_sem, ↓reduceIte, Bool.false_eq_true, Nat.reduceEqDiff, Nat.reduceAdd, Int.reduceLE, Int.reduceLT, Int.reduceEq, Int.reduceToNat, Int.toNat_natCast, Int.cast_ofNat_Int, Int.natCast_one, Nat.reduceMod, Nat.reduceDiv, UInt8.reduceToNat, Nat.reduceLT, k, hx]
theorem c19e : CallW cx 19 [slv b fs.length (encFs fs)] s K = K (.tuple [.str [], .int .i64 (checkS fs)]) s := by
  refine CallW.eq (CallW.fn' (fn := ir19) rfl rfl (by kernel_rfl) ir19.eq_1 ?_) K
  have k := fun st K => c13 fs hsm hcnt b st K
  have hx : decide (checkS fs ≠ 0) = true := by simp [hne]
  simp (config := {contextual := true, implicitDefEqProofs := false, maxSteps := 4000000}) only [go_sem, ↓reduceIte, Bool.false_eq_true, Nat.reduceEqDiff, Nat.reduceAdd, Int.reduceLE, Int.reduceLT, Int.reduceEq, Int.reduceToNat, Int.toNat_natCast, Int.cast_ofNat_Int, Int.natCast_one, Nat.reduceMod, Nat.reduceDiv, UInt8.reduceToNat, Nat.reduceLT, k, hx]
end
theorem c9z (h : List (Nat × AObj)) (l : Nat) (K : AV → St → Prop) : CallW cx 9 [] { heap := h, next := 0, low := l } K = K (.bool true) { heap := h, next := 0, low := l } :=
  CallW.eq ⟨1000, _, _, awake_run0 h l, rfl, rfl⟩ K
theorem law6 (fs : List Form) (b : Bool) : CallW cx 6 [slv b fs.length (encFs fs)] { heap := [], next := 0, low := 0 } fun v _ => v = .bool true := by
  refine CallW.fn' (fn := ir6) rfl rfl (by kernel_rfl) ir6.eq_1 ?_
  by_cases hr : 0 ≤ roomFs fs 40
  · obtain ⟨hsm, hc⟩ := room_small fs 40 (by omega) hr
    have hcnt : cntFs fs ≤ 40 := by omega
    have hx : decide (0 ≤ roomFs fs 40) = true := by simp [hr]
    have k12 := fun st K => c12 fs b st K
    have k13 := fun st K => c13 fs hsm hcnt b st K
    have k17 := fun st K => c17 fs hsm hcnt b st K
    rw [← check_eq fs hsm] at k17
    by_cases hne : checkS fs = 0
    · simp (config := {contextual := true, implicitDefEqProofs := false, maxSteps := 4000000}) only [go_sem, ↓reduceIte, Bool.false_eq_true, Nat.reduceEqDiff, Nat.reduceAdd, Int.reduceLE, Int.reduceLT, Int.reduceEq, Int.reduceToNat, Int.toNat_natCast, Int.cast_ofNat_Int, Int.natCast_one, Nat.reduceMod, Nat.reduceDiv, UInt8.reduceToNat, Nat.reduceLT, c9z, k12, k13, k17, hx, hne, show decide ((0 : Int) ≠ 0) = false from rfl]
    · have k14 := fun st K => c14e fs hsm hcnt b hne st K
      have k15 := fun st K l => c15e fs hsm hcnt b hne st K l
      have k18 := fun st K l => c18e fs hsm hcnt b hne st K l
      have k19 := fun st K => c19e fs hsm hcnt b hne st K
      have hz : decide (checkS fs = 0) = false := by simp [hne]
      have hy : ∀ v : Int, decide (v ≠ v) = false := fun v => by simp
      simp (config := {contextual := true, implicitDefEqProofs := false, maxSteps := 4000000}) only [go_sem, ↓reduceIte, Bool.false_eq_true, Nat.reduceEqDiff, Nat.reduceAdd, Int.reduceLE, Int.reduceLT, Int.reduceEq, Int.reduceToNat, Int.toNat_natCast, Int.cast_ofNat_Int, Int.natCast_one, Nat.reduceMod, Nat.reduceDiv, UInt8.reduceToNat, Nat.reduceLT, c9z, k12, k13, k17, k14, k15, k18, k19, hx, hz, hy]
  · have hx : decide (0 ≤ roomFs fs 40) = false := by simp; omega
    have k12 := fun st K => c12 fs b st K
    simp (config := {contextual := true, implicitDefEqProofs := false, maxSteps := 4000000}) only [go_sem, ↓reduceIte, Bool.false_eq_true, Nat.reduceEqDiff, Nat.reduceAdd, Int.reduceLE, Int.reduceLT, Int.reduceEq, Int.reduceToNat, Int.toNat_natCast, Int.cast_ofNat_Int, Int.natCast_one, Nat.reduceMod, Nat.reduceDiv, UInt8.reduceToNat, Nat.reduceLT, c9z, k12, hx]
theorem hlaw6 (as0 : List AV) (h : TyArgs Try.prog Try.f6.params.toList as0) : ∃ k s', callF cx k 6 as0 st0 = some (.bool true, s') := by
  obtain ⟨a1, r1, rfl, h1, h2⟩ : ∃ a1 r1, as0 = a1 :: r1 ∧ TyArg Try.prog 26 a1 ∧ r1 = [] := h
  subst h2
  obtain ⟨b, fs, rfl⟩ := TyArg_forms h1
  obtain ⟨k', v, s', h9, rfl⟩ := law6 fs b
  exact ⟨k', s', h9⟩
end T10
