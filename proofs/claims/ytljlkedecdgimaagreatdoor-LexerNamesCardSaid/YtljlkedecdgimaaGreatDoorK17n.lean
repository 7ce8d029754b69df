/- Parts of the proof, one behind the other. -/
import Derived.Test.YtljlkedecdgimaaGreatDoorK17a
import Derived.Test.YtljlkedecdgimaaGreatDoorK17aw
import Derived.Test.YtljlkedecdgimaaGreatDoorFwG
import Derived.Test.YtljlkedecdgimaaGreatDoorK17d
import Derived.Test.YtljlkedecdgimaaGreatDoorRows
set_option linter.unusedSimpArgs false
set_option linter.unusedVariables false
/- The law LexerNames. -/
namespace T17
open Go Fw Go.Proofs
set_option maxRecDepth 100000
set_option maxHeartbeats 4000000
set_option linter.unusedSimpArgs false
set_option linter.unusedVariables false
theorem c6z (h : List (Nat × AObj)) (l : Nat) (K : AV → St → Prop) : CallW cx 6 [] { heap := h, next := 0, low := l } K = K (.bool true) { heap := h, next := 0, low := l } :=
  CallW.eq ⟨1000, _, _, awake_run0 h l, rfl, rfl⟩ K
theorem law5 (a : List UInt8) : CallW cx 5 [.str a] { heap := [], next := 0, low := 0 } fun v _ => v = .bool true := by
  refine CallW.fn' (fn := ir5) rfl rfl (by kernel_rfl) ir5.eq_1 ?_
  by_cases h1 : 200 < a.length
  · have d1 : decide ((200 : Int) < (a.length : Int)) = true := decide_eq_true (by omega)
    simp (config := {contextual := true, implicitDefEqProofs := false, maxSteps := 4000000}) only [go_sem, ↓reduceIte, Bool.false_eq_true, Nat.reduceEqDiff, Nat.reduceAdd, Int.reduceLE, Int.reduceLT, Int.reduceEq, Int.reduceToNat, Int.toNat_natCast, Int.cast_ofNat_Int, Int.natCast_one, Nat.reduceMod, Nat.reduceDiv, UInt8.reduceToNat, Nat.reduceLT, c6z, d1]
  · have d1 : decide ((200 : Int) < (a.length : Int)) = false := decide_eq_false (by omega)
    have k1 := fun st K => c14 a (by omega) st K
    have k2 := fun st K => c15 a (by omega) st K
    have k3 := fun st K => c16 a (by omega) st K
    have k4 := fun st K => c17 a (by omega) st K
    have k5 := fun st K => c18 a (by omega) st K
    have k6 := fun st K => c19 a (by omega) st K
    have k7 := fun st K => c20 a (by omega) st K
    have k8 := fun st K => c21 a (by omega) st K
    have hs : decide ((splB a).2.2 = 0) = pathB a := by
      unfold splB
      cases pathB a <;> rfl
    generalize splB a = x at *
    generalize nameB a = n at *
    generalize pathB a = p at *
    generalize labB a = l at *
    obtain ⟨x1, x2, x3⟩ := x
    simp only at k1 k2 hs
    have z1 : ∀ u : List UInt8, decide (u = u) = true := fun u => by simp
    have z2 : ∀ u : Int, decide (u = u) = true := fun u => by simp
    have z3 : ∀ u : Bool, (u == u) = true := fun u => by cases u <;> rfl
    simp (config := {contextual := true, implicitDefEqProofs := false, maxSteps := 4000000}) only [go_sem, ↓reduceIte, Bool.false_eq_true, Nat.reduceEqDiff, Nat.reduceAdd, Int.reduceLE, Int.reduceLT, Int.reduceEq, Int.reduceToNat, Int.toNat_natCast, Int.cast_ofNat_Int, Int.natCast_one, Nat.reduceMod, Nat.reduceDiv, UInt8.reduceToNat, Nat.reduceLT, c6z, d1, k1, k2, k3, k4, k5, k6, k7, k8, z1, z2, z3, hs]
theorem hlaw5 (as0 : List AV) (h : TyArgs Tryz.prog Tryz.f5.params.toList as0) : ∃ k s', callF cx k 5 as0 st0 = some (.bool true, s') := by
  obtain ⟨a1, r1, rfl, h1, h6⟩ : ∃ a1 r1, as0 = a1 :: r1 ∧ TyArg Tryz.prog 9 a1 ∧ r1 = [] := h
  subst h6
  obtain ⟨s, rfl, _⟩ := TyArg_string Tryz.underlying9 h1
  obtain ⟨k', v, s', h9, rfl⟩ := law5 s
  exact ⟨k', s', h9⟩
end T17

/- The table that the runs read is what the rows list. -/
namespace T17
open Go Fw Go.Proofs Go.RowKit
set_option maxRecDepth 100000
theorem tabEq : (Go.Proofs.YtljlkedecdgimaaGreatDoor.Rows.laid_internal_strconv_uint64pow10 : DataW Unit) = Lib.tabData .u64 pows := rfl
theorem hgl : ∀ W, laidMetH Tryz.prog Go.Proofs.YtljlkedecdgimaaGreatDoor.Rows.lexerNamesRow.laid W → ∀ n cs, cx.gl n = some cs → alAll (fun _ => false) cs = true ∧ RC (firstGh W) cs n 0 := by
  intro W h n cs hn
  change gls n = some cs at hn
  unfold gls at hn
  split at hn <;> cases hn
  exact laid_tab (name := "internal/strconv.uint64pow10") h (by rw [← tabEq]; simp [Go.Proofs.YtljlkedecdgimaaGreatDoor.Rows.lexerNamesRow]) (by kernel_rfl) (by kernel_rfl) Tryz.underlying106 Tryz.underlying93 (by kernel_rfl) (by kernel_rfl)
end T17
