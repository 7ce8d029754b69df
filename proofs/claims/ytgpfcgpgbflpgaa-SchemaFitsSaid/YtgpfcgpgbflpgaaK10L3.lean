/- SchemaFits: the law's function answers true. -/
import Derived.Test.YtgpfcgpgbflpgaaK10s4
import Derived.Test.YtgpfcgpgbflpgaaK10aw
import Derived.Test.YtgpfcgpgbflpgaaFwG3
namespace T10
open Go Fw Go.Proofs
set_option maxRecDepth 100000
set_option linter.unusedSimpArgs false
theorem c9 (h : List (Nat × AObj)) (l : Nat) (K : AV → St → Prop) : CallW cx 9 [] { heap := h, next := 1, low := l } K = K (.bool true) { heap := h, next := 1, low := l } :=
  CallW.eq ⟨1000, _, _, awake_run h l, rfl, rfl⟩ K
theorem law3 (kind : List UInt8) (k : Int) (t : List UInt8) (n m : Int) : CallW cx 3 [.str kind, .agg [.int .i64 k, .str t, .int .i64 n, .int .i64 m]] { heap := [], next := 0, low := 0 } fun v _ => v = .bool true := by
  refine CallW.fn' (fn := ir3) rfl rfl (by kernel_rfl) ir3.eq_1 ?_
  by_cases ht : t.length ≤ 100
  · have k1 := fun st K => c10 k t n m st K kind (by omega)
    have k2 := fun st K => c11 k t n m st K kind (by omega)
    simp (config := {contextual := true, implicitDefEqProofs := false, maxSteps := 4000000}) only [go_sem, ↓reduceIte, Bool.false_eq_true, Nat.reduceEqDiff, Nat.reduceAdd, Int.reduceLE, Int.reduceLT, Int.reduceEq, Int.reduceToNat, Int.toNat_natCast, Int.cast_ofNat_Int, Int.natCast_one, Nat.reduceMod, Nat.reduceDiv, UInt8.reduceToNat, Nat.reduceLT, c9, k1, k2]
    simp [pif]
  · have hx : decide (100 < (t.length : Int)) = true := by simp; omega
    simp (config := {contextual := true, implicitDefEqProofs := false, maxSteps := 4000000}) only [go_sem, ↓reduceIte, Bool.false_eq_true, Nat.reduceEqDiff, Nat.reduceAdd, Int.reduceLE, Int.reduceLT, Int.reduceEq, Int.reduceToNat, Int.toNat_natCast, Int.cast_ofNat_Int, Int.natCast_one, Nat.reduceMod, Nat.reduceDiv, UInt8.reduceToNat, Nat.reduceLT, c9, hx]
    simp [pif]
theorem hlaw (as0 : List AV) (h : TyArgs Try.prog Try.f3.params.toList as0) : ∃ k s', callF cx k 3 as0 st0 = some (.bool true, s') := by
  obtain ⟨a1, r1, rfl, h1, a2, r2, rfl, h2, h3⟩ : ∃ a1 r1, as0 = a1 :: r1 ∧ TyArg Try.prog 9 a1 ∧ ∃ a2 r2, r1 = a2 :: r2 ∧ TyArg Try.prog 23 a2 ∧ r2 = [] := h
  subst h3
  obtain ⟨kind, rfl, _⟩ := TyArg_string Try.underlying9 h1
  obtain ⟨f, cs, rfl, h4⟩ := TyArg_struct Try.underlying23 h2
  obtain ⟨p1, q1, rfl, h5, _, p2, q2, rfl, h6, _, p3, q3, rfl, h7, _, p4, q4, rfl, h8, _, rfl⟩ := h4
  obtain ⟨k, rfl, _⟩ := Ty_int Try.underlying3 h5
  obtain ⟨t, rfl, ht⟩ := Ty_string Try.underlying9 h6
  obtain ⟨n, rfl, _⟩ := Ty_int Try.underlying2 h7
  obtain ⟨m, rfl, _⟩ := Ty_int Try.underlying3 h8
  obtain ⟨k', v, s', h9, rfl⟩ := law3 kind k t n m
  exact ⟨k', s', h9⟩
end T10
