/- What the functions that SchemaFits reaches compute, continued: paths. -/
import Derived.Test.YtgpfcgpgbflpgaaK10s
namespace T10
open Go Fw Go.Proofs
set_option maxRecDepth 100000
set_option linter.unusedSimpArgs false
set_option linter.unusedVariables false
theorem findByte_spec (c : UInt8) : ∀ (l : List UInt8) (i : Nat), findByte c l i = -1 ∨ ∃ j : Nat, findByte c l i = (j : Int) ∧ i ≤ j ∧ j < i + l.length
  | [], i => .inl rfl
  | b :: l, i => by
    simp only [findByte]
    by_cases h : b = c
    · rw [if_pos h]; exact .inr ⟨i, rfl, Nat.le_refl _, by simp⟩
    · rw [if_neg h]
      rcases findByte_spec c l (i + 1) with h1 | ⟨j, h1, h2, h3⟩
      · exact .inl h1
      · exact .inr ⟨j, h1, by omega, by simp at h3 ⊢; omega⟩
/-- A path: a name, a stroke, a name. -/
def pathB (a : List UInt8) : Bool := match findByte 47 a 0 with
  | .ofNat j => nameB (a.take j) && nameB (a.drop (j + 1))
  | .negSucc _ => false
theorem byte_eq {c : UInt8} {n : UInt8} (h : (c.toNat : Int) = (n.toNat : Int)) : c = n := UInt8.toNat.inj (by omega)

theorem l27 (a : List UInt8) (hl : a.length ≤ 4611686018427387904) (st : St) (Q : Sig → FE → St → Prop) : ∀ (n i : Nat) (e : FE), i + n = a.length → e 0 = .str a → e 3 = .int .i64 i →
    (findByte 47 (a.drop i) i = -1 → ∀ e', Q (.exit 0) e' st) → (∀ j : Nat, findByte 47 (a.drop i) i = (j : Int) → ∀ e', e' 2 = .bool (nameB (a.take j) && nameB (a.drop (j + 1))) → Q .ret e' st) → WLoop cx ir27L0 e st Q
  | 0, i, e, hi, h0, h2, hT, hF => by
    refine WLoop.rnd (c := _) ir27L0.eq_1 ?_
    have hd : decide ((i : Int) < (a.length : Int)) = false := by simp; omega
    simp (config := {contextual := true, implicitDefEqProofs := false, maxSteps := 4000000}) only [go_sem, ↓reduceIte, Bool.false_eq_true, Nat.reduceEqDiff, Nat.reduceAdd, Int.reduceLE, Int.reduceLT, Int.reduceEq, Int.reduceToNat, Int.toNat_natCast, Int.cast_ofNat_Int, Int.natCast_one, Nat.reduceMod, Nat.reduceDiv, h0, h2, hd]
    exact hT (by rw [List.drop_eq_nil_of_le (by omega)]; rfl) _
  | n + 1, i, e, hi, h0, h2, hT, hF => by
    refine WLoop.rnd (c := _) ir27L0.eq_1 ?_
    have hd : decide ((i : Int) < (a.length : Int)) = true := by simp; omega
    have k1 := fun K => c26 (a.take i) (by simp; omega) st K
    have k2 := fun K => c26 (a.drop (i + 1)) (by simp; omega) st K
    have hw := wrap_one (i := i) (by omega)
    simp (config := {contextual := true, implicitDefEqProofs := false, maxSteps := 4000000}) only [go_sem, ↓reduceIte, Bool.false_eq_true, Nat.reduceEqDiff, Nat.reduceAdd, Int.reduceLE, Int.reduceLT, Int.reduceEq, Int.reduceToNat, Int.toNat_natCast, Int.cast_ofNat_Int, Int.natCast_one, Nat.reduceMod, Nat.reduceDiv, h0, h2, hd, k1, k2, hw]
    have hda := drop_at (a := a) (i := i) (by omega)
    rw [hda] at hT hF
    simp only [findByte] at hT hF
    refine ⟨by omega, by omega, ?_⟩
    by_cases hc : a.getD i 0 = 47
    · have hx : decide ((((a.getD i 0).toNat : Nat) : Int) = 47) = true := by rw [hc]; rfl
      rw [hx, pif_true]
      refine ⟨by omega, ?_⟩
      rw [if_pos hc] at hF
      have hF := hF i rfl
      cases hn : nameB (a.take i) with
      | true =>
        rw [pif_true]
        refine ⟨by omega, hF _ ?_⟩
        rw [hn]; rfl
      | false =>
        rw [pif_false]
        refine hF _ ?_
        rw [hn]; rfl
    · have hx : decide ((((a.getD i 0).toNat : Nat) : Int) = 47) = false := by
        simp only [decide_eq_false_iff_not]; intro h; exact hc (byte_eq (n := 47) h)
      rw [hx, pif_false]
      rw [if_neg hc] at hT hF
      exact l27 a hl st Q n (i + 1) _ (by omega) h0 rfl hT hF

theorem c27 (a : List UInt8) (hl : a.length ≤ 4611686018427387904) (s : St) (K : AV → St → Prop) : CallW cx 27 [.str a] s K = K (.bool (pathB a)) s := by
  refine CallW.eq (CallW.fn' (fn := ir27) rfl rfl (by kernel_rfl) ir27.eq_1 ?_) K
  simp (config := {contextual := true, implicitDefEqProofs := false, maxSteps := 4000000}) only [go_sem, ↓reduceIte, Bool.false_eq_true, Nat.reduceEqDiff, Nat.reduceAdd, Int.reduceLE, Int.reduceLT, Int.reduceEq, Int.reduceToNat, Int.toNat_natCast, Int.cast_ofNat_Int, Int.natCast_one, Nat.reduceMod, Nat.reduceDiv]
  refine l27 a hl _ _ a.length 0 _ (by omega) rfl rfl ?_ ?_
  · intro h e'
    rw [List.drop_zero] at h
    simp (config := {contextual := true, implicitDefEqProofs := false, maxSteps := 4000000}) only [go_sem, ↓reduceIte, Bool.false_eq_true, Nat.reduceEqDiff, Nat.reduceAdd, Int.reduceLE, Int.reduceLT, Int.reduceEq, Int.reduceToNat, Int.toNat_natCast, Int.cast_ofNat_Int, Int.natCast_one, Nat.reduceMod, Nat.reduceDiv]
    simp only [pathB, h]; try rfl
  · intro j h e' h2
    rw [List.drop_zero] at h
    simp (config := {contextual := true, implicitDefEqProofs := false, maxSteps := 4000000}) only [go_sem, ↓reduceIte, Bool.false_eq_true, Nat.reduceEqDiff, Nat.reduceAdd, Int.reduceLE, Int.reduceLT, Int.reduceEq, Int.reduceToNat, Int.toNat_natCast, Int.cast_ofNat_Int, Int.natCast_one, Nat.reduceMod, Nat.reduceDiv, h2]
    simp only [pathB, h]; try rfl

theorem c91 (a : List UInt8) (c : Int) (s : St) (K : AV → St → Prop) : CallW cx 91 [.str a, .int .u8 c] s K = K (.int .i64 (findByte c.toNat.toUInt8 a 0)) s :=
  CallW.eq (CallW.ext (g := xIndexByte) rfl (by simp only [xIndexByte, oget_some, and_self])) K
theorem c87 (a : List UInt8) (c : Int) (s : St) (K : AV → St → Prop) : CallW cx 87 [.str a, .int .u8 c] s K = K (.int .i64 (findByte c.toNat.toUInt8 a 0)) s := by
  refine CallW.eq (CallW.fn' (fn := ir87) rfl rfl (by kernel_rfl) ir87.eq_1 ?_) K
  simp (config := {contextual := true, implicitDefEqProofs := false, maxSteps := 4000000}) only [go_sem, ↓reduceIte, Bool.false_eq_true, Nat.reduceEqDiff, Nat.reduceAdd, Int.reduceLE, Int.reduceLT, Int.reduceEq, Int.reduceToNat, Int.toNat_natCast, Int.cast_ofNat_Int, Int.natCast_one, Nat.reduceMod, Nat.reduceDiv, c91]
theorem u8_back (c : UInt8) : ((c.toNat : Int).toNat).toUInt8 = c := by simp
theorem c85 (a : List UInt8) (c : UInt8) (s : St) (K : AV → St → Prop) : CallW cx 85 [.str a, .str [c]] s K = K (.int .i64 (findByte c a 0)) s := by
  refine CallW.eq (CallW.fn' (fn := ir85) rfl rfl (by kernel_rfl) ir85.eq_1 ?_) K
  by_cases ha : [c] = a
  · have hx : decide ([c] = a) = true := by simp [ha]
    simp (config := {contextual := true, implicitDefEqProofs := false, maxSteps := 4000000}) only [go_sem, ↓reduceIte, Bool.false_eq_true, Nat.reduceEqDiff, Nat.reduceAdd, Int.reduceLE, Int.reduceLT, Int.reduceEq, Int.reduceToNat, Int.toNat_natCast, Int.cast_ofNat_Int, Int.natCast_one, Nat.reduceMod, Nat.reduceDiv, c87, hx, u8_back, Int.toNat_natCast, UInt8.ofNat_toNat, Nat.toUInt8_eq]
    subst ha; simp [findByte]
  · have hx : decide ([c] = a) = false := by simp [ha]
    simp (config := {contextual := true, implicitDefEqProofs := false, maxSteps := 4000000}) only [go_sem, ↓reduceIte, Bool.false_eq_true, Nat.reduceEqDiff, Nat.reduceAdd, Int.reduceLE, Int.reduceLT, Int.reduceEq, Int.reduceToNat, Int.toNat_natCast, Int.cast_ofNat_Int, Int.natCast_one, Nat.reduceMod, Nat.reduceDiv, c87, hx, u8_back, Int.toNat_natCast, UInt8.ofNat_toNat, Nat.toUInt8_eq]

theorem c77n (a : List UInt8) (c : UInt8) (h : findByte c a 0 = -1) (s : St) (K : AV → St → Prop) : CallW cx 77 [.str a, .str [c]] s K = K (.tuple [.str a, .str [], .bool false]) s := by
  refine CallW.eq (CallW.fn' (fn := ir77) rfl rfl (by kernel_rfl) ir77.eq_1 ?_) K
  simp (config := {contextual := true, implicitDefEqProofs := false, maxSteps := 4000000}) only [go_sem, ↓reduceIte, Bool.false_eq_true, Nat.reduceEqDiff, Nat.reduceAdd, Int.reduceLE, Int.reduceLT, Int.reduceEq, Int.reduceToNat, Int.toNat_natCast, Int.cast_ofNat_Int, Int.natCast_one, Nat.reduceMod, Nat.reduceDiv, c85, h]
theorem c77s (a : List UInt8) (ha : a.length ≤ 4611686018427387904) (c : UInt8) (j : Nat) (hj : j < a.length) (h : findByte c a 0 = (j : Int)) (s : St) (K : AV → St → Prop) : CallW cx 77 [.str a, .str [c]] s K = K (.tuple [.str (a.take j), .str (a.drop (j + 1)), .bool true]) s := by
  refine CallW.eq (CallW.fn' (fn := ir77) rfl rfl (by kernel_rfl) ir77.eq_1 ?_) K
  have hx : decide (0 ≤ (j : Int)) = true := by simp
  have hw := wrap_one (i := j) (by omega)
  simp (config := {contextual := true, implicitDefEqProofs := false, maxSteps := 4000000}) only [go_sem, ↓reduceIte, Bool.false_eq_true, Nat.reduceEqDiff, Nat.reduceAdd, Int.reduceLE, Int.reduceLT, Int.reduceEq, Int.reduceToNat, Int.toNat_natCast, Int.cast_ofNat_Int, Int.natCast_one, Nat.reduceMod, Nat.reduceDiv, c85, hx, h, hw]
  omega
theorem c63n (a : List UInt8) (c : UInt8) (h : findByte c a 0 = -1) (s : St) (K : AV → St → Prop) : CallW cx 63 [.str a, .str [c]] s K = K (.tuple [.str a, .str [], .bool false]) s := by
  refine CallW.eq (CallW.fn' (fn := ir63) rfl rfl (by kernel_rfl) ir63.eq_1 ?_) K
  have k := fun K => c77n a c h { heap := s.heap, next := s.next, low := s.next } K
  simp (config := {contextual := true, implicitDefEqProofs := false, maxSteps := 4000000}) only [go_sem, ↓reduceIte, Bool.false_eq_true, Nat.reduceEqDiff, Nat.reduceAdd, Int.reduceLE, Int.reduceLT, Int.reduceEq, Int.reduceToNat, Int.toNat_natCast, Int.cast_ofNat_Int, Int.natCast_one, Nat.reduceMod, Nat.reduceDiv, k, List.getElem?_cons_zero, List.getElem?_cons_succ]
theorem c63s (a : List UInt8) (ha : a.length ≤ 4611686018427387904) (c : UInt8) (j : Nat) (hj : j < a.length) (h : findByte c a 0 = (j : Int)) (s : St) (K : AV → St → Prop) : CallW cx 63 [.str a, .str [c]] s K = K (.tuple [.str (a.take j), .str (a.drop (j + 1)), .bool true]) s := by
  refine CallW.eq (CallW.fn' (fn := ir63) rfl rfl (by kernel_rfl) ir63.eq_1 ?_) K
  have k := fun K => c77s a ha c j hj h { heap := s.heap, next := s.next, low := s.next } K
  simp (config := {contextual := true, implicitDefEqProofs := false, maxSteps := 4000000}) only [go_sem, ↓reduceIte, Bool.false_eq_true, Nat.reduceEqDiff, Nat.reduceAdd, Int.reduceLE, Int.reduceLT, Int.reduceEq, Int.reduceToNat, Int.toNat_natCast, Int.cast_ofNat_Int, Int.natCast_one, Nat.reduceMod, Nat.reduceDiv, k, List.getElem?_cons_zero, List.getElem?_cons_succ]
end T10
