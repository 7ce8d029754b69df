/- What the functions that SchemaFits reaches compute, continued: the kinds. -/
import Derived.Test.YtgpfcgpgbflpgaaK10s2
namespace T10
open Go Fw Go.Proofs
set_option maxRecDepth 100000
set_option linter.unusedSimpArgs false
set_option linter.unusedVariables false
def kindsL : List (List UInt8) := [[119, 111, 114, 100], [110, 97, 109, 101], [112, 97, 116, 104], [110, 117, 109, 98, 101, 114], [119, 104, 111, 108, 101], [116, 101, 120, 116], [116, 105, 109, 101], [100, 97, 116, 101], [97, 110, 121]]
theorem c49 (s : St) (K : AV → St → Prop) : CallW cx 49 [] s K = K (.slice (kindsL.map AV.str) 9 .full) s := by
  refine CallW.eq (CallW.fn' (fn := ir49) rfl rfl (by kernel_rfl) ir49.eq_1 ?_) K
  simp (config := {contextual := true, implicitDefEqProofs := false, maxSteps := 4000000}) only [go_sem, ↓reduceIte, Bool.false_eq_true, Nat.reduceEqDiff, Nat.reduceAdd, Int.reduceLE, Int.reduceLT, Int.reduceEq, Int.reduceToNat, Int.toNat_natCast, Int.cast_ofNat_Int, Int.natCast_one, Nat.reduceMod, Nat.reduceDiv, UInt8.reduceToNat, Nat.reduceLT, fillF]
  rw [LeaveW_slice (.inr rfl) (by rfl) (Nat.le_refl _)]
  exact ⟨rfl, rfl⟩
theorem l28 (ks : List (List UInt8)) (hl : ks.length ≤ 4611686018427387904) (a : List UInt8) (st : St) (Q : Sig → FE → St → Prop) : ∀ (n i : Nat) (e : FE), i + n = ks.length → e 0 = .str a → e 3 = .slice (ks.map AV.str) ks.length .full → e 4 = .int .i64 i →
    (a ∉ ks.drop i → ∀ e', e' 0 = .str a → Q (.exit 0) e' st) → (a ∈ ks.drop i → ∀ e', e' 2 = .bool true → Q .ret e' st) → WLoop cx ir28L0 e st Q
  | 0, i, e, hi, h0, h1, h2, hT, hF => by
    refine WLoop.rnd (c := _) ir28L0.eq_1 ?_
    have hd : decide ((i : Int) < (ks.length : Int)) = false := by simp; omega
    simp (config := {contextual := true, implicitDefEqProofs := false, maxSteps := 4000000}) only [go_sem, ↓reduceIte, Bool.false_eq_true, Nat.reduceEqDiff, Nat.reduceAdd, Int.reduceLE, Int.reduceLT, Int.reduceEq, Int.reduceToNat, Int.toNat_natCast, Int.cast_ofNat_Int, Int.natCast_one, Nat.reduceMod, Nat.reduceDiv, UInt8.reduceToNat, Nat.reduceLT, h0, h1, h2, hd]
    exact hT (by rw [List.drop_eq_nil_of_le (by omega)]; simp) _ h0
  | n + 1, i, e, hi, h0, h1, h2, hT, hF => by
    refine WLoop.rnd (c := _) ir28L0.eq_1 ?_
    have hd : decide ((i : Int) < (ks.length : Int)) = true := by simp; omega
    have hw := wrap_one (i := i) (by omega)
    have hlt : i < ks.length := by omega
    have hs := sub_one (cs := ks.map AV.str) (i := i) (by simp; omega)
    have hg : (ks.map AV.str).getD i AV.undef = .str ks[i] := by simp [List.getD, hlt]
    rw [hg] at hs
    simp (config := {contextual := true, implicitDefEqProofs := false, maxSteps := 4000000}) only [go_sem, ↓reduceIte, Bool.false_eq_true, Nat.reduceEqDiff, Nat.reduceAdd, Int.reduceLE, Int.reduceLT, Int.reduceEq, Int.reduceToNat, Int.toNat_natCast, Int.cast_ofNat_Int, Int.natCast_one, Nat.reduceMod, Nat.reduceDiv, UInt8.reduceToNat, Nat.reduceLT, h0, h1, h2, hd, hw, hs]
    rw [List.drop_eq_getElem_cons hlt] at hT hF
    refine ⟨⟨by omega, by omega⟩, ?_⟩
    by_cases he : ks[i] = a
    · have hx : decide (ks[i] = a) = true := by simp [he]
      rw [hx, pif_true]
      exact hF (by rw [he]; exact List.mem_cons_self) _ rfl
    · have hx : decide (ks[i] = a) = false := by simp [he]
      rw [hx, pif_false]
      refine l28 ks hl a st Q n (i + 1) _ (by omega) h0 h1 rfl (fun h => hT ?_) (fun h => hF (List.mem_cons_of_mem _ h))
      intro hm
      rcases List.mem_cons.1 hm with hm | hm
      · exact he hm.symm
      · exact h hm
theorem c28 (a : List UInt8) (ha : a ∉ kindsL) (s : St) (K : AV → St → Prop) : CallW cx 28 [.str a] s K = K (.bool (decide (2 ≤ a.length) && decide (a.getD 0 0 = 61))) s := by
  refine CallW.eq (CallW.fn' (fn := ir28) rfl rfl (by kernel_rfl) ir28.eq_1 ?_) K
  simp (config := {contextual := true, implicitDefEqProofs := false, maxSteps := 4000000}) only [go_sem, ↓reduceIte, Bool.false_eq_true, Nat.reduceEqDiff, Nat.reduceAdd, Int.reduceLE, Int.reduceLT, Int.reduceEq, Int.reduceToNat, Int.toNat_natCast, Int.cast_ofNat_Int, Int.natCast_one, Nat.reduceMod, Nat.reduceDiv, UInt8.reduceToNat, Nat.reduceLT, c49]
  refine l28 kindsL (by decide) a _ _ 9 0 _ rfl rfl rfl rfl ?_ ?_
  · intro _ e' h0
    simp (config := {contextual := true, implicitDefEqProofs := false, maxSteps := 4000000}) only [go_sem, ↓reduceIte, Bool.false_eq_true, Nat.reduceEqDiff, Nat.reduceAdd, Int.reduceLE, Int.reduceLT, Int.reduceEq, Int.reduceToNat, Int.toNat_natCast, Int.cast_ofNat_Int, Int.natCast_one, Nat.reduceMod, Nat.reduceDiv, UInt8.reduceToNat, Nat.reduceLT, h0]
    by_cases h : 2 ≤ a.length
    · have hx : decide (2 ≤ (a.length : Int)) = true := by simp; omega
      have hy : decide (2 ≤ a.length) = true := by simp [h]
      rw [hx, hy, pif_true, Bool.true_and]
      refine ⟨by omega, ?_⟩
      congr 1
      rw [Bool.eq_iff_iff, decide_eq_true_eq, decide_eq_true_eq]
      exact ⟨fun h => byte_eq (n := 61) h, fun h => by rw [h]; rfl⟩
    · have hx : decide (2 ≤ (a.length : Int)) = false := by simp; omega
      have hy : decide (2 ≤ a.length) = false := by simp [h]
      rw [hx, hy, pif_false, Bool.false_and]
  · intro h; exact absurd h ha

/- the tests -/
section
variable (k : Int) (t : List UInt8) (n m : Int) (s : St) (K : AV → St → Prop)
theorem c60 : CallW cx 60 [.agg [.int .i64 k, .str t, .int .i64 n, .int .i64 m]] s K = K (.bool (decide (k = 1))) s := by
  refine CallW.eq (CallW.fn' (fn := ir60) rfl rfl (by kernel_rfl) ir60.eq_1 ?_) K
  simp (config := {contextual := true, implicitDefEqProofs := false, maxSteps := 4000000}) only [go_sem, ↓reduceIte, Bool.false_eq_true, Nat.reduceEqDiff, Nat.reduceAdd, Int.reduceLE, Int.reduceLT, Int.reduceEq, Int.reduceToNat, Int.toNat_natCast, Int.cast_ofNat_Int, Int.natCast_one, Nat.reduceMod, Nat.reduceDiv, UInt8.reduceToNat, Nat.reduceLT]
theorem c64 : CallW cx 64 [.agg [.int .i64 k, .str t, .int .i64 n, .int .i64 m]] s K = K (.bool (decide (k = 2))) s := by
  refine CallW.eq (CallW.fn' (fn := ir64) rfl rfl (by kernel_rfl) ir64.eq_1 ?_) K
  simp (config := {contextual := true, implicitDefEqProofs := false, maxSteps := 4000000}) only [go_sem, ↓reduceIte, Bool.false_eq_true, Nat.reduceEqDiff, Nat.reduceAdd, Int.reduceLE, Int.reduceLT, Int.reduceEq, Int.reduceToNat, Int.toNat_natCast, Int.cast_ofNat_Int, Int.natCast_one, Nat.reduceMod, Nat.reduceDiv, UInt8.reduceToNat, Nat.reduceLT]
theorem c66 : CallW cx 66 [.agg [.int .i64 k, .str t, .int .i64 n, .int .i64 m]] s K = K (.bool (decide (k = 3))) s := by
  refine CallW.eq (CallW.fn' (fn := ir66) rfl rfl (by kernel_rfl) ir66.eq_1 ?_) K
  simp (config := {contextual := true, implicitDefEqProofs := false, maxSteps := 4000000}) only [go_sem, ↓reduceIte, Bool.false_eq_true, Nat.reduceEqDiff, Nat.reduceAdd, Int.reduceLE, Int.reduceLT, Int.reduceEq, Int.reduceToNat, Int.toNat_natCast, Int.cast_ofNat_Int, Int.natCast_one, Nat.reduceMod, Nat.reduceDiv, UInt8.reduceToNat, Nat.reduceLT]
theorem c67 : CallW cx 67 [.agg [.int .i64 k, .str t, .int .i64 n, .int .i64 m]] s K = K (.bool (decide (k = 4))) s := by
  refine CallW.eq (CallW.fn' (fn := ir67) rfl rfl (by kernel_rfl) ir67.eq_1 ?_) K
  simp (config := {contextual := true, implicitDefEqProofs := false, maxSteps := 4000000}) only [go_sem, ↓reduceIte, Bool.false_eq_true, Nat.reduceEqDiff, Nat.reduceAdd, Int.reduceLE, Int.reduceLT, Int.reduceEq, Int.reduceToNat, Int.toNat_natCast, Int.cast_ofNat_Int, Int.natCast_one, Nat.reduceMod, Nat.reduceDiv, UInt8.reduceToNat, Nat.reduceLT]
theorem c68 : CallW cx 68 [.agg [.int .i64 k, .str t, .int .i64 n, .int .i64 m]] s K = K (.bool (decide (k = 5))) s := by
  refine CallW.eq (CallW.fn' (fn := ir68) rfl rfl (by kernel_rfl) ir68.eq_1 ?_) K
  simp (config := {contextual := true, implicitDefEqProofs := false, maxSteps := 4000000}) only [go_sem, ↓reduceIte, Bool.false_eq_true, Nat.reduceEqDiff, Nat.reduceAdd, Int.reduceLE, Int.reduceLT, Int.reduceEq, Int.reduceToNat, Int.toNat_natCast, Int.cast_ofNat_Int, Int.natCast_one, Nat.reduceMod, Nat.reduceDiv, UInt8.reduceToNat, Nat.reduceLT]
theorem c69 : CallW cx 69 [.agg [.int .i64 k, .str t, .int .i64 n, .int .i64 m]] s K = K (.bool true) s := by
  refine CallW.eq (CallW.fn' (fn := ir69) rfl rfl (by kernel_rfl) ir69.eq_1 ?_) K
  simp (config := {contextual := true, implicitDefEqProofs := false, maxSteps := 4000000}) only [go_sem, ↓reduceIte, Bool.false_eq_true, Nat.reduceEqDiff, Nat.reduceAdd, Int.reduceLE, Int.reduceLT, Int.reduceEq, Int.reduceToNat, Int.toNat_natCast, Int.cast_ofNat_Int, Int.natCast_one, Nat.reduceMod, Nat.reduceDiv, UInt8.reduceToNat, Nat.reduceLT]
theorem c65 : CallW cx 65 [.agg [.int .i64 k, .str t, .int .i64 n, .int .i64 m]] s K = K (.bool (decide (k = 2) && decide (0 ≤ n) && decide (n.tmod 1000 = 0))) s := by
  refine CallW.eq (CallW.fn' (fn := ir65) rfl rfl (by kernel_rfl) ir65.eq_1 ?_) K
  simp (config := {contextual := true, implicitDefEqProofs := false, maxSteps := 4000000}) only [go_sem, ↓reduceIte, Bool.false_eq_true, Nat.reduceEqDiff, Nat.reduceAdd, Int.reduceLE, Int.reduceLT, Int.reduceEq, Int.reduceToNat, Int.toNat_natCast, Int.cast_ofNat_Int, Int.natCast_one, Nat.reduceMod, Nat.reduceDiv, UInt8.reduceToNat, Nat.reduceLT]
  cases decide (k = 2) <;> cases decide (0 ≤ n) <;> simp [pif]
theorem c61 (p : Nat) (hp : look p s.heap = some (.cells (some 79) [.func 60 [] []])) (hlt : p < s.next) : CallW cx 61 [.agg [.int .i64 k, .str t, .int .i64 n, .int .i64 m], .ptr p 0] s K = K (.bool (decide (k = 1) && nameB t)) s := by
  refine CallW.eq (CallW.fn' (fn := ir61) rfl rfl (by kernel_rfl) ir61.eq_1 ?_) K
  have hne : (s.next = p) = False := by simp; omega
  simp (config := {contextual := true, implicitDefEqProofs := false, maxSteps := 4000000}) only [go_sem, ↓reduceIte, Bool.false_eq_true, Nat.reduceEqDiff, Nat.reduceAdd, Int.reduceLE, Int.reduceLT, Int.reduceEq, Int.reduceToNat, Int.toNat_natCast, Int.cast_ofNat_Int, Int.natCast_one, Nat.reduceMod, Nat.reduceDiv, UInt8.reduceToNat, Nat.reduceLT, c60, c35, hp, hne]
  cases decide (k = 1) <;> simp [pif]
theorem c62 (p : Nat) (hp : look p s.heap = some (.cells (some 79) [.func 60 [] []])) (hlt : p < s.next) (ht : t.length ≤ 4611686018427387904) : CallW cx 62 [.agg [.int .i64 k, .str t, .int .i64 n, .int .i64 m], .ptr p 0] s K = K (.bool (decide (k = 1) && pathB t)) s := by
  refine CallW.eq (CallW.fn' (fn := ir62) rfl rfl (by kernel_rfl) ir62.eq_1 ?_) K
  have hne : (s.next = p) = False := by simp; omega
  rcases findByte_spec 47 t 0 with h | ⟨j, h, h1, h2⟩
  · have k1 := fun st K => c63n t 47 h st K
    simp (config := {contextual := true, implicitDefEqProofs := false, maxSteps := 4000000}) only [go_sem, ↓reduceIte, Bool.false_eq_true, Nat.reduceEqDiff, Nat.reduceAdd, Int.reduceLE, Int.reduceLT, Int.reduceEq, Int.reduceToNat, Int.toNat_natCast, Int.cast_ofNat_Int, Int.natCast_one, Nat.reduceMod, Nat.reduceDiv, UInt8.reduceToNat, Nat.reduceLT, c60, c35, hp, hne, k1, List.getElem?_cons_zero, List.getElem?_cons_succ]
    have hpb : pathB t = false := by simp only [pathB, h]; try rfl
    rw [hpb]
    cases decide (k = 1) <;> simp [pif]
  · have k1 := fun st K => c63s t ht 47 j (by omega) h st K
    simp (config := {contextual := true, implicitDefEqProofs := false, maxSteps := 4000000}) only [go_sem, ↓reduceIte, Bool.false_eq_true, Nat.reduceEqDiff, Nat.reduceAdd, Int.reduceLE, Int.reduceLT, Int.reduceEq, Int.reduceToNat, Int.toNat_natCast, Int.cast_ofNat_Int, Int.natCast_one, Nat.reduceMod, Nat.reduceDiv, UInt8.reduceToNat, Nat.reduceLT, c60, c35, hp, hne, k1, List.getElem?_cons_zero, List.getElem?_cons_succ]
    have hpb : pathB t = (nameB (t.take j) && nameB (t.drop (j + 1))) := by simp only [pathB, h]
    rw [hpb]
    cases decide (k = 1) <;> cases nameB (t.take j) <;> simp [pif]
end
end T10
