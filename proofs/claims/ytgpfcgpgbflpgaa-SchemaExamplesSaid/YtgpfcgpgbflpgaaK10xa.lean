/- Parts of the proof, one behind the other. -/
import Derived.Test.YtgpfcgpgbflpgaaK10zc
/- Sample tokens. -/
namespace T10
open Go Fw Go.Proofs
set_option maxRecDepth 100000
set_option linter.unusedSimpArgs false
set_option linter.unusedVariables false
def letV (w : List UInt8) : Int := IntKind.u8.wrap ((BitVec.ofInt 8 ((w.getD 1 0).toNat : Int) ||| BitVec.ofInt 8 32).toNat : Int)
def letB (w : List UInt8) : Bool := decide (97 ≤ letV w) && decide (letV w ≤ 122)
def sampE (w : List UInt8) : Tok := if w.getD 0 0 ≠ 61 then ⟨1, [97], 0, 0⟩ else if letB w = true then ⟨1, w.drop 1, 0, 0⟩ else ⟨6, w.drop 1, 0, 0⟩
def sampT (w : List UInt8) : Tok :=
  if w = [112, 97, 116, 104] then ⟨1, [97, 47, 97], 0, 0⟩ else if w = [110, 117, 109, 98, 101, 114] ∨ w = [119, 104, 111, 108, 101] then ⟨2, [], 0, 0⟩ else if w = [116, 101, 120, 116] then ⟨3, [97], 0, 0⟩
  else if w = [116, 105, 109, 101] then ⟨4, [], 0, 0⟩ else if w = [100, 97, 116, 101] then ⟨5, [50, 48, 48, 48, 45, 48, 49, 45, 48, 49], 0, 0⟩ else sampE w
theorem c53_0 (s : St) (K : AV → St → Prop) : CallW cx 53 [.str [119, 111, 114, 100]] s K = K (.agg (encT (sampT [119, 111, 114, 100]))) s := by
  refine CallW.eq (CallW.fn' (fn := ir53) rfl rfl (by kernel_rfl) ir53.eq_1 ?_) K
  rw [show encT (sampT [119, 111, 114, 100]) = _ from rfl]
  simp (config := {contextual := true, implicitDefEqProofs := false, maxSteps := 4000000}) only [go_sem, ↓reduceIte, Bool.false_eq_true, Nat.reduceEqDiff, Nat.reduceAdd, Int.reduceLE, Int.reduceLT, Int.reduceEq, Int.reduceToNat, Int.toNat_natCast, Int.cast_ofNat_Int, Int.natCast_one, Nat.reduceMod, Nat.reduceDiv, UInt8.reduceToNat, Nat.reduceLT, show (([119, 111, 114, 100] : List UInt8) = [112, 97, 116, 104]) = False from by simp, show (([119, 111, 114, 100] : List UInt8) = [110, 117, 109, 98, 101, 114]) = False from by simp, show (([119, 111, 114, 100] : List UInt8) = [119, 104, 111, 108, 101]) = False from by simp, show (([119, 111, 114, 100] : List UInt8) = [116, 101, 120, 116]) = False from by simp, show (([119, 111, 114, 100] : List UInt8) = [116, 105, 109, 101]) = False from by simp, show (([119, 111, 114, 100] : List UInt8) = [100, 97, 116, 101]) = False from by simp, show decide ((119 : Int) ≠ 61) = true from by decide]
  rfl
theorem c53_1 (s : St) (K : AV → St → Prop) : CallW cx 53 [.str [110, 97, 109, 101]] s K = K (.agg (encT (sampT [110, 97, 109, 101]))) s := by
  refine CallW.eq (CallW.fn' (fn := ir53) rfl rfl (by kernel_rfl) ir53.eq_1 ?_) K
  rw [show encT (sampT [110, 97, 109, 101]) = _ from rfl]
  simp (config := {contextual := true, implicitDefEqProofs := false, maxSteps := 4000000}) only [go_sem, ↓reduceIte, Bool.false_eq_true, Nat.reduceEqDiff, Nat.reduceAdd, Int.reduceLE, Int.reduceLT, Int.reduceEq, Int.reduceToNat, Int.toNat_natCast, Int.cast_ofNat_Int, Int.natCast_one, Nat.reduceMod, Nat.reduceDiv, UInt8.reduceToNat, Nat.reduceLT, show (([110, 97, 109, 101] : List UInt8) = [112, 97, 116, 104]) = False from by simp, show (([110, 97, 109, 101] : List UInt8) = [110, 117, 109, 98, 101, 114]) = False from by simp, show (([110, 97, 109, 101] : List UInt8) = [119, 104, 111, 108, 101]) = False from by simp, show (([110, 97, 109, 101] : List UInt8) = [116, 101, 120, 116]) = False from by simp, show (([110, 97, 109, 101] : List UInt8) = [116, 105, 109, 101]) = False from by simp, show (([110, 97, 109, 101] : List UInt8) = [100, 97, 116, 101]) = False from by simp, show decide ((110 : Int) ≠ 61) = true from by decide]
  rfl
theorem c53_2 (s : St) (K : AV → St → Prop) : CallW cx 53 [.str [112, 97, 116, 104]] s K = K (.agg (encT (sampT [112, 97, 116, 104]))) s := by
  refine CallW.eq (CallW.fn' (fn := ir53) rfl rfl (by kernel_rfl) ir53.eq_1 ?_) K
  rw [show encT (sampT [112, 97, 116, 104]) = _ from rfl]
  simp (config := {contextual := true, implicitDefEqProofs := false, maxSteps := 4000000}) only [go_sem, ↓reduceIte, Bool.false_eq_true, Nat.reduceEqDiff, Nat.reduceAdd, Int.reduceLE, Int.reduceLT, Int.reduceEq, Int.reduceToNat, Int.toNat_natCast, Int.cast_ofNat_Int, Int.natCast_one, Nat.reduceMod, Nat.reduceDiv, UInt8.reduceToNat, Nat.reduceLT, show (([112, 97, 116, 104] : List UInt8) = [112, 97, 116, 104]) = True from by simp, show (([112, 97, 116, 104] : List UInt8) = [110, 117, 109, 98, 101, 114]) = False from by simp, show (([112, 97, 116, 104] : List UInt8) = [119, 104, 111, 108, 101]) = False from by simp, show (([112, 97, 116, 104] : List UInt8) = [116, 101, 120, 116]) = False from by simp, show (([112, 97, 116, 104] : List UInt8) = [116, 105, 109, 101]) = False from by simp, show (([112, 97, 116, 104] : List UInt8) = [100, 97, 116, 101]) = False from by simp, show decide ((112 : Int) ≠ 61) = true from by decide]
  rfl
theorem c53_3 (s : St) (K : AV → St → Prop) : CallW cx 53 [.str [110, 117, 109, 98, 101, 114]] s K = K (.agg (encT (sampT [110, 117, 109, 98, 101, 114]))) s := by
  refine CallW.eq (CallW.fn' (fn := ir53) rfl rfl (by kernel_rfl) ir53.eq_1 ?_) K
  rw [show encT (sampT [110, 117, 109, 98, 101, 114]) = _ from rfl]
  simp (config := {contextual := true, implicitDefEqProofs := false, maxSteps := 4000000}) only [go_sem, ↓reduceIte, Bool.false_eq_true, Nat.reduceEqDiff, Nat.reduceAdd, Int.reduceLE, Int.reduceLT, Int.reduceEq, Int.reduceToNat, Int.toNat_natCast, Int.cast_ofNat_Int, Int.natCast_one, Nat.reduceMod, Nat.reduceDiv, UInt8.reduceToNat, Nat.reduceLT, show (([110, 117, 109, 98, 101, 114] : List UInt8) = [112, 97, 116, 104]) = False from by simp, show (([110, 117, 109, 98, 101, 114] : List UInt8) = [110, 117, 109, 98, 101, 114]) = True from by simp, show (([110, 117, 109, 98, 101, 114] : List UInt8) = [119, 104, 111, 108, 101]) = False from by simp, show (([110, 117, 109, 98, 101, 114] : List UInt8) = [116, 101, 120, 116]) = False from by simp, show (([110, 117, 109, 98, 101, 114] : List UInt8) = [116, 105, 109, 101]) = False from by simp, show (([110, 117, 109, 98, 101, 114] : List UInt8) = [100, 97, 116, 101]) = False from by simp, show decide ((110 : Int) ≠ 61) = true from by decide]
  rfl
theorem c53_4 (s : St) (K : AV → St → Prop) : CallW cx 53 [.str [119, 104, 111, 108, 101]] s K = K (.agg (encT (sampT [119, 104, 111, 108, 101]))) s := by
  refine CallW.eq (CallW.fn' (fn := ir53) rfl rfl (by kernel_rfl) ir53.eq_1 ?_) K
  rw [show encT (sampT [119, 104, 111, 108, 101]) = _ from rfl]
  simp (config := {contextual := true, implicitDefEqProofs := false, maxSteps := 4000000}) only [go_sem, ↓reduceIte, Bool.false_eq_true, Nat.reduceEqDiff, Nat.reduceAdd, Int.reduceLE, Int.reduceLT, Int.reduceEq, Int.reduceToNat, Int.toNat_natCast, Int.cast_ofNat_Int, Int.natCast_one, Nat.reduceMod, Nat.reduceDiv, UInt8.reduceToNat, Nat.reduceLT, show (([119, 104, 111, 108, 101] : List UInt8) = [112, 97, 116, 104]) = False from by simp, show (([119, 104, 111, 108, 101] : List UInt8) = [110, 117, 109, 98, 101, 114]) = False from by simp, show (([119, 104, 111, 108, 101] : List UInt8) = [119, 104, 111, 108, 101]) = True from by simp, show (([119, 104, 111, 108, 101] : List UInt8) = [116, 101, 120, 116]) = False from by simp, show (([119, 104, 111, 108, 101] : List UInt8) = [116, 105, 109, 101]) = False from by simp, show (([119, 104, 111, 108, 101] : List UInt8) = [100, 97, 116, 101]) = False from by simp, show decide ((119 : Int) ≠ 61) = true from by decide]
  rfl
theorem c53_5 (s : St) (K : AV → St → Prop) : CallW cx 53 [.str [116, 101, 120, 116]] s K = K (.agg (encT (sampT [116, 101, 120, 116]))) s := by
  refine CallW.eq (CallW.fn' (fn := ir53) rfl rfl (by kernel_rfl) ir53.eq_1 ?_) K
  rw [show encT (sampT [116, 101, 120, 116]) = _ from rfl]
  simp (config := {contextual := true, implicitDefEqProofs := false, maxSteps := 4000000}) only [go_sem, ↓reduceIte, Bool.false_eq_true, Nat.reduceEqDiff, Nat.reduceAdd, Int.reduceLE, Int.reduceLT, Int.reduceEq, Int.reduceToNat, Int.toNat_natCast, Int.cast_ofNat_Int, Int.natCast_one, Nat.reduceMod, Nat.reduceDiv, UInt8.reduceToNat, Nat.reduceLT, show (([116, 101, 120, 116] : List UInt8) = [112, 97, 116, 104]) = False from by simp, show (([116, 101, 120, 116] : List UInt8) = [110, 117, 109, 98, 101, 114]) = False from by simp, show (([116, 101, 120, 116] : List UInt8) = [119, 104, 111, 108, 101]) = False from by simp, show (([116, 101, 120, 116] : List UInt8) = [116, 101, 120, 116]) = True from by simp, show (([116, 101, 120, 116] : List UInt8) = [116, 105, 109, 101]) = False from by simp, show (([116, 101, 120, 116] : List UInt8) = [100, 97, 116, 101]) = False from by simp, show decide ((116 : Int) ≠ 61) = true from by decide]
  rfl
theorem c53_6 (s : St) (K : AV → St → Prop) : CallW cx 53 [.str [116, 105, 109, 101]] s K = K (.agg (encT (sampT [116, 105, 109, 101]))) s := by
  refine CallW.eq (CallW.fn' (fn := ir53) rfl rfl (by kernel_rfl) ir53.eq_1 ?_) K
  rw [show encT (sampT [116, 105, 109, 101]) = _ from rfl]
  simp (config := {contextual := true, implicitDefEqProofs := false, maxSteps := 4000000}) only [go_sem, ↓reduceIte, Bool.false_eq_true, Nat.reduceEqDiff, Nat.reduceAdd, Int.reduceLE, Int.reduceLT, Int.reduceEq, Int.reduceToNat, Int.toNat_natCast, Int.cast_ofNat_Int, Int.natCast_one, Nat.reduceMod, Nat.reduceDiv, UInt8.reduceToNat, Nat.reduceLT, show (([116, 105, 109, 101] : List UInt8) = [112, 97, 116, 104]) = False from by simp, show (([116, 105, 109, 101] : List UInt8) = [110, 117, 109, 98, 101, 114]) = False from by simp, show (([116, 105, 109, 101] : List UInt8) = [119, 104, 111, 108, 101]) = False from by simp, show (([116, 105, 109, 101] : List UInt8) = [116, 101, 120, 116]) = False from by simp, show (([116, 105, 109, 101] : List UInt8) = [116, 105, 109, 101]) = True from by simp, show (([116, 105, 109, 101] : List UInt8) = [100, 97, 116, 101]) = False from by simp, show decide ((116 : Int) ≠ 61) = true from by decide]
  rfl
theorem c53_7 (s : St) (K : AV → St → Prop) : CallW cx 53 [.str [100, 97, 116, 101]] s K = K (.agg (encT (sampT [100, 97, 116, 101]))) s := by
  refine CallW.eq (CallW.fn' (fn := ir53) rfl rfl (by kernel_rfl) ir53.eq_1 ?_) K
  rw [show encT (sampT [100, 97, 116, 101]) = _ from rfl]
  simp (config := {contextual := true, implicitDefEqProofs := false, maxSteps := 4000000}) only [go_sem, ↓reduceIte, Bool.false_eq_true, Nat.reduceEqDiff, Nat.reduceAdd, Int.reduceLE, Int.reduceLT, Int.reduceEq, Int.reduceToNat, Int.toNat_natCast, Int.cast_ofNat_Int, Int.natCast_one, Nat.reduceMod, Nat.reduceDiv, UInt8.reduceToNat, Nat.reduceLT, show (([100, 97, 116, 101] : List UInt8) = [112, 97, 116, 104]) = False from by simp, show (([100, 97, 116, 101] : List UInt8) = [110, 117, 109, 98, 101, 114]) = False from by simp, show (([100, 97, 116, 101] : List UInt8) = [119, 104, 111, 108, 101]) = False from by simp, show (([100, 97, 116, 101] : List UInt8) = [116, 101, 120, 116]) = False from by simp, show (([100, 97, 116, 101] : List UInt8) = [116, 105, 109, 101]) = False from by simp, show (([100, 97, 116, 101] : List UInt8) = [100, 97, 116, 101]) = True from by simp, show decide ((100 : Int) ≠ 61) = true from by decide]
  rfl
theorem c53_8 (s : St) (K : AV → St → Prop) : CallW cx 53 [.str [97, 110, 121]] s K = K (.agg (encT (sampT [97, 110, 121]))) s := by
  refine CallW.eq (CallW.fn' (fn := ir53) rfl rfl (by kernel_rfl) ir53.eq_1 ?_) K
  rw [show encT (sampT [97, 110, 121]) = _ from rfl]
  simp (config := {contextual := true, implicitDefEqProofs := false, maxSteps := 4000000}) only [go_sem, ↓reduceIte, Bool.false_eq_true, Nat.reduceEqDiff, Nat.reduceAdd, Int.reduceLE, Int.reduceLT, Int.reduceEq, Int.reduceToNat, Int.toNat_natCast, Int.cast_ofNat_Int, Int.natCast_one, Nat.reduceMod, Nat.reduceDiv, UInt8.reduceToNat, Nat.reduceLT, show (([97, 110, 121] : List UInt8) = [112, 97, 116, 104]) = False from by simp, show (([97, 110, 121] : List UInt8) = [110, 117, 109, 98, 101, 114]) = False from by simp, show (([97, 110, 121] : List UInt8) = [119, 104, 111, 108, 101]) = False from by simp, show (([97, 110, 121] : List UInt8) = [116, 101, 120, 116]) = False from by simp, show (([97, 110, 121] : List UInt8) = [116, 105, 109, 101]) = False from by simp, show (([97, 110, 121] : List UInt8) = [100, 97, 116, 101]) = False from by simp, show decide ((97 : Int) ≠ 61) = true from by decide]
  rfl
theorem c53 (a : List UInt8) (hk : knownB a = true) (hal : a.length ≤ 100) (s : St) (K : AV → St → Prop) : CallW cx 53 [.str a] s K = K (.agg (encT (sampT a))) s := by
  by_cases hm : a ∈ kindsL
  · simp only [kindsL, List.mem_cons, List.not_mem_nil, or_false] at hm
    rcases hm with rfl | rfl | rfl | rfl | rfl | rfl | rfl | rfl | rfl
    · exact c53_0 s K
    · exact c53_1 s K
    · exact c53_2 s K
    · exact c53_3 s K
    · exact c53_4 s K
    · exact c53_5 s K
    · exact c53_6 s K
    · exact c53_7 s K
    · exact c53_8 s K
  · have he : eqB a = true := by simpa [knownB, hm] using hk
    simp only [eqB, Bool.and_eq_true, decide_eq_true_eq] at he
    obtain ⟨hl, hc⟩ := he
    have n0 : (a = [112, 97, 116, 104]) = False := by simp; intro h; exact hm (h ▸ by decide)
    have n1 : (a = [110, 117, 109, 98, 101, 114]) = False := by simp; intro h; exact hm (h ▸ by decide)
    have n2 : (a = [119, 104, 111, 108, 101]) = False := by simp; intro h; exact hm (h ▸ by decide)
    have n3 : (a = [116, 101, 120, 116]) = False := by simp; intro h; exact hm (h ▸ by decide)
    have n4 : (a = [116, 105, 109, 101]) = False := by simp; intro h; exact hm (h ▸ by decide)
    have n5 : (a = [100, 97, 116, 101]) = False := by simp; intro h; exact hm (h ▸ by decide)
    have hs : sampT a = if letB a = true then ⟨1, a.drop 1, 0, 0⟩ else ⟨6, a.drop 1, 0, 0⟩ := by
      simp only [sampT, n0, n1, n2, n3, n4, n5, or_self, if_false, sampE, hc, ne_eq, not_true_eq_false]
    rw [hs]
    refine CallW.eq (CallW.fn' (fn := ir53) rfl rfl (by kernel_rfl) ir53.eq_1 ?_) K
    have hne : decide (((a.getD 0 0).toNat : Int) ≠ 61) = false := by rw [hc]; rfl
    simp (config := {contextual := true, implicitDefEqProofs := false, maxSteps := 4000000}) only [go_sem, ↓reduceIte, Bool.false_eq_true, Nat.reduceEqDiff, Nat.reduceAdd, Int.reduceLE, Int.reduceLT, Int.reduceEq, Int.reduceToNat, Int.toNat_natCast, Int.cast_ofNat_Int, Int.natCast_one, Nat.reduceMod, Nat.reduceDiv, UInt8.reduceToNat, Nat.reduceLT, n0, n1, n2, n3, n4, n5, hne]
    generalize hV : IntKind.u8.wrap _ = V
    have hV' : letV a = V := hV
    simp only [letB, hV']
    refine ⟨by omega, by omega, ?_⟩
    cases h1 : decide (97 ≤ V) with
    | false => exact ⟨by omega, rfl⟩
    | true => cases h2 : decide (V ≤ 122) with
      | false => exact ⟨by omega, rfl⟩
      | true => exact ⟨by omega, rfl⟩
end T10
