/- Parts of the proof, one behind the other. -/
import Derived.Test.YtofeijldadameaaDoorK01d
import Derived.Test.YtofeijldadameaaDoorFwX
set_option linter.unusedSimpArgs false
set_option linter.unusedVariables false
/- Strings of the library: the search for a byte, Cut, CutPrefix, Trim and TrimRight at a byte. -/
namespace T01
open Go Fw Go.Proofs
set_option maxRecDepth 100000
set_option linter.unusedSimpArgs false
set_option linter.unusedVariables false
theorem drop_at {a : List UInt8} {i : Nat} (h : i < a.length) : a.drop i = a.getD i 0 :: a.drop (i + 1) := by
  rw [List.drop_eq_getElem_cons h]; simp [List.getD, h]
theorem wrap_one {i : Nat} (h : i < 9223372036854775807) : IntKind.i64.wrap ((i : Int) + 1) = ((i + 1 : Nat) : Int) := by rw [wrap_i64 (by omega) (by omega)]; rfl
theorem byte_eq {c : UInt8} {n : UInt8} (h : (c.toNat : Int) = (n.toNat : Int)) : c = n := UInt8.toNat.inj (by omega)
theorem findByte_spec (c : UInt8) : ∀ (l : List UInt8) (i : Nat), findByte c l i = -1 ∨ ∃ j : Nat, findByte c l i = (j : Int) ∧ i ≤ j ∧ j < i + l.length
  | [], i => .inl rfl
  | b :: l, i => by
    simp only [findByte]
    by_cases h : b = c
    · rw [if_pos h]; exact .inr ⟨i, rfl, Nat.le_refl _, by simp⟩
    · rw [if_neg h]
      rcases findByte_spec c l (i + 1) with h1 | ⟨j, h1, h2, h3⟩
      · exact .inl h1
      · exact .inr ⟨j, h1, by omega, by simp at h3 ⊢; omega⟩
theorem c81 (a : List UInt8) (c : Int) (s : St) (K : AV → St → Prop) : CallW cx 81 [.str a, .int .u8 c] s K = K (.int .i64 (findByte c.toNat.toUInt8 a 0)) s :=
  CallW.eq (CallW.ext (g := xIndexByte) rfl (by simp only [xIndexByte, oget_some, and_self])) K
theorem c70 (a : List UInt8) (c : Int) (s : St) (K : AV → St → Prop) : CallW cx 70 [.str a, .int .u8 c] s K = K (.int .i64 (findByte c.toNat.toUInt8 a 0)) s := by
  refine CallW.eq (CallW.fn' (fn := ir70) rfl rfl (by kernel_rfl) ir70.eq_1 ?_) K
  simp (config := {contextual := true, implicitDefEqProofs := false, maxSteps := 4000000}) only [go_sem, ↓reduceIte, Bool.false_eq_true, Nat.reduceEqDiff, Nat.reduceAdd, Int.reduceLE, Int.reduceLT, Int.reduceEq, Int.reduceToNat, Int.toNat_natCast, Int.cast_ofNat_Int, Int.natCast_one, Nat.reduceMod, Nat.reduceDiv, UInt8.reduceToNat, Nat.reduceLT, c81]
theorem u8_back (c : UInt8) : ((c.toNat : Int).toNat).toUInt8 = c := by simp
theorem c58 (a : List UInt8) (c : UInt8) (s : St) (K : AV → St → Prop) : CallW cx 58 [.str a, .str [c]] s K = K (.int .i64 (findByte c a 0)) s := by
  refine CallW.eq (CallW.fn' (fn := ir58) rfl rfl (by kernel_rfl) ir58.eq_1 ?_) K
  by_cases ha : [c] = a
  · have hx : decide ([c] = a) = true := by simp [ha]
    simp (config := {contextual := true, implicitDefEqProofs := false, maxSteps := 4000000}) only [go_sem, ↓reduceIte, Bool.false_eq_true, Nat.reduceEqDiff, Nat.reduceAdd, Int.reduceLE, Int.reduceLT, Int.reduceEq, Int.reduceToNat, Int.toNat_natCast, Int.cast_ofNat_Int, Int.natCast_one, Nat.reduceMod, Nat.reduceDiv, UInt8.reduceToNat, Nat.reduceLT, c70, hx, u8_back, Int.toNat_natCast, UInt8.ofNat_toNat, Nat.toUInt8_eq]
    subst ha; simp [findByte]
  · have hx : decide ([c] = a) = false := by simp [ha]
    simp (config := {contextual := true, implicitDefEqProofs := false, maxSteps := 4000000}) only [go_sem, ↓reduceIte, Bool.false_eq_true, Nat.reduceEqDiff, Nat.reduceAdd, Int.reduceLE, Int.reduceLT, Int.reduceEq, Int.reduceToNat, Int.toNat_natCast, Int.cast_ofNat_Int, Int.natCast_one, Nat.reduceMod, Nat.reduceDiv, UInt8.reduceToNat, Nat.reduceLT, c70, hx, u8_back, Int.toNat_natCast, UInt8.ofNat_toNat, Nat.toUInt8_eq]
/-- Where a byte stands first: what stands ahead of it and behind it. -/
def cutB (c : UInt8) (a : List UInt8) : List UInt8 × List UInt8 × Bool := match findByte c a 0 with
  | .ofNat j => (a.take j, a.drop (j + 1), true)
  | .negSucc _ => (a, [], false)
theorem c48 (a : List UInt8) (ha : a.length ≤ 4611686018427387904) (c : UInt8) (s : St) (K : AV → St → Prop) : CallW cx 48 [.str a, .str [c]] s K = K (.tuple [.str (cutB c a).1, .str (cutB c a).2.1, .bool (cutB c a).2.2]) s := by
  refine CallW.eq (CallW.fn' (fn := ir48) rfl rfl (by kernel_rfl) ir48.eq_1 ?_) K
  rcases findByte_spec c a 0 with h | ⟨j, h, _, hj⟩
  · simp (config := {contextual := true, implicitDefEqProofs := false, maxSteps := 4000000}) only [go_sem, ↓reduceIte, Bool.false_eq_true, Nat.reduceEqDiff, Nat.reduceAdd, Int.reduceLE, Int.reduceLT, Int.reduceEq, Int.reduceToNat, Int.toNat_natCast, Int.cast_ofNat_Int, Int.natCast_one, Nat.reduceMod, Nat.reduceDiv, UInt8.reduceToNat, Nat.reduceLT, c58, h]
    unfold cutB; rw [h]; rfl
  · have hx : decide (0 ≤ (j : Int)) = true := by simp
    have hw := wrap_one (i := j) (by omega)
    have e : cutB c a = (a.take j, a.drop (j + 1), true) := by unfold cutB; rw [h]
    simp (config := {contextual := true, implicitDefEqProofs := false, maxSteps := 4000000}) only [go_sem, ↓reduceIte, Bool.false_eq_true, Nat.reduceEqDiff, Nat.reduceAdd, Int.reduceLE, Int.reduceLT, Int.reduceEq, Int.reduceToNat, Int.toNat_natCast, Int.cast_ofNat_Int, Int.natCast_one, Nat.reduceMod, Nat.reduceDiv, UInt8.reduceToNat, Nat.reduceLT, c58, hx, h, hw, e]
    omega
theorem c38 (a : List UInt8) (ha : a.length ≤ 4611686018427387904) (c : UInt8) (s : St) (K : AV → St → Prop) : CallW cx 38 [.str a, .str [c]] s K = K (.tuple [.str (cutB c a).1, .str (cutB c a).2.1, .bool (cutB c a).2.2]) s := by
  refine CallW.eq (CallW.fn' (fn := ir38) rfl rfl (by kernel_rfl) ir38.eq_1 ?_) K
  have k := fun st K => c48 a ha c st K
  simp (config := {contextual := true, implicitDefEqProofs := false, maxSteps := 4000000}) only [go_sem, ↓reduceIte, Bool.false_eq_true, Nat.reduceEqDiff, Nat.reduceAdd, Int.reduceLE, Int.reduceLT, Int.reduceEq, Int.reduceToNat, Int.toNat_natCast, Int.cast_ofNat_Int, Int.natCast_one, Nat.reduceMod, Nat.reduceDiv, UInt8.reduceToNat, Nat.reduceLT, k, List.getElem?_cons_zero, List.getElem?_cons_succ]
theorem c57 (a : List UInt8) (c : UInt8) (s : St) (K : AV → St → Prop) : CallW cx 57 [.str a, .str [c]] s K = K (.bool (decide (a.head? = some c))) s := by
  refine CallW.eq (CallW.fn' (fn := ir57) rfl rfl (by kernel_rfl) ir57.eq_1 ?_) K
  cases a with
  | nil => simp (config := {contextual := true, implicitDefEqProofs := false, maxSteps := 4000000}) only [go_sem, ↓reduceIte, Bool.false_eq_true, Nat.reduceEqDiff, Nat.reduceAdd, Int.reduceLE, Int.reduceLT, Int.reduceEq, Int.reduceToNat, Int.toNat_natCast, Int.cast_ofNat_Int, Int.natCast_one, Nat.reduceMod, Nat.reduceDiv, UInt8.reduceToNat, Nat.reduceLT]; simp
  | cons b a =>
    have hx : decide ((1 : Int) ≤ (((b :: a).length : Nat) : Int)) = true := by simp; omega
    rw [List.length_cons] at hx
    simp (config := {contextual := true, implicitDefEqProofs := false, maxSteps := 4000000}) only [go_sem, ↓reduceIte, Bool.false_eq_true, Nat.reduceEqDiff, Nat.reduceAdd, Int.reduceLE, Int.reduceLT, Int.reduceEq, Int.reduceToNat, Int.toNat_natCast, Int.cast_ofNat_Int, Int.natCast_one, Nat.reduceMod, Nat.reduceDiv, UInt8.reduceToNat, Nat.reduceLT, hx]
    simp
    omega
theorem c47 (a : List UInt8) (c : UInt8) (s : St) (K : AV → St → Prop) : CallW cx 47 [.str a, .str [c]] s K = K (.tuple [.str (if a.head? = some c then a.tail else a), .bool (decide (a.head? = some c))]) s := by
  refine CallW.eq (CallW.fn' (fn := ir47) rfl rfl (by kernel_rfl) ir47.eq_1 ?_) K
  by_cases h : a.head? = some c
  · cases a with
    | nil => simp at h
    | cons b a =>
      have hx : decide ((b :: a).head? = some c) = true := by simpa using h
      simp (config := {contextual := true, implicitDefEqProofs := false, maxSteps := 4000000}) only [go_sem, ↓reduceIte, Bool.false_eq_true, Nat.reduceEqDiff, Nat.reduceAdd, Int.reduceLE, Int.reduceLT, Int.reduceEq, Int.reduceToNat, Int.toNat_natCast, Int.cast_ofNat_Int, Int.natCast_one, Nat.reduceMod, Nat.reduceDiv, UInt8.reduceToNat, Nat.reduceLT, c57, hx, h]
      simp; omega
  · have hx : decide (a.head? = some c) = false := by simpa using h
    simp (config := {contextual := true, implicitDefEqProofs := false, maxSteps := 4000000}) only [go_sem, ↓reduceIte, Bool.false_eq_true, Nat.reduceEqDiff, Nat.reduceAdd, Int.reduceLE, Int.reduceLT, Int.reduceEq, Int.reduceToNat, Int.toNat_natCast, Int.cast_ofNat_Int, Int.natCast_one, Nat.reduceMod, Nat.reduceDiv, UInt8.reduceToNat, Nat.reduceLT, c57, hx, h]
theorem c37 (a : List UInt8) (c : UInt8) (s : St) (K : AV → St → Prop) : CallW cx 37 [.str a, .str [c]] s K = K (.tuple [.str (if a.head? = some c then a.tail else a), .bool (decide (a.head? = some c))]) s := by
  refine CallW.eq (CallW.fn' (fn := ir37) rfl rfl (by kernel_rfl) ir37.eq_1 ?_) K
  simp (config := {contextual := true, implicitDefEqProofs := false, maxSteps := 4000000}) only [go_sem, ↓reduceIte, Bool.false_eq_true, Nat.reduceEqDiff, Nat.reduceAdd, Int.reduceLE, Int.reduceLT, Int.reduceEq, Int.reduceToNat, Int.toNat_natCast, Int.cast_ofNat_Int, Int.natCast_one, Nat.reduceMod, Nat.reduceDiv, UInt8.reduceToNat, Nat.reduceLT, c47, List.getElem?_cons_zero, List.getElem?_cons_succ]
/-- A text without the bytes at its end that meet p. -/
def trimR (p : UInt8 → Bool) (a : List UInt8) : List UInt8 := (a.reverse.dropWhile p).reverse
theorem trimR_nil (p : UInt8 → Bool) : trimR p [] = [] := rfl
theorem trimR_snoc (p : UInt8 → Bool) (a : List UInt8) (b : UInt8) : trimR p (a ++ [b]) = if p b then trimR p a else a ++ [b] := by
  unfold trimR; rw [List.reverse_append, List.reverse_singleton, List.singleton_append, List.dropWhile_cons]
  split
  · rfl
  · simp
theorem last_at (a : List UInt8) (b : UInt8) : (a ++ [b]).getD a.length 0 = b := by simp [List.getD]
theorem take_last (a : List UInt8) (b : UInt8) : (a ++ [b]).take a.length = a := by simp
theorem wrap_pred {i : Nat} (h : i < 9223372036854775807) : IntKind.i64.wrap (((i + 1 : Nat) : Int) - 1) = (i : Int) := by rw [wrap_i64 (by omega) (by omega)]; omega
theorem l51 (c : UInt8) (st : St) (Q : Sig → FE → St → Prop) : ∀ (n : Nat) (a : List UInt8) (e : FE), a.length = n → a.length ≤ 4611686018427387904 → e 0 = .str a → e 1 = .int .u8 c.toNat →
    (∀ e', e' 0 = .str (trimR (fun b => decide (b = c)) a) → Q (.exit 0) e' st) → WLoop cx ir51L0 e st Q
  | 0, a, e, hn, hl, h0, h1, hQ => by
    refine WLoop.rnd (c := _) ir51L0.eq_1 ?_
    have ha : a = [] := List.length_eq_zero_iff.1 hn
    subst ha
    simp (config := {contextual := true, implicitDefEqProofs := false, maxSteps := 4000000}) only [go_sem, ↓reduceIte, Bool.false_eq_true, Nat.reduceEqDiff, Nat.reduceAdd, Int.reduceLE, Int.reduceLT, Int.reduceEq, Int.reduceToNat, Int.toNat_natCast, Int.cast_ofNat_Int, Int.natCast_one, Nat.reduceMod, Nat.reduceDiv, UInt8.reduceToNat, Nat.reduceLT, h0, h1]
    exact hQ _ h0
  | n + 1, a, e, hn, hl, h0, h1, hQ => by
    refine WLoop.rnd (c := _) ir51L0.eq_1 ?_
    obtain ⟨b, x, rfl⟩ : ∃ b x, a = b ++ [x] := by
      rcases List.eq_nil_or_concat a with rfl | ⟨b, x, rfl⟩
      · simp at hn
      · exact ⟨b, x, by simp⟩
    have hlen : (b ++ [x]).length = b.length + 1 := by simp
    have d1 : decide ((0 : Int) < ((b.length + 1 : Nat) : Int)) = true := decide_eq_true (by omega)
    have w1 := wrap_pred (i := b.length) (by rw [hlen] at hl; omega)
    have b1 : (0 : Int) ≤ (b.length : Int) := by omega
    have b2 : (b.length : Int) < ((b.length + 1 : Nat) : Int) := by omega
    have b3 : (b.length : Int) ≤ ((b.length + 1 : Nat) : Int) := by omega
    rw [trimR_snoc] at hQ
    by_cases hx : x = c
    · have d2 : decide (((x.toNat : Nat) : Int) = ((c.toNat : Nat) : Int)) = true := by rw [hx]; simp
      rw [if_pos (by simpa using hx)] at hQ
      simp (config := {contextual := true, implicitDefEqProofs := false, maxSteps := 4000000}) only [go_sem, ↓reduceIte, Bool.false_eq_true, Nat.reduceEqDiff, Nat.reduceAdd, Int.reduceLE, Int.reduceLT, Int.reduceEq, Int.reduceToNat, Int.toNat_natCast, Int.cast_ofNat_Int, Int.natCast_one, Nat.reduceMod, Nat.reduceDiv, UInt8.reduceToNat, Nat.reduceLT, h0, h1, hlen, d1, w1, b1, b2, b3, last_at, d2, take_last]
      exact l51 c st Q n b _ (by rw [hlen] at hn; omega) (by rw [hlen] at hl; omega) rfl h1 hQ
    · have d2 : decide (((x.toNat : Nat) : Int) = ((c.toNat : Nat) : Int)) = false := by
        simp only [decide_eq_false_iff_not]; intro h; exact hx (byte_eq h)
      rw [if_neg (by simpa using hx)] at hQ
      simp (config := {contextual := true, implicitDefEqProofs := false, maxSteps := 4000000}) only [go_sem, ↓reduceIte, Bool.false_eq_true, Nat.reduceEqDiff, Nat.reduceAdd, Int.reduceLE, Int.reduceLT, Int.reduceEq, Int.reduceToNat, Int.toNat_natCast, Int.cast_ofNat_Int, Int.natCast_one, Nat.reduceMod, Nat.reduceDiv, UInt8.reduceToNat, Nat.reduceLT, h0, h1, hlen, d1, w1, b1, b2, b3, last_at, d2, take_last]
      exact hQ _ h0
theorem c51 (a : List UInt8) (ha : a.length ≤ 4611686018427387904) (c : UInt8) (s : St) (K : AV → St → Prop) : CallW cx 51 [.str a, .int .u8 c.toNat] s K = K (.str (trimR (fun b => decide (b = c)) a)) s := by
  refine CallW.eq (CallW.fn' (fn := ir51) rfl rfl (by kernel_rfl) ir51.eq_1 ?_) K
  simp (config := {contextual := true, implicitDefEqProofs := false, maxSteps := 4000000}) only [go_sem, ↓reduceIte, Bool.false_eq_true, Nat.reduceEqDiff, Nat.reduceAdd, Int.reduceLE, Int.reduceLT, Int.reduceEq, Int.reduceToNat, Int.toNat_natCast, Int.cast_ofNat_Int, Int.natCast_one, Nat.reduceMod, Nat.reduceDiv, UInt8.reduceToNat, Nat.reduceLT]
  refine l51 c _ _ _ a _ rfl ha rfl rfl ?_
  intro e' h
  simp (config := {contextual := true, implicitDefEqProofs := false, maxSteps := 4000000}) only [go_sem, ↓reduceIte, Bool.false_eq_true, Nat.reduceEqDiff, Nat.reduceAdd, Int.reduceLE, Int.reduceLT, Int.reduceEq, Int.reduceToNat, Int.toNat_natCast, Int.cast_ofNat_Int, Int.natCast_one, Nat.reduceMod, Nat.reduceDiv, UInt8.reduceToNat, Nat.reduceLT, h]
theorem c42 (a : List UInt8) (ha : a.length ≤ 4611686018427387904) (c : UInt8) (hc : c.toNat < 128) (s : St) (K : AV → St → Prop) : CallW cx 42 [.str a, .str [c]] s K = K (.str (trimR (fun b => decide (b = c)) a)) s := by
  refine CallW.eq (CallW.fn' (fn := ir42) rfl rfl (by kernel_rfl) ir42.eq_1 ?_) K
  have k := fun st K => c51 a ha c st K
  have d1 : decide (((c.toNat : Nat) : Int) < 128) = true := by simp; omega
  by_cases h : a = []
  · subst h
    simp (config := {contextual := true, implicitDefEqProofs := false, maxSteps := 4000000}) only [go_sem, ↓reduceIte, Bool.false_eq_true, Nat.reduceEqDiff, Nat.reduceAdd, Int.reduceLE, Int.reduceLT, Int.reduceEq, Int.reduceToNat, Int.toNat_natCast, Int.cast_ofNat_Int, Int.natCast_one, Nat.reduceMod, Nat.reduceDiv, UInt8.reduceToNat, Nat.reduceLT, decide_eq_true (Eq.refl ([] : List UInt8)), trimR_nil]
  · have d2 : decide (a = []) = false := by simpa using h
    have d3 : decide ([c] = []) = false := by simp
    simp (config := {contextual := true, implicitDefEqProofs := false, maxSteps := 4000000}) only [go_sem, ↓reduceIte, Bool.false_eq_true, Nat.reduceEqDiff, Nat.reduceAdd, Int.reduceLE, Int.reduceLT, Int.reduceEq, Int.reduceToNat, Int.toNat_natCast, Int.cast_ofNat_Int, Int.natCast_one, Nat.reduceMod, Nat.reduceDiv, UInt8.reduceToNat, Nat.reduceLT, k, d1, d2, d3]
end T01
