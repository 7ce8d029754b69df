/- Parts of the proof, one behind the other. -/
import Derived.Test.YtljlkedecdgimaaDoorK07d
import Derived.Test.YtljlkedecdgimaaDoorFwX
set_option linter.unusedSimpArgs false
set_option linter.unusedVariables false
/- Strings of the library: the search for a byte, Cut, CutPrefix, Trim and TrimRight at a byte. -/
namespace T07
open Go Fw Go.Proofs
set_option maxRecDepth 100000
set_option linter.unusedSimpArgs false
set_option linter.unusedVariables false
theorem drop_at {a : List UInt8} {i : Nat} (h : i < a.length) : a.drop i = a.getD i 0 :: a.drop (i + 1) := by
  rw [List.drop_eq_getElem_cons h]; simp [List.getD, h]
theorem wrap_one {i : Nat} (h : i < 9223372036854775807) : IntKind.i64.wrap ((i : Int) + 1) = ((i + 1 : Nat) : Int) := by rw [wrap_i64 (by omega) (by omega)]; rfl
theorem byte_eq {c : UInt8} {n : UInt8} (h : (c.toNat : Int) = (n.toNat : Int)) : c = n := UInt8.toNat.inj (by omega)
theorem findByte_spec (c : UInt8) : ∀ (l : List UInt8) (i : Nat), findByte c l i = -1 ∨ ∃ j : Nat, findByte c l i = (j : Int) ∧ i ≤ j ∧ j < i + l.length
  | [], i => .inl rfl
  | b :: l, i => by
    simp only [findByte]
    by_cases h : b = c
    · rw [if_pos h]; exact .inr ⟨i, rfl, Nat.le_refl _, by simp⟩
    · rw [if_neg h]
      rcases findByte_spec c l (i + 1) with h1 | ⟨j, h1, h2, h3⟩
      · exact .inl h1
      · exact .inr ⟨j, h1, by omega, by simp at h3 ⊢; omega⟩
theorem c56 (a : List UInt8) (c : Int) (s : St) (K : AV → St → Prop) : CallW cx 56 [.str a, .int .u8 c] s K = K (.int .i64 (findByte c.toNat.toUInt8 a 0)) s :=
  CallW.eq (CallW.ext (g := xIndexByte) rfl (by simp only [xIndexByte, oget_some, and_self])) K
theorem c43 (a : List UInt8) (c : Int) (s : St) (K : AV → St → Prop) : CallW cx 43 [.str a, .int .u8 c] s K = K (.int .i64 (findByte c.toNat.toUInt8 a 0)) s := by
  refine CallW.eq (CallW.fn' (fn := ir43) rfl rfl (by kernel_rfl) ir43.eq_1 ?_) K
  simp (config := {contextual := true, implicitDefEqProofs := false, maxSteps := 4000000}) only [go_sem, ↓reduceIte, Bool.false_eq_true, Nat.reduceEqDiff, Nat.reduceAdd, Int.reduceLE, Int.reduceLT, Int.reduceEq, Int.reduceToNat, Int.toNat_natCast, Int.cast_ofNat_Int, Int.natCast_one, Nat.reduceMod, Nat.reduceDiv, UInt8.reduceToNat, Nat.reduceLT, c56]
theorem u8_back (c : UInt8) : ((c.toNat : Int).toNat).toUInt8 = c := by simp
theorem c55 (a : List UInt8) (c : UInt8) (s : St) (K : AV → St → Prop) : CallW cx 55 [.str a, .str [c]] s K = K (.int .i64 (findByte c a 0)) s := by
  refine CallW.eq (CallW.fn' (fn := ir55) rfl rfl (by kernel_rfl) ir55.eq_1 ?_) K
  by_cases ha : [c] = a
  · have hx : decide ([c] = a) = true := by simp [ha]
    simp (config := {contextual := true, implicitDefEqProofs := false, maxSteps := 4000000}) only [go_sem, ↓reduceIte, Bool.false_eq_true, Nat.reduceEqDiff, Nat.reduceAdd, Int.reduceLE, Int.reduceLT, Int.reduceEq, Int.reduceToNat, Int.toNat_natCast, Int.cast_ofNat_Int, Int.natCast_one, Nat.reduceMod, Nat.reduceDiv, UInt8.reduceToNat, Nat.reduceLT, c43, hx, u8_back, Int.toNat_natCast, UInt8.ofNat_toNat, Nat.toUInt8_eq]
    subst ha; simp [findByte]
  · have hx : decide ([c] = a) = false := by simp [ha]
    simp (config := {contextual := true, implicitDefEqProofs := false, maxSteps := 4000000}) only [go_sem, ↓reduceIte, Bool.false_eq_true, Nat.reduceEqDiff, Nat.reduceAdd, Int.reduceLE, Int.reduceLT, Int.reduceEq, Int.reduceToNat, Int.toNat_natCast, Int.cast_ofNat_Int, Int.natCast_one, Nat.reduceMod, Nat.reduceDiv, UInt8.reduceToNat, Nat.reduceLT, c43, hx, u8_back, Int.toNat_natCast, UInt8.ofNat_toNat, Nat.toUInt8_eq]
/-- Where a byte stands first: what stands ahead of it and behind it. -/
def cutB (c : UInt8) (a : List UInt8) : List UInt8 × List UInt8 × Bool := match findByte c a 0 with
  | .ofNat j => (a.take j, a.drop (j + 1), true)
  | .negSucc _ => (a, [], false)
theorem c40 (a : List UInt8) (ha : a.length ≤ 4611686018427387904) (c : UInt8) (s : St) (K : AV → St → Prop) : CallW cx 40 [.str a, .str [c]] s K = K (.tuple [.str (cutB c a).1, .str (cutB c a).2.1, .bool (cutB c a).2.2]) s := by
  refine CallW.eq (CallW.fn' (fn := ir40) rfl rfl (by kernel_rfl) ir40.eq_1 ?_) K
  rcases findByte_spec c a 0 with h | ⟨j, h, _, hj⟩
  · simp (config := {contextual := true, implicitDefEqProofs := false, maxSteps := 4000000}) only [go_sem, ↓reduceIte, Bool.false_eq_true, Nat.reduceEqDiff, Nat.reduceAdd, Int.reduceLE, Int.reduceLT, Int.reduceEq, Int.reduceToNat, Int.toNat_natCast, Int.cast_ofNat_Int, Int.natCast_one, Nat.reduceMod, Nat.reduceDiv, UInt8.reduceToNat, Nat.reduceLT, c55, h]
    unfold cutB; rw [h]; rfl
  · have hx : decide (0 ≤ (j : Int)) = true := by simp
    have hw := wrap_one (i := j) (by omega)
    have e : cutB c a = (a.take j, a.drop (j + 1), true) := by unfold cutB; rw [h]
    simp (config := {contextual := true, implicitDefEqProofs := false, maxSteps := 4000000}) only [go_sem, ↓reduceIte, Bool.false_eq_true, Nat.reduceEqDiff, Nat.reduceAdd, Int.reduceLE, Int.reduceLT, Int.reduceEq, Int.reduceToNat, Int.toNat_natCast, Int.cast_ofNat_Int, Int.natCast_one, Nat.reduceMod, Nat.reduceDiv, UInt8.reduceToNat, Nat.reduceLT, c55, hx, h, hw, e]
    omega
theorem c25 (a : List UInt8) (ha : a.length ≤ 4611686018427387904) (c : UInt8) (s : St) (K : AV → St → Prop) : CallW cx 25 [.str a, .str [c]] s K = K (.tuple [.str (cutB c a).1, .str (cutB c a).2.1, .bool (cutB c a).2.2]) s := by
  refine CallW.eq (CallW.fn' (fn := ir25) rfl rfl (by kernel_rfl) ir25.eq_1 ?_) K
  have k := fun st K => c40 a ha c st K
  simp (config := {contextual := true, implicitDefEqProofs := false, maxSteps := 4000000}) only [go_sem, ↓reduceIte, Bool.false_eq_true, Nat.reduceEqDiff, Nat.reduceAdd, Int.reduceLE, Int.reduceLT, Int.reduceEq, Int.reduceToNat, Int.toNat_natCast, Int.cast_ofNat_Int, Int.natCast_one, Nat.reduceMod, Nat.reduceDiv, UInt8.reduceToNat, Nat.reduceLT, k, List.getElem?_cons_zero, List.getElem?_cons_succ]
theorem c89 (a : List UInt8) (c : UInt8) (s : St) (K : AV → St → Prop) : CallW cx 89 [.str a, .str [c]] s K = K (.bool (decide (a.head? = some c))) s := by
  refine CallW.eq (CallW.fn' (fn := ir89) rfl rfl (by kernel_rfl) ir89.eq_1 ?_) K
  cases a with
  | nil => simp (config := {contextual := true, implicitDefEqProofs := false, maxSteps := 4000000}) only [go_sem, ↓reduceIte, Bool.false_eq_true, Nat.reduceEqDiff, Nat.reduceAdd, Int.reduceLE, Int.reduceLT, Int.reduceEq, Int.reduceToNat, Int.toNat_natCast, Int.cast_ofNat_Int, Int.natCast_one, Nat.reduceMod, Nat.reduceDiv, UInt8.reduceToNat, Nat.reduceLT]; simp
  | cons b a =>
    have hx : decide ((1 : Int) ≤ (((b :: a).length : Nat) : Int)) = true := by simp; omega
    rw [List.length_cons] at hx
    simp (config := {contextual := true, implicitDefEqProofs := false, maxSteps := 4000000}) only [go_sem, ↓reduceIte, Bool.false_eq_true, Nat.reduceEqDiff, Nat.reduceAdd, Int.reduceLE, Int.reduceLT, Int.reduceEq, Int.reduceToNat, Int.toNat_natCast, Int.cast_ofNat_Int, Int.natCast_one, Nat.reduceMod, Nat.reduceDiv, UInt8.reduceToNat, Nat.reduceLT, hx]
    simp
    omega
theorem c77 (a : List UInt8) (c : UInt8) (s : St) (K : AV → St → Prop) : CallW cx 77 [.str a, .str [c]] s K = K (.tuple [.str (if a.head? = some c then a.tail else a), .bool (decide (a.head? = some c))]) s := by
  refine CallW.eq (CallW.fn' (fn := ir77) rfl rfl (by kernel_rfl) ir77.eq_1 ?_) K
  by_cases h : a.head? = some c
  · cases a with
    | nil => simp at h
    | cons b a =>
      have hx : decide ((b :: a).head? = some c) = true := by simpa using h
      simp (config := {contextual := true, implicitDefEqProofs := false, maxSteps := 4000000}) only [go_sem, ↓reduceIte, Bool.false_eq_true, Nat.reduceEqDiff, Nat.reduceAdd, Int.reduceLE, Int.reduceLT, Int.reduceEq, Int.reduceToNat, Int.toNat_natCast, Int.cast_ofNat_Int, Int.natCast_one, Nat.reduceMod, Nat.reduceDiv, UInt8.reduceToNat, Nat.reduceLT, c89, hx, h]
      simp; omega
  · have hx : decide (a.head? = some c) = false := by simpa using h
    simp (config := {contextual := true, implicitDefEqProofs := false, maxSteps := 4000000}) only [go_sem, ↓reduceIte, Bool.false_eq_true, Nat.reduceEqDiff, Nat.reduceAdd, Int.reduceLE, Int.reduceLT, Int.reduceEq, Int.reduceToNat, Int.toNat_natCast, Int.cast_ofNat_Int, Int.natCast_one, Nat.reduceMod, Nat.reduceDiv, UInt8.reduceToNat, Nat.reduceLT, c89, hx, h]
theorem c60 (a : List UInt8) (c : UInt8) (s : St) (K : AV → St → Prop) : CallW cx 60 [.str a, .str [c]] s K = K (.tuple [.str (if a.head? = some c then a.tail else a), .bool (decide (a.head? = some c))]) s := by
  refine CallW.eq (CallW.fn' (fn := ir60) rfl rfl (by kernel_rfl) ir60.eq_1 ?_) K
  simp (config := {contextual := true, implicitDefEqProofs := false, maxSteps := 4000000}) only [go_sem, ↓reduceIte, Bool.false_eq_true, Nat.reduceEqDiff, Nat.reduceAdd, Int.reduceLE, Int.reduceLT, Int.reduceEq, Int.reduceToNat, Int.toNat_natCast, Int.cast_ofNat_Int, Int.natCast_one, Nat.reduceMod, Nat.reduceDiv, UInt8.reduceToNat, Nat.reduceLT, c77, List.getElem?_cons_zero, List.getElem?_cons_succ]
end T07

/- strings.Split at a byte. -/
namespace T07
open Go Fw Go.Proofs
set_option maxRecDepth 100000
set_option maxHeartbeats 4000000
set_option linter.unusedSimpArgs false
set_option linter.unusedVariables false
theorem c72 (a : List UInt8) (c : UInt8) (s : St) (K : AV → St → Prop) : CallW cx 72 [.str a, .int .u8 c.toNat] s K = K (.int .i64 ((a.count c : Nat) : Int)) s :=
  CallW.eq (CallW.ext (g := xCount) rfl (by simp only [xCount, oget_some, u8_back, and_self])) K
theorem c54 (a : List UInt8) (c : UInt8) (s : St) (K : AV → St → Prop) : CallW cx 54 [.str a, .str [c]] s K = K (.int .i64 ((a.count c : Nat) : Int)) s := by
  refine CallW.eq (CallW.fn' (fn := ir54) rfl rfl (by kernel_rfl) ir54.eq_1 ?_) K
  simp (config := {contextual := true, implicitDefEqProofs := false, maxSteps := 4000000}) only [go_sem, ↓reduceIte, Bool.false_eq_true, Nat.reduceEqDiff, Nat.reduceAdd, Int.reduceLE, Int.reduceLT, Int.reduceEq, Int.reduceToNat, Int.toNat_natCast, Int.cast_ofNat_Int, Int.natCast_one, Nat.reduceMod, Nat.reduceDiv, UInt8.reduceToNat, Nat.reduceLT, c72]
theorem c42 (a : List UInt8) (c : UInt8) (s : St) (K : AV → St → Prop) : CallW cx 42 [.str a, .str [c]] s K = K (.int .i64 (findByte c a 0)) s := by
  refine CallW.eq (CallW.fn' (fn := ir42) rfl rfl (by kernel_rfl) ir42.eq_1 ?_) K
  simp (config := {contextual := true, implicitDefEqProofs := false, maxSteps := 4000000}) only [go_sem, ↓reduceIte, Bool.false_eq_true, Nat.reduceEqDiff, Nat.reduceAdd, Int.reduceLE, Int.reduceLT, Int.reduceEq, Int.reduceToNat, Int.toNat_natCast, Int.cast_ofNat_Int, Int.natCast_one, Nat.reduceMod, Nat.reduceDiv, UInt8.reduceToNat, Nat.reduceLT, c55]
/-- The parts of a text between a byte. -/
def splitB (c : UInt8) : List UInt8 → List (List UInt8)
  | [] => [[]]
  | b :: l => if b = c then [] :: splitB c l else match splitB c l with
    | x :: xs => (b :: x) :: xs
    | [] => [[b]]
theorem splitB_ne (c : UInt8) : ∀ l, splitB c l ≠ []
  | [] => by simp [splitB]
  | b :: l => by
    simp only [splitB]
    split
    · simp
    · split <;> simp
theorem splitB_len (c : UInt8) : ∀ l, (splitB c l).length = l.count c + 1
  | [] => rfl
  | b :: l => by
    have ih := splitB_len c l
    simp only [splitB, List.count_cons]
    by_cases h : b = c
    · rw [if_pos h]; simp [h, ih]
    · rw [if_neg h]
      cases hs : splitB c l with
      | nil => exact absurd hs (splitB_ne c l)
      | cons x xs => rw [hs] at ih; simp [h] at ih ⊢; omega
theorem find_sh (c : UInt8) : ∀ (l : List UInt8) (i k : Nat), (findByte c l i = -1 ∧ findByte c l k = -1) ∨ ∃ j : Nat, findByte c l i = ((i + j : Nat) : Int) ∧ findByte c l k = ((k + j : Nat) : Int) ∧ j < l.length
  | [], i, k => .inl ⟨rfl, rfl⟩
  | b :: l, i, k => by
    simp only [findByte]
    by_cases h : b = c
    · rw [if_pos h, if_pos h]; exact .inr ⟨0, rfl, rfl, by simp⟩
    · rw [if_neg h, if_neg h]
      rcases find_sh c l (i + 1) (k + 1) with h1 | ⟨j, h1, h2, h3⟩
      · exact .inl h1
      · exact .inr ⟨j + 1, by rw [h1]; congr 1; omega, by rw [h2]; congr 1; omega, by simp; omega⟩
theorem split_none (c : UInt8) : ∀ l : List UInt8, findByte c l 0 = -1 → splitB c l = [l] ∧ l.count c = 0
  | [], _ => ⟨rfl, rfl⟩
  | b :: l, h => by
    simp only [findByte] at h
    by_cases hb : b = c
    · rw [if_pos hb] at h; omega
    · rw [if_neg hb] at h
      have h2 : findByte c l 0 = -1 := by
        rcases find_sh c l 0 (0 + 1) with h1 | ⟨j, h1, h2, _⟩
        · exact h1.1
        · omega
      obtain ⟨h3, h4⟩ := split_none c l h2
      refine ⟨?_, ?_⟩
      · simp only [splitB, h3, if_neg hb]
      · rw [List.count_cons, h4]; simp [hb]
theorem split_some (c : UInt8) : ∀ (l : List UInt8) (j : Nat), findByte c l 0 = (j : Int) → splitB c l = l.take j :: splitB c (l.drop (j + 1)) ∧ l.count c = (l.drop (j + 1)).count c + 1 ∧ j < l.length
  | [], j, h => by simp only [findByte] at h; omega
  | b :: l, j, h => by
    simp only [findByte] at h
    by_cases hb : b = c
    · rw [if_pos hb] at h
      have : j = 0 := by omega
      subst this
      simp [splitB, hb]
    · rw [if_neg hb] at h
      rcases find_sh c l 0 (0 + 1) with h1 | ⟨k, h1, h2, hk⟩
      · omega
      · have : j = k + 1 := by omega
        subst this
        obtain ⟨h3, h4, h5⟩ := split_some c l k (by rw [h1, Nat.zero_add])
        refine ⟨?_, ?_, ?_⟩
        · simp only [splitB, h3, if_neg hb, List.take_succ_cons, List.drop_succ_cons]
        · rw [List.count_cons, h4, List.drop_succ_cons]; simp [hb]
        · simp only [List.length_cons]; omega
def encS (l : List (List UInt8)) : List AV := l.map AV.str
theorem encS_length (l : List (List UInt8)) : (encS l).length = l.length := by simp [encS]
theorem patch_next (ds : List (List UInt8)) (k : Nat) (v : List UInt8) : patch (encS ds ++ List.replicate (k + 1) (.str [])) ds.length [.str v] = some (encS (ds ++ [v]) ++ List.replicate k (.str [])) := by
  unfold patch
  rw [if_pos (by simp [encS]), List.take_left' (encS_length ds), List.replicate_succ]
  have : (encS ds ++ AV.str [] :: List.replicate k (.str [])).drop (ds.length + [AV.str v].length) = List.replicate k (.str []) := by
    rw [← List.drop_drop, List.drop_left' (encS_length ds)]; rfl
  rw [this]
  simp [encS]
theorem flat_one (n : Nat) (v : AV) : (List.replicate n [v]).flatten = List.replicate n v := by
  induction n with
  | zero => rfl
  | succ n ih => rw [List.replicate_succ, List.flatten_cons, ih]; rfl
theorem l39 (c : UInt8) (N : Nat) (h : List (Nat × AObj)) (tot : Nat) (htot : tot ≤ 1000000) (Q : Sig → FE → St → Prop) : ∀ (k : Nat) (a : List UInt8) (ds : List (List UInt8)) (e : FE), a.count c = k → ds.length + k = tot → a.length ≤ 1000000 →
    e 0 = .str a → e 1 = .str [c] → e 2 = .int .i64 0 → e 3 = .int .i64 (tot : Int) → e 9 = .mslice N 0 (tot + 1) (some (tot + 1)) → e 10 = .int .i64 (ds.length : Int) →
    (∀ e' (i : List (List UInt8)) (z : List UInt8), ds ++ splitB c a = i ++ [z] → i.length = tot → e' 0 = .str z → e' 9 = .mslice N 0 (tot + 1) (some (tot + 1)) → e' 10 = .int .i64 (tot : Int) → Q (.exit 0) e' { heap := (N, .cells none (encS i ++ List.replicate 1 (.str []))) :: h, next := N + 1, low := N }) →
    WLoop cx ir39L0 e { heap := (N, .cells none (encS ds ++ List.replicate (k + 1) (.str []))) :: h, next := N + 1, low := N } Q
  | 0, a, ds, e, hk, hds, hl, h0, h1, h2, h3, h9, h10, hQ => by
    refine WLoop.rnd (c := _) ir39L0.eq_1 ?_
    have hd : decide ((ds.length : Int) < (tot : Int)) = false := decide_eq_false (by omega)
    have hno : findByte c a 0 = -1 := by
      rcases findByte_spec c a 0 with h1 | ⟨j, h1, _, _⟩
      · exact h1
      · have := (split_some c a j h1).2.1; omega
    rw [(split_none c a hno).1] at hQ
    simp (config := {contextual := true, implicitDefEqProofs := false, maxSteps := 4000000}) only [go_sem, ↓reduceIte, Bool.false_eq_true, Nat.reduceEqDiff, Nat.reduceAdd, Int.reduceLE, Int.reduceLT, Int.reduceEq, Int.reduceToNat, Int.toNat_natCast, Int.cast_ofNat_Int, Int.natCast_one, Nat.reduceMod, Nat.reduceDiv, UInt8.reduceToNat, Nat.reduceLT, h3, h10, hd]
    exact hQ _ ds a rfl (by omega) h0 h9 (h10.trans (by congr 2))
  | k + 1, a, ds, e, hk, hds, hl, h0, h1, h2, h3, h9, h10, hQ => by
    refine WLoop.rnd (c := _) ir39L0.eq_1 ?_
    have hd : decide ((ds.length : Int) < (tot : Int)) = true := decide_eq_true (by omega)
    obtain ⟨j, hj⟩ : ∃ j : Nat, findByte c a 0 = (j : Int) := by
      rcases findByte_spec c a 0 with h1 | ⟨j, h1, _, _⟩
      · have := (split_none c a h1).2; omega
      · exact ⟨j, h1⟩
    obtain ⟨g1, g2, g3⟩ := split_some c a j hj
    have d2 : decide ((j : Int) < 0) = false := decide_eq_false (by omega)
    have w1 : IntKind.i64.wrap ((j : Int) + 0) = (j : Int) := by rw [Int.add_zero, wrap_i64 (by omega) (by omega)]
    have w2 := wrap_one (i := j) (by omega)
    have w3 := wrap_one (i := ds.length) (by omega)
    have b1 : (0 : Int) ≤ (j : Int) ∧ (j : Int) ≤ (a.length : Int) := by omega
    have b2 : (0 : Int) ≤ ((j + 1 : Nat) : Int) ∧ ((j + 1 : Nat) : Int) ≤ (a.length : Int) := by omega
    have b3 : (0 : Int) ≤ (ds.length : Int) ∧ (ds.length : Int) < ((tot + 1 : Nat) : Int) := by omega
    have hmin : min N N = N := Nat.min_self N
    rw [g1] at hQ
    simp (config := {contextual := true, implicitDefEqProofs := false, maxSteps := 4000000}) only [go_sem, ↓reduceIte, Bool.false_eq_true, Nat.reduceEqDiff, Nat.reduceAdd, Int.reduceLE, Int.reduceLT, Int.reduceEq, Int.reduceToNat, Int.toNat_natCast, Int.cast_ofNat_Int, Int.natCast_one, Nat.reduceMod, Nat.reduceDiv, UInt8.reduceToNat, Nat.reduceLT, h0, h1, h2, h3, h9, h10, hd, c42, hj, d2, w1, w2, w3, b1, b2, b3, Nat_mul_one, patch_next, hmin]
    have ih := l39 c N h tot htot Q k (a.drop (j + 1)) (ds ++ [a.take j])
    rw [List.length_append, List.length_cons, List.length_nil] at ih
    refine ih _ (by omega) (by omega) (by rw [List.length_drop]; omega) rfl h1 h2 h3 h9 rfl ?_
    intro e' i z hi hil
    exact hQ e' i z (by rw [← hi]; simp) hil
/-- Split lays a row of the parts. -/
theorem c39 (a : List UInt8) (c : UInt8) (ha : a.length ≤ 900000) (s : St) (K : AV → St → Prop) : CallW cx 39 [.str a, .str [c], .int .i64 0, .int .i64 (-1)] s K =
    K (.mslice s.next 0 (a.count c + 1) (some (a.count c + 1))) { heap := (s.next, .cells none (encS (splitB c a))) :: s.heap, next := s.next + 1, low := min s.low s.next } := by
  refine CallW.eq (CallW.fn' (fn := ir39) rfl rfl (by kernel_rfl) ir39.eq_1 ?_) K
  have hcl : a.count c ≤ a.length := List.count_le_length
  have d1 : decide ([c] = []) = false := by simp
  have w1 := wrap_one (i := a.count c) (by omega)
  have w2 := wrap_one (i := a.length) (by omega)
  have m1 : min ((a.count c + 1 : Nat) : Int) ((a.length + 1 : Nat) : Int) = ((a.count c + 1 : Nat) : Int) := by omega
  have w3 : IntKind.i64.wrap (((a.count c + 1 : Nat) : Int) - 1) = (a.count c : Int) := by rw [wrap_i64 (by omega) (by omega)]; omega
  have mk : ∀ st : St, mkslA st 16 [.str []] (.int .i64 ((a.count c + 1 : Nat) : Int)) (.int .i64 ((a.count c + 1 : Nat) : Int)) = some (.mslice st.next 0 (a.count c + 1) (some (a.count c + 1)), { heap := (st.next, .cells none (List.replicate (a.count c + 1) (.str []))) :: st.heap, next := st.next + 1, low := st.low }) := by
    intro st
    unfold mkslA
    simp only
    rw [if_pos ⟨by omega, Int.le_refl _, by rw [Int.toNat_natCast]; exact Nat.le_trans (show (a.count c + 1) * 16 ≤ 20000000 by omega) (by decide)⟩, Int.toNat_natCast, flat_one]
    rfl
  simp (config := {contextual := true, implicitDefEqProofs := false, maxSteps := 4000000}) only [go_sem, ↓reduceIte, Bool.false_eq_true, Nat.reduceEqDiff, Nat.reduceAdd, Int.reduceLE, Int.reduceLT, Int.reduceEq, Int.reduceToNat, Int.toNat_natCast, Int.cast_ofNat_Int, Int.natCast_one, Nat.reduceMod, Nat.reduceDiv, UInt8.reduceToNat, Nat.reduceLT, d1, c54, w1, w2, w3, m1, mk]
  refine l39 c s.next s.heap (a.count c) (by omega) _ (a.count c) a [] _ rfl (by simp) (by omega) rfl rfl rfl rfl rfl rfl ?_
  intro e' i z hi hil h0 h9 h10
  rw [List.nil_append] at hi
  have b1 : (0 : Int) ≤ (a.count c : Int) ∧ (a.count c : Int) < ((a.count c + 1 : Nat) : Int) := by omega
  have hp : patch (encS i ++ List.replicate 1 (.str [])) (a.count c) [.str z] = some (encS (splitB c a)) := by
    rw [← hil, patch_next i 0 z, hi]; simp
  have sl : sliceA 1 (.mslice s.next 0 (a.count c + 1) (some (a.count c + 1))) none (some (.int .i64 ((a.count c + 1 : Nat) : Int))) none = some (.mslice s.next 0 (a.count c + 1) (some (a.count c + 1))) := by
    simp only [sliceA, bounds]
    rw [if_pos ⟨by omega, by omega⟩]
    simp
  have hlv : ∀ (s' : St) (K : AV → St → Prop), LeaveW s s' (.mslice s.next 0 (a.count c + 1) (some (a.count c + 1))) K = K (.mslice s.next 0 (a.count c + 1) (some (a.count c + 1))) { heap := s'.heap, next := s'.next, low := min s.low s'.low } := fun s' K => LeaveW_new rfl (by simp [AV.al, below]) K
  simp (config := {contextual := true, implicitDefEqProofs := false, maxSteps := 4000000}) only [go_sem, ↓reduceIte, Bool.false_eq_true, Nat.reduceEqDiff, Nat.reduceAdd, Int.reduceLE, Int.reduceLT, Int.reduceEq, Int.reduceToNat, Int.toNat_natCast, Int.cast_ofNat_Int, Int.natCast_one, Nat.reduceMod, Nat.reduceDiv, UInt8.reduceToNat, Nat.reduceLT, h0, h9, h10, b1, Nat_mul_one, hp, w1, sl, hlv]
theorem c23 (a : List UInt8) (c : UInt8) (ha : a.length ≤ 900000) (s : St) (K : AV → St → Prop) : CallW cx 23 [.str a, .str [c]] s K =
    K (.mslice s.next 0 (a.count c + 1) (some (a.count c + 1))) { heap := (s.next, .cells none (encS (splitB c a))) :: s.heap, next := s.next + 1, low := min s.low s.next } := by
  refine CallW.eq (CallW.fn' (fn := ir23) rfl rfl (by kernel_rfl) ir23.eq_1 ?_) K
  have k := fun st K => c39 a c ha st K
  have hlv : ∀ (s' : St) (K : AV → St → Prop), LeaveW s s' (.mslice s.next 0 (a.count c + 1) (some (a.count c + 1))) K = K (.mslice s.next 0 (a.count c + 1) (some (a.count c + 1))) { heap := s'.heap, next := s'.next, low := min s.low s'.low } := fun s' K => LeaveW_new rfl (by simp [AV.al, below]) K
  simp (config := {contextual := true, implicitDefEqProofs := false, maxSteps := 4000000}) only [go_sem, ↓reduceIte, Bool.false_eq_true, Nat.reduceEqDiff, Nat.reduceAdd, Int.reduceLE, Int.reduceLT, Int.reduceEq, Int.reduceToNat, Int.toNat_natCast, Int.cast_ofNat_Int, Int.natCast_one, Nat.reduceMod, Nat.reduceDiv, UInt8.reduceToNat, Nat.reduceLT, k, hlv]
end T07
