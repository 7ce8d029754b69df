/- Parts of the proof, one behind the other. -/
import Derived.Test.YtljlkedecdgimaaGreatDoorK17d
import Derived.Test.YtljlkedecdgimaaGreatDoorFwX
set_option linter.unusedSimpArgs false
set_option linter.unusedVariables false
/- Strings of the library: the search for a byte, Cut, CutPrefix, Trim and TrimRight at a byte. -/
namespace T17
open Go Fw Go.Proofs
set_option maxRecDepth 100000
set_option linter.unusedSimpArgs false
set_option linter.unusedVariables false
theorem drop_at {a : List UInt8} {i : Nat} (h : i < a.length) : a.drop i = a.getD i 0 :: a.drop (i + 1) := by
  rw [List.drop_eq_getElem_cons h]; simp [List.getD, h]
theorem wrap_one {i : Nat} (h : i < 9223372036854775807) : IntKind.i64.wrap ((i : Int) + 1) = ((i + 1 : Nat) : Int) := by rw [wrap_i64 (by omega) (by omega)]; rfl
theorem byte_eq {c : UInt8} {n : UInt8} (h : (c.toNat : Int) = (n.toNat : Int)) : c = n := UInt8.toNat.inj (by omega)
theorem findByte_spec (c : UInt8) : ∀ (l : List UInt8) (i : Nat), findByte c l i = -1 ∨ ∃ j : Nat, findByte c l i = (j : Int) ∧ i ≤ j ∧ j < i + l.length
  | [], i => .inl rfl
  | b :: l, i => by
    simp only [findByte]
    by_cases h : b = c
    · rw [if_pos h]; exact .inr ⟨i, rfl, Nat.le_refl _, by simp⟩
    · rw [if_neg h]
      rcases findByte_spec c l (i + 1) with h1 | ⟨j, h1, h2, h3⟩
      · exact .inl h1
      · exact .inr ⟨j, h1, by omega, by simp at h3 ⊢; omega⟩
theorem c73 (a : List UInt8) (c : Int) (s : St) (K : AV → St → Prop) : CallW cx 73 [.str a, .int .u8 c] s K = K (.int .i64 (findByte c.toNat.toUInt8 a 0)) s :=
  CallW.eq (CallW.ext (g := xIndexByte) rfl (by simp only [xIndexByte, oget_some, and_self])) K
theorem c62 (a : List UInt8) (c : Int) (s : St) (K : AV → St → Prop) : CallW cx 62 [.str a, .int .u8 c] s K = K (.int .i64 (findByte c.toNat.toUInt8 a 0)) s := by
  refine CallW.eq (CallW.fn' (fn := ir62) rfl rfl (by kernel_rfl) ir62.eq_1 ?_) K
  simp (config := {contextual := true, implicitDefEqProofs := false, maxSteps := 4000000}) only [go_sem, ↓reduceIte, Bool.false_eq_true, Nat.reduceEqDiff, Nat.reduceAdd, Int.reduceLE, Int.reduceLT, Int.reduceEq, Int.reduceToNat, Int.toNat_natCast, Int.cast_ofNat_Int, Int.natCast_one, Nat.reduceMod, Nat.reduceDiv, UInt8.reduceToNat, Nat.reduceLT, c73]
theorem u8_back (c : UInt8) : ((c.toNat : Int).toNat).toUInt8 = c := by simp
theorem c72 (a : List UInt8) (c : UInt8) (s : St) (K : AV → St → Prop) : CallW cx 72 [.str a, .str [c]] s K = K (.int .i64 (findByte c a 0)) s := by
  refine CallW.eq (CallW.fn' (fn := ir72) rfl rfl (by kernel_rfl) ir72.eq_1 ?_) K
  by_cases ha : [c] = a
  · have hx : decide ([c] = a) = true := by simp [ha]
    simp (config := {contextual := true, implicitDefEqProofs := false, maxSteps := 4000000}) only [go_sem, ↓reduceIte, Bool.false_eq_true, Nat.reduceEqDiff, Nat.reduceAdd, Int.reduceLE, Int.reduceLT, Int.reduceEq, Int.reduceToNat, Int.toNat_natCast, Int.cast_ofNat_Int, Int.natCast_one, Nat.reduceMod, Nat.reduceDiv, UInt8.reduceToNat, Nat.reduceLT, c62, hx, u8_back, Int.toNat_natCast, UInt8.ofNat_toNat, Nat.toUInt8_eq]
    subst ha; simp [findByte]
  · have hx : decide ([c] = a) = false := by simp [ha]
    simp (config := {contextual := true, implicitDefEqProofs := false, maxSteps := 4000000}) only [go_sem, ↓reduceIte, Bool.false_eq_true, Nat.reduceEqDiff, Nat.reduceAdd, Int.reduceLE, Int.reduceLT, Int.reduceEq, Int.reduceToNat, Int.toNat_natCast, Int.cast_ofNat_Int, Int.natCast_one, Nat.reduceMod, Nat.reduceDiv, UInt8.reduceToNat, Nat.reduceLT, c62, hx, u8_back, Int.toNat_natCast, UInt8.ofNat_toNat, Nat.toUInt8_eq]
/-- Where a byte stands first: what stands ahead of it and behind it. -/
def cutB (c : UInt8) (a : List UInt8) : List UInt8 × List UInt8 × Bool := match findByte c a 0 with
  | .ofNat j => (a.take j, a.drop (j + 1), true)
  | .negSucc _ => (a, [], false)
theorem c59 (a : List UInt8) (ha : a.length ≤ 4611686018427387904) (c : UInt8) (s : St) (K : AV → St → Prop) : CallW cx 59 [.str a, .str [c]] s K = K (.tuple [.str (cutB c a).1, .str (cutB c a).2.1, .bool (cutB c a).2.2]) s := by
  refine CallW.eq (CallW.fn' (fn := ir59) rfl rfl (by kernel_rfl) ir59.eq_1 ?_) K
  rcases findByte_spec c a 0 with h | ⟨j, h, _, hj⟩
  · simp (config := {contextual := true, implicitDefEqProofs := false, maxSteps := 4000000}) only [go_sem, ↓reduceIte, Bool.false_eq_true, Nat.reduceEqDiff, Nat.reduceAdd, Int.reduceLE, Int.reduceLT, Int.reduceEq, Int.reduceToNat, Int.toNat_natCast, Int.cast_ofNat_Int, Int.natCast_one, Nat.reduceMod, Nat.reduceDiv, UInt8.reduceToNat, Nat.reduceLT, c72, h]
    unfold cutB; rw [h]; rfl
  · have hx : decide (0 ≤ (j : Int)) = true := by simp
    have hw := wrap_one (i := j) (by omega)
    have e : cutB c a = (a.take j, a.drop (j + 1), true) := by unfold cutB; rw [h]
    simp (config := {contextual := true, implicitDefEqProofs := false, maxSteps := 4000000}) only [go_sem, ↓reduceIte, Bool.false_eq_true, Nat.reduceEqDiff, Nat.reduceAdd, Int.reduceLE, Int.reduceLT, Int.reduceEq, Int.reduceToNat, Int.toNat_natCast, Int.cast_ofNat_Int, Int.natCast_one, Nat.reduceMod, Nat.reduceDiv, UInt8.reduceToNat, Nat.reduceLT, c72, hx, h, hw, e]
    omega
theorem c35 (a : List UInt8) (ha : a.length ≤ 4611686018427387904) (c : UInt8) (s : St) (K : AV → St → Prop) : CallW cx 35 [.str a, .str [c]] s K = K (.tuple [.str (cutB c a).1, .str (cutB c a).2.1, .bool (cutB c a).2.2]) s := by
  refine CallW.eq (CallW.fn' (fn := ir35) rfl rfl (by kernel_rfl) ir35.eq_1 ?_) K
  have k := fun st K => c59 a ha c st K
  simp (config := {contextual := true, implicitDefEqProofs := false, maxSteps := 4000000}) only [go_sem, ↓reduceIte, Bool.false_eq_true, Nat.reduceEqDiff, Nat.reduceAdd, Int.reduceLE, Int.reduceLT, Int.reduceEq, Int.reduceToNat, Int.toNat_natCast, Int.cast_ofNat_Int, Int.natCast_one, Nat.reduceMod, Nat.reduceDiv, UInt8.reduceToNat, Nat.reduceLT, k, List.getElem?_cons_zero, List.getElem?_cons_succ]
theorem c107 (a : List UInt8) (c : UInt8) (s : St) (K : AV → St → Prop) : CallW cx 107 [.str a, .str [c]] s K = K (.bool (decide (a.head? = some c))) s := by
  refine CallW.eq (CallW.fn' (fn := ir107) rfl rfl (by kernel_rfl) ir107.eq_1 ?_) K
  cases a with
  | nil => simp (config := {contextual := true, implicitDefEqProofs := false, maxSteps := 4000000}) only [go_sem, ↓reduceIte, Bool.false_eq_true, Nat.reduceEqDiff, Nat.reduceAdd, Int.reduceLE, Int.reduceLT, Int.reduceEq, Int.reduceToNat, Int.toNat_natCast, Int.cast_ofNat_Int, Int.natCast_one, Nat.reduceMod, Nat.reduceDiv, UInt8.reduceToNat, Nat.reduceLT]; simp
  | cons b a =>
    have hx : decide ((1 : Int) ≤ (((b :: a).length : Nat) : Int)) = true := by simp; omega
    rw [List.length_cons] at hx
    simp (config := {contextual := true, implicitDefEqProofs := false, maxSteps := 4000000}) only [go_sem, ↓reduceIte, Bool.false_eq_true, Nat.reduceEqDiff, Nat.reduceAdd, Int.reduceLE, Int.reduceLT, Int.reduceEq, Int.reduceToNat, Int.toNat_natCast, Int.cast_ofNat_Int, Int.natCast_one, Nat.reduceMod, Nat.reduceDiv, UInt8.reduceToNat, Nat.reduceLT, hx]
    simp
    omega
theorem c93 (a : List UInt8) (c : UInt8) (s : St) (K : AV → St → Prop) : CallW cx 93 [.str a, .str [c]] s K = K (.tuple [.str (if a.head? = some c then a.tail else a), .bool (decide (a.head? = some c))]) s := by
  refine CallW.eq (CallW.fn' (fn := ir93) rfl rfl (by kernel_rfl) ir93.eq_1 ?_) K
  by_cases h : a.head? = some c
  · cases a with
    | nil => simp at h
    | cons b a =>
      have hx : decide ((b :: a).head? = some c) = true := by simpa using h
      simp (config := {contextual := true, implicitDefEqProofs := false, maxSteps := 4000000}) only [go_sem, ↓reduceIte, Bool.false_eq_true, Nat.reduceEqDiff, Nat.reduceAdd, Int.reduceLE, Int.reduceLT, Int.reduceEq, Int.reduceToNat, Int.toNat_natCast, Int.cast_ofNat_Int, Int.natCast_one, Nat.reduceMod, Nat.reduceDiv, UInt8.reduceToNat, Nat.reduceLT, c107, hx, h]
      simp; omega
  · have hx : decide (a.head? = some c) = false := by simpa using h
    simp (config := {contextual := true, implicitDefEqProofs := false, maxSteps := 4000000}) only [go_sem, ↓reduceIte, Bool.false_eq_true, Nat.reduceEqDiff, Nat.reduceAdd, Int.reduceLE, Int.reduceLT, Int.reduceEq, Int.reduceToNat, Int.toNat_natCast, Int.cast_ofNat_Int, Int.natCast_one, Nat.reduceMod, Nat.reduceDiv, UInt8.reduceToNat, Nat.reduceLT, c107, hx, h]
theorem c78 (a : List UInt8) (c : UInt8) (s : St) (K : AV → St → Prop) : CallW cx 78 [.str a, .str [c]] s K = K (.tuple [.str (if a.head? = some c then a.tail else a), .bool (decide (a.head? = some c))]) s := by
  refine CallW.eq (CallW.fn' (fn := ir78) rfl rfl (by kernel_rfl) ir78.eq_1 ?_) K
  simp (config := {contextual := true, implicitDefEqProofs := false, maxSteps := 4000000}) only [go_sem, ↓reduceIte, Bool.false_eq_true, Nat.reduceEqDiff, Nat.reduceAdd, Int.reduceLE, Int.reduceLT, Int.reduceEq, Int.reduceToNat, Int.toNat_natCast, Int.cast_ofNat_Int, Int.natCast_one, Nat.reduceMod, Nat.reduceDiv, UInt8.reduceToNat, Nat.reduceLT, c93, List.getElem?_cons_zero, List.getElem?_cons_succ]
end T17

/- strings.Split at a byte. -/
namespace T17
open Go Fw Go.Proofs
set_option maxRecDepth 100000
set_option maxHeartbeats 4000000
set_option linter.unusedSimpArgs false
set_option linter.unusedVariables false
theorem c118 (a : List UInt8) (c : UInt8) (s : St) (K : AV → St → Prop) : CallW cx 118 [.str a, .int .u8 c.toNat] s K = K (.int .i64 ((a.count c : Nat) : Int)) s :=
  CallW.eq (CallW.ext (g := xCount) rfl (by simp only [xCount, oget_some, u8_back, and_self])) K
theorem c106 (a : List UInt8) (c : UInt8) (s : St) (K : AV → St → Prop) : CallW cx 106 [.str a, .str [c]] s K = K (.int .i64 ((a.count c : Nat) : Int)) s := by
  refine CallW.eq (CallW.fn' (fn := ir106) rfl rfl (by kernel_rfl) ir106.eq_1 ?_) K
  simp (config := {contextual := true, implicitDefEqProofs := false, maxSteps := 4000000}) only [go_sem, ↓reduceIte, Bool.false_eq_true, Nat.reduceEqDiff, Nat.reduceAdd, Int.reduceLE, Int.reduceLT, Int.reduceEq, Int.reduceToNat, Int.toNat_natCast, Int.cast_ofNat_Int, Int.natCast_one, Nat.reduceMod, Nat.reduceDiv, UInt8.reduceToNat, Nat.reduceLT, c118]
theorem c61 (a : List UInt8) (c : UInt8) (s : St) (K : AV → St → Prop) : CallW cx 61 [.str a, .str [c]] s K = K (.int .i64 (findByte c a 0)) s := by
  refine CallW.eq (CallW.fn' (fn := ir61) rfl rfl (by kernel_rfl) ir61.eq_1 ?_) K
  simp (config := {contextual := true, implicitDefEqProofs := false, maxSteps := 4000000}) only [go_sem, ↓reduceIte, Bool.false_eq_true, Nat.reduceEqDiff, Nat.reduceAdd, Int.reduceLE, Int.reduceLT, Int.reduceEq, Int.reduceToNat, Int.toNat_natCast, Int.cast_ofNat_Int, Int.natCast_one, Nat.reduceMod, Nat.reduceDiv, UInt8.reduceToNat, Nat.reduceLT, c72]
/-- The parts of a text between a byte. -/
def splitB (c : UInt8) : List UInt8 → List (List UInt8)
  | [] => [[]]
  | b :: l => if b = c then [] :: splitB c l else match splitB c l with
    | x :: xs => (b :: x) :: xs
    | [] => [[b]]
theorem splitB_ne (c : UInt8) : ∀ l, splitB c l ≠ []
  | [] => by simp [splitB]
  | b :: l => by
    simp only [splitB]
    split
    · simp
    · split <;> simp
theorem splitB_len (c : UInt8) : ∀ l, (splitB c l).length = l.count c + 1
  | [] => rfl
  | b :: l => by
    have ih := splitB_len c l
    simp only [splitB, List.count_cons]
    by_cases h : b = c
    · rw [if_pos h]; simp [h, ih]
    · rw [if_neg h]
      cases hs : splitB c l with
      | nil => exact absurd hs (splitB_ne c l)
      | cons x xs => rw [hs] at ih; simp [h] at ih ⊢; omega
theorem find_sh (c : UInt8) : ∀ (l : List UInt8) (i k : Nat), (findByte c l i = -1 ∧ findByte c l k = -1) ∨ ∃ j : Nat, findByte c l i = ((i + j : Nat) : Int) ∧ findByte c l k = ((k + j : Nat) : Int) ∧ j < l.length
  | [], i, k => .inl ⟨rfl, rfl⟩
  | b :: l, i, k => by
    simp only [findByte]
    by_cases h : b = c
    · rw [if_pos h, if_pos h]; exact .inr ⟨0, rfl, rfl, by simp⟩
    · rw [if_neg h, if_neg h]
      rcases find_sh c l (i + 1) (k + 1) with h1 | ⟨j, h1, h2, h3⟩
      · exact .inl h1
      · exact .inr ⟨j + 1, by rw [h1]; congr 1; omega, by rw [h2]; congr 1; omega, by simp; omega⟩
theorem split_none (c : UInt8) : ∀ l : List UInt8, findByte c l 0 = -1 → splitB c l = [l] ∧ l.count c = 0
  | [], _ => ⟨rfl, rfl⟩
  | b :: l, h => by
    simp only [findByte] at h
    by_cases hb : b = c
    · rw [if_pos hb] at h; omega
    · rw [if_neg hb] at h
      have h2 : findByte c l 0 = -1 := by
        rcases find_sh c l 0 (0 + 1) with h1 | ⟨j, h1, h2, _⟩
        · exact h1.1
        · omega
      obtain ⟨h3, h4⟩ := split_none c l h2
      refine ⟨?_, ?_⟩
      · simp only [splitB, h3, if_neg hb]
      · rw [List.count_cons, h4]; simp [hb]
theorem split_some (c : UInt8) : ∀ (l : List UInt8) (j : Nat), findByte c l 0 = (j : Int) → splitB c l = l.take j :: splitB c (l.drop (j + 1)) ∧ l.count c = (l.drop (j + 1)).count c + 1 ∧ j < l.length
  | [], j, h => by simp only [findByte] at h; omega
  | b :: l, j, h => by
    simp only [findByte] at h
    by_cases hb : b = c
    · rw [if_pos hb] at h
      have : j = 0 := by omega
      subst this
      simp [splitB, hb]
    · rw [if_neg hb] at h
      rcases find_sh c l 0 (0 + 1) with h1 | ⟨k, h1, h2, hk⟩
      · omega
      · have : j = k + 1 := by omega
        subst this
        obtain ⟨h3, h4, h5⟩ := split_some c l k (by rw [h1, Nat.zero_add])
        refine ⟨?_, ?_, ?_⟩
        · simp only [splitB, h3, if_neg hb, List.take_succ_cons, List.drop_succ_cons]
        · rw [List.count_cons, h4, List.drop_succ_cons]; simp [hb]
        · simp only [List.length_cons]; omega
def encS (l : List (List UInt8)) : List AV := l.map AV.str
theorem encS_length (l : List (List UInt8)) : (encS l).length = l.length := by simp [encS]
theorem patch_next (ds : List (List UInt8)) (k : Nat) (v : List UInt8) : patch (encS ds ++ List.replicate (k + 1) (.str [])) ds.length [.str v] = some (encS (ds ++ [v]) ++ List.replicate k (.str [])) := by
  unfold patch
  rw [if_pos (by simp [encS]), List.take_left' (encS_length ds), List.replicate_succ]
  have : (encS ds ++ AV.str [] :: List.replicate k (.str [])).drop (ds.length + [AV.str v].length) = List.replicate k (.str []) := by
    rw [← List.drop_drop, List.drop_left' (encS_length ds)]; rfl
  rw [this]
  simp [encS]
theorem flat_one (n : Nat) (v : AV) : (List.replicate n [v]).flatten = List.replicate n v := by
  induction n with
  | zero => rfl
  | succ n ih => rw [List.replicate_succ, List.flatten_cons, ih]; rfl
theorem l92 (c : UInt8) (N : Nat) (h : List (Nat × AObj)) (tot : Nat) (htot : tot ≤ 1000000) (Q : Sig → FE → St → Prop) : ∀ (k : Nat) (a : List UInt8) (ds : List (List UInt8)) (e : FE), a.count c = k → ds.length + k = tot → a.length ≤ 1000000 →
    e 0 = .str a → e 1 = .str [c] → e 2 = .int .i64 0 → e 3 = .int .i64 (tot : Int) → e 9 = .mslice N 0 (tot + 1) (some (tot + 1)) → e 10 = .int .i64 (ds.length : Int) →
    (∀ e' (i : List (List UInt8)) (z : List UInt8), ds ++ splitB c a = i ++ [z] → i.length = tot → e' 0 = .str z → e' 9 = .mslice N 0 (tot + 1) (some (tot + 1)) → e' 10 = .int .i64 (tot : Int) → Q (.exit 0) e' { heap := (N, .cells none (encS i ++ List.replicate 1 (.str []))) :: h, next := N + 1, low := N }) →
    WLoop cx ir92L0 e { heap := (N, .cells none (encS ds ++ List.replicate (k + 1) (.str []))) :: h, next := N + 1, low := N } Q
  | 0, a, ds, e, hk, hds, hl, h0, h1, h2, h3, h9, h10, hQ => by
    refine WLoop.rnd (c := _) ir92L0.eq_1 ?_
    have hd : decide ((ds.length : Int) < (tot : Int)) = false := decide_eq_false (by omega)
    have hno : findByte c a 0 = -1 := by
      rcases findByte_spec c a 0 with h1 | ⟨j, h1, _, _⟩
      · exact h1
      · have := (split_some c a j h1).2.1; omega
    rw [(split_none c a hno).1] at hQ
    simp (config := {contextual := true, implicitDefEqProofs := false, maxSteps := 4000000}) only [go_sem, ↓reduceIte, Bool.false_eq_true, Nat.reduceEqDiff, Nat.reduceAdd, Int.reduceLE, Int.reduceLT, Int.reduceEq, Int.reduceToNat, Int.toNat_natCast, Int.cast_ofNat_Int, Int.natCast_one, Nat.reduceMod, Nat.reduceDiv, UInt8.reduceToNat, Nat.reduceLT, h3, h10, hd]
    exact hQ _ ds a rfl (by omega) h0 h9 (h10.trans (by congr 2))
  | k + 1, a, ds, e, hk, hds, hl, h0, h1, h2, h3, h9, h10, hQ => by
    refine WLoop.rnd (c := _) ir92L0.eq_1 ?_
    have hd : decide ((ds.length : Int) < (tot : Int)) = true := decide_eq_true (by omega)
    obtain ⟨j, hj⟩ : ∃ j : Nat, findByte c a 0 = (j : Int) := by
      rcases findByte_spec c a 0 with h1 | ⟨j, h1, _, _⟩
      · have := (split_none c a h1).2; omega
      · exact ⟨j, h1⟩
    obtain ⟨g1, g2, g3⟩ := split_some c a j hj
    have d2 : decide ((j : Int) < 0) = false := decide_eq_false (by omega)
    have w1 : IntKind.i64.wrap ((j : Int) + 0) = (j : Int) := by rw [Int.add_zero, wrap_i64 (by omega) (by omega)]
    have w2 := wrap_one (i := j) (by omega)
    have w3 := wrap_one (i := ds.length) (by omega)
    have b1 : (0 : Int) ≤ (j : Int) ∧ (j : Int) ≤ (a.length : Int) := by omega
    have b2 : (0 : Int) ≤ ((j + 1 : Nat) : Int) ∧ ((j + 1 : Nat) : Int) ≤ (a.length : Int) := by omega
    have b3 : (0 : Int) ≤ (ds.length : Int) ∧ (ds.length : Int) < ((tot + 1 : Nat) : Int) := by omega
    have hmin : min N N = N := Nat.min_self N
    rw [g1] at hQ
    simp (config := {contextual := true, implicitDefEqProofs := false, maxSteps := 4000000}) only [go_sem, ↓reduceIte, Bool.false_eq_true, Nat.reduceEqDiff, Nat.reduceAdd, Int.reduceLE, Int.reduceLT, Int.reduceEq, Int.reduceToNat, Int.toNat_natCast, Int.cast_ofNat_Int, Int.natCast_one, Nat.reduceMod, Nat.reduceDiv, UInt8.reduceToNat, Nat.reduceLT, h0, h1, h2, h3, h9, h10, hd, c61, hj, d2, w1, w2, w3, b1, b2, b3, Nat_mul_one, patch_next, hmin]
    have ih := l92 c N h tot htot Q k (a.drop (j + 1)) (ds ++ [a.take j])
    rw [List.length_append, List.length_cons, List.length_nil] at ih
    refine ih _ (by omega) (by omega) (by rw [List.length_drop]; omega) rfl h1 h2 h3 h9 rfl ?_
    intro e' i z hi hil
    exact hQ e' i z (by rw [← hi]; simp) hil
/-- Split lays a row of the parts. -/
theorem c92 (a : List UInt8) (c : UInt8) (ha : a.length ≤ 900000) (s : St) (K : AV → St → Prop) : CallW cx 92 [.str a, .str [c], .int .i64 0, .int .i64 (-1)] s K =
    K (.mslice s.next 0 (a.count c + 1) (some (a.count c + 1))) { heap := (s.next, .cells none (encS (splitB c a))) :: s.heap, next := s.next + 1, low := min s.low s.next } := by
  refine CallW.eq (CallW.fn' (fn := ir92) rfl rfl (by kernel_rfl) ir92.eq_1 ?_) K
  have hcl : a.count c ≤ a.length := List.count_le_length
  have d1 : decide ([c] = []) = false := by simp
  have w1 := wrap_one (i := a.count c) (by omega)
  have w2 := wrap_one (i := a.length) (by omega)
  have m1 : min ((a.count c + 1 : Nat) : Int) ((a.length + 1 : Nat) : Int) = ((a.count c + 1 : Nat) : Int) := by omega
  have w3 : IntKind.i64.wrap (((a.count c + 1 : Nat) : Int) - 1) = (a.count c : Int) := by rw [wrap_i64 (by omega) (by omega)]; omega
  have mk : ∀ st : St, mkslA st 16 [.str []] (.int .i64 ((a.count c + 1 : Nat) : Int)) (.int .i64 ((a.count c + 1 : Nat) : Int)) = some (.mslice st.next 0 (a.count c + 1) (some (a.count c + 1)), { heap := (st.next, .cells none (List.replicate (a.count c + 1) (.str []))) :: st.heap, next := st.next + 1, low := st.low }) := by
    intro st
    unfold mkslA
    simp only
    rw [if_pos ⟨by omega, Int.le_refl _, by rw [Int.toNat_natCast]; exact Nat.le_trans (show (a.count c + 1) * 16 ≤ 20000000 by omega) (by decide)⟩, Int.toNat_natCast, flat_one]
    rfl
  simp (config := {contextual := true, implicitDefEqProofs := false, maxSteps := 4000000}) only [go_sem, ↓reduceIte, Bool.false_eq_true, Nat.reduceEqDiff, Nat.reduceAdd, Int.reduceLE, Int.reduceLT, Int.reduceEq, Int.reduceToNat, Int.toNat_natCast, Int.cast_ofNat_Int, Int.natCast_one, Nat.reduceMod, Nat.reduceDiv, UInt8.reduceToNat, Nat.reduceLT, d1, c106, w1, w2, w3, m1, mk]
  refine l92 c s.next s.heap (a.count c) (by omega) _ (a.count c) a [] _ rfl (by simp) (by omega) rfl rfl rfl rfl rfl rfl ?_
  intro e' i z hi hil h0 h9 h10
  rw [List.nil_append] at hi
  have b1 : (0 : Int) ≤ (a.count c : Int) ∧ (a.count c : Int) < ((a.count c + 1 : Nat) : Int) := by omega
  have hp : patch (encS i ++ List.replicate 1 (.str [])) (a.count c) [.str z] = some (encS (splitB c a)) := by
    rw [← hil, patch_next i 0 z, hi]; simp
  have sl : sliceA 1 (.mslice s.next 0 (a.count c + 1) (some (a.count c + 1))) none (some (.int .i64 ((a.count c + 1 : Nat) : Int))) none = some (.mslice s.next 0 (a.count c + 1) (some (a.count c + 1))) := by
    simp only [sliceA, bounds]
    rw [if_pos ⟨by omega, by omega⟩]
    simp
  have hlv : ∀ (s' : St) (K : AV → St → Prop), LeaveW s s' (.mslice s.next 0 (a.count c + 1) (some (a.count c + 1))) K = K (.mslice s.next 0 (a.count c + 1) (some (a.count c + 1))) { heap := s'.heap, next := s'.next, low := min s.low s'.low } := fun s' K => LeaveW_new rfl (by simp [AV.al, below]) K
  simp (config := {contextual := true, implicitDefEqProofs := false, maxSteps := 4000000}) only [go_sem, ↓reduceIte, Bool.false_eq_true, Nat.reduceEqDiff, Nat.reduceAdd, Int.reduceLE, Int.reduceLT, Int.reduceEq, Int.reduceToNat, Int.toNat_natCast, Int.cast_ofNat_Int, Int.natCast_one, Nat.reduceMod, Nat.reduceDiv, UInt8.reduceToNat, Nat.reduceLT, h0, h9, h10, b1, Nat_mul_one, hp, w1, sl, hlv]
theorem c75 (a : List UInt8) (c : UInt8) (ha : a.length ≤ 900000) (s : St) (K : AV → St → Prop) : CallW cx 75 [.str a, .str [c]] s K =
    K (.mslice s.next 0 (a.count c + 1) (some (a.count c + 1))) { heap := (s.next, .cells none (encS (splitB c a))) :: s.heap, next := s.next + 1, low := min s.low s.next } := by
  refine CallW.eq (CallW.fn' (fn := ir75) rfl rfl (by kernel_rfl) ir75.eq_1 ?_) K
  have k := fun st K => c92 a c ha st K
  have hlv : ∀ (s' : St) (K : AV → St → Prop), LeaveW s s' (.mslice s.next 0 (a.count c + 1) (some (a.count c + 1))) K = K (.mslice s.next 0 (a.count c + 1) (some (a.count c + 1))) { heap := s'.heap, next := s'.next, low := min s.low s'.low } := fun s' K => LeaveW_new rfl (by simp [AV.al, below]) K
  simp (config := {contextual := true, implicitDefEqProofs := false, maxSteps := 4000000}) only [go_sem, ↓reduceIte, Bool.false_eq_true, Nat.reduceEqDiff, Nat.reduceAdd, Int.reduceLE, Int.reduceLT, Int.reduceEq, Int.reduceToNat, Int.toNat_natCast, Int.cast_ofNat_Int, Int.natCast_one, Nat.reduceMod, Nat.reduceDiv, UInt8.reduceToNat, Nat.reduceLT, k, hlv]
end T17

/- The lexer's small parts: runs of bytes, digits, labels. -/
namespace T17
open Go Fw Go.Proofs
set_option maxRecDepth 100000
set_option maxHeartbeats 4000000
set_option linter.unusedSimpArgs false
set_option linter.unusedVariables false
def isD (b : UInt8) : Bool := decide (48 ≤ b.toNat) && decide (b.toNat ≤ 57)
def isLet (b : UInt8) : Bool := (decide (97 ≤ b.toNat) && decide (b.toNat ≤ 122)) || (decide (65 ≤ b.toNat) && decide (b.toNat ≤ 90))
def isPl (b : UInt8) : Bool := decide (32 ≤ b.toNat) && decide (b.toNat ≤ 126)
theorem le_nat (n : Nat) (b : UInt8) : decide (((n : Nat) : Int) ≤ ((b.toNat : Nat) : Int)) = decide (n ≤ b.toNat) := by
  rw [Bool.eq_iff_iff, decide_eq_true_eq, decide_eq_true_eq]; omega
theorem nat_le (n : Nat) (b : UInt8) : decide (((b.toNat : Nat) : Int) ≤ ((n : Nat) : Int)) = decide (b.toNat ≤ n) := by
  rw [Bool.eq_iff_iff, decide_eq_true_eq, decide_eq_true_eq]; omega
theorem eq_byte (n : UInt8) (b : UInt8) : decide (((b.toNat : Nat) : Int) = ((n.toNat : Nat) : Int)) = decide (b = n) := by
  rw [Bool.eq_iff_iff, decide_eq_true_eq, decide_eq_true_eq]
  exact ⟨byte_eq, fun h => by rw [h]⟩
theorem c38 (b : UInt8) (s : St) (K : AV → St → Prop) : CallW cx 38 [.int .u8 b.toNat] s K = K (.bool (isD b)) s := by
  refine CallW.eq (CallW.fn' (fn := ir38) rfl rfl (by kernel_rfl) ir38.eq_1 ?_) K
  have h1 : decide ((48 : Int) ≤ ((b.toNat : Nat) : Int)) = decide (48 ≤ b.toNat) := le_nat 48 b
  have h2 : decide (((b.toNat : Nat) : Int) ≤ (57 : Int)) = decide (b.toNat ≤ 57) := nat_le 57 b
  unfold isD
  cases h3 : decide (48 ≤ b.toNat)
  · simp (config := {contextual := true, implicitDefEqProofs := false, maxSteps := 4000000}) only [go_sem, ↓reduceIte, Bool.false_eq_true, Nat.reduceEqDiff, Nat.reduceAdd, Int.reduceLE, Int.reduceLT, Int.reduceEq, Int.reduceToNat, Int.toNat_natCast, Int.cast_ofNat_Int, Int.natCast_one, Nat.reduceMod, Nat.reduceDiv, UInt8.reduceToNat, Nat.reduceLT, h1, h2, h3]
  · simp (config := {contextual := true, implicitDefEqProofs := false, maxSteps := 4000000}) only [go_sem, ↓reduceIte, Bool.false_eq_true, Nat.reduceEqDiff, Nat.reduceAdd, Int.reduceLE, Int.reduceLT, Int.reduceEq, Int.reduceToNat, Int.toNat_natCast, Int.cast_ofNat_Int, Int.natCast_one, Nat.reduceMod, Nat.reduceDiv, UInt8.reduceToNat, Nat.reduceLT, h1, h2, h3]
theorem c44 (b : UInt8) (s : St) (K : AV → St → Prop) : CallW cx 44 [.int .u8 b.toNat] s K = K (.bool (isLet b)) s := by
  refine CallW.eq (CallW.fn' (fn := ir44) rfl rfl (by kernel_rfl) ir44.eq_1 ?_) K
  have h1 : decide ((97 : Int) ≤ ((b.toNat : Nat) : Int)) = decide (97 ≤ b.toNat) := le_nat 97 b
  have h2 : decide (((b.toNat : Nat) : Int) ≤ (122 : Int)) = decide (b.toNat ≤ 122) := nat_le 122 b
  have h3 : decide ((65 : Int) ≤ ((b.toNat : Nat) : Int)) = decide (65 ≤ b.toNat) := le_nat 65 b
  have h4 : decide (((b.toNat : Nat) : Int) ≤ (90 : Int)) = decide (b.toNat ≤ 90) := nat_le 90 b
  unfold isLet
  cases g1 : decide (97 ≤ b.toNat) <;> cases g2 : decide (b.toNat ≤ 122) <;> cases g3 : decide (65 ≤ b.toNat)
  all_goals simp (config := {contextual := true, implicitDefEqProofs := false, maxSteps := 4000000}) only [go_sem, ↓reduceIte, Bool.false_eq_true, Nat.reduceEqDiff, Nat.reduceAdd, Int.reduceLE, Int.reduceLT, Int.reduceEq, Int.reduceToNat, Int.toNat_natCast, Int.cast_ofNat_Int, Int.natCast_one, Nat.reduceMod, Nat.reduceDiv, UInt8.reduceToNat, Nat.reduceLT, h1, h2, h3, h4, g1, g2, g3]
/-- The end of a run: from i on, at most k further. -/
def runI (p : Nat → Bool) : Nat → Nat → Nat
  | 0, i => i
  | k + 1, i => if p i then runI p k (i + 1) else i
theorem runI_le (p : Nat → Bool) : ∀ k i, i ≤ runI p k i ∧ runI p k i ≤ i + k
  | 0, i => by simp [runI]
  | k + 1, i => by
    simp only [runI]
    split
    · have := runI_le p k (i + 1); omega
    · omega
theorem runI_all (p : Nat → Bool) : ∀ k i, (∀ j, i ≤ j → j < runI p k i → p j = true) ∧ (runI p k i < i + k → p (runI p k i) = false)
  | 0, i => ⟨fun j h1 h2 => by simp only [runI] at h2; omega, fun h => by simp only [runI] at h; omega⟩
  | k + 1, i => by
    simp only [runI]
    by_cases h : p i = true
    · rw [if_pos h]
      obtain ⟨h1, h2⟩ := runI_all p k (i + 1)
      refine ⟨fun j hj hj2 => ?_, fun hh => h2 (by omega)⟩
      by_cases hji : j = i
      · rw [hji]; exact h
      · exact h1 j (by omega) hj2
    · rw [if_neg h]
      exact ⟨fun j h1 h2 => by omega, fun _ => by simpa using h⟩
theorem l24 (a : List UInt8) (hl : a.length ≤ 4611686018427387904) (g : Nat) (cap : List AV) (p : Nat → Bool) (st : St) (hf : ∀ (i : Nat) (K : AV → St → Prop), i < a.length → CallW cx g (.int .i64 (i : Int) :: cap) st K = K (.bool (p i)) st) (Q : Sig → FE → St → Prop) : ∀ (n i : Nat) (e : FE), i + n = a.length → e 0 = .str a → e 1 = .int .i64 (i : Int) → e 2 = .func g [] cap → (∀ e', e' 1 = .int .i64 ((runI p n i : Nat) : Int) → Q (.exit 0) e' st) → WLoop cx ir24L0 e st Q
  | 0, i, e, hi, h0, h1, h2, hQ => by
    refine WLoop.rnd (c := _) ir24L0.eq_1 ?_
    have hd : decide ((i : Int) < (a.length : Int)) = false := decide_eq_false (by omega)
    simp (config := {contextual := true, implicitDefEqProofs := false, maxSteps := 4000000}) only [go_sem, ↓reduceIte, Bool.false_eq_true, Nat.reduceEqDiff, Nat.reduceAdd, Int.reduceLE, Int.reduceLT, Int.reduceEq, Int.reduceToNat, Int.toNat_natCast, Int.cast_ofNat_Int, Int.natCast_one, Nat.reduceMod, Nat.reduceDiv, UInt8.reduceToNat, Nat.reduceLT, h0, h1, h2, hd]
    exact hQ _ h1
  | n + 1, i, e, hi, h0, h1, h2, hQ => by
    refine WLoop.rnd (c := _) ir24L0.eq_1 ?_
    have hd : decide ((i : Int) < (a.length : Int)) = true := decide_eq_true (by omega)
    have hw := wrap_one (i := i) (by omega)
    have k := fun K => hf i K (by omega)
    simp only [runI] at hQ
    cases hp : p i with
    | true =>
      rw [hp] at k hQ
      rw [if_pos rfl] at hQ
      simp (config := {contextual := true, implicitDefEqProofs := false, maxSteps := 4000000}) only [go_sem, ↓reduceIte, Bool.false_eq_true, Nat.reduceEqDiff, Nat.reduceAdd, Int.reduceLE, Int.reduceLT, Int.reduceEq, Int.reduceToNat, Int.toNat_natCast, Int.cast_ofNat_Int, Int.natCast_one, Nat.reduceMod, Nat.reduceDiv, UInt8.reduceToNat, Nat.reduceLT, h0, h1, h2, hd, k, hw]
      exact l24 a hl g cap p st hf Q n (i + 1) _ (by omega) h0 rfl h2 hQ
    | false =>
      rw [hp] at k hQ
      rw [if_neg (by decide)] at hQ
      simp (config := {contextual := true, implicitDefEqProofs := false, maxSteps := 4000000}) only [go_sem, ↓reduceIte, Bool.false_eq_true, Nat.reduceEqDiff, Nat.reduceAdd, Int.reduceLE, Int.reduceLT, Int.reduceEq, Int.reduceToNat, Int.toNat_natCast, Int.cast_ofNat_Int, Int.natCast_one, Nat.reduceMod, Nat.reduceDiv, UInt8.reduceToNat, Nat.reduceLT, h0, h1, h2, hd, k]
      exact hQ _ h1
theorem c24 (a : List UInt8) (hl : a.length ≤ 4611686018427387904) (i : Nat) (hi : i ≤ a.length) (g : Nat) (cap : List AV) (p : Nat → Bool) (h : List (Nat × AObj)) (N l : Nat) (hf : ∀ (i : Nat) (K : AV → St → Prop), i < a.length → CallW cx g (.int .i64 (i : Int) :: cap) { heap := h, next := N, low := N } K = K (.bool (p i)) { heap := h, next := N, low := N }) (K : AV → St → Prop) :
    CallW cx 24 [.str a, .int .i64 (i : Int), .func g [] cap] { heap := h, next := N, low := l } K = K (.int .i64 ((runI p (a.length - i) i : Nat) : Int)) { heap := h, next := N, low := l } := by
  refine CallW.eq (CallW.fn' (fn := ir24) rfl rfl (by kernel_rfl) ir24.eq_1 ?_) K
  simp (config := {contextual := true, implicitDefEqProofs := false, maxSteps := 4000000}) only [go_sem, ↓reduceIte, Bool.false_eq_true, Nat.reduceEqDiff, Nat.reduceAdd, Int.reduceLE, Int.reduceLT, Int.reduceEq, Int.reduceToNat, Int.toNat_natCast, Int.cast_ofNat_Int, Int.natCast_one, Nat.reduceMod, Nat.reduceDiv, UInt8.reduceToNat, Nat.reduceLT]
  refine l24 a hl g cap p _ hf _ (a.length - i) i _ (by omega) rfl rfl rfl ?_
  intro e' h1
  simp (config := {contextual := true, implicitDefEqProofs := false, maxSteps := 4000000}) only [go_sem, ↓reduceIte, Bool.false_eq_true, Nat.reduceEqDiff, Nat.reduceAdd, Int.reduceLE, Int.reduceLT, Int.reduceEq, Int.reduceToNat, Int.toNat_natCast, Int.cast_ofNat_Int, Int.natCast_one, Nat.reduceMod, Nat.reduceDiv, UInt8.reduceToNat, Nat.reduceLT, h1]
/-- Runs over the bytes of a text. -/
def runB (q : UInt8 → Bool) (a : List UInt8) (i : Nat) : Nat := runI (fun j => q (a.getD j 0)) (a.length - i) i
theorem runB_all (q : UInt8 → Bool) (a : List UInt8) : decide (runB q a 0 = a.length) = a.all q := by
  rw [Bool.eq_iff_iff, decide_eq_true_eq, List.all_eq_true]
  unfold runB
  rw [Nat.sub_zero]
  obtain ⟨h1, h2⟩ := runI_all (fun j => q (a.getD j 0)) a.length 0
  have h3 := runI_le (fun j => q (a.getD j 0)) a.length 0
  constructor
  · intro h b hb
    obtain ⟨j, hj, rfl⟩ := List.getElem_of_mem hb
    have := h1 j (Nat.zero_le _) (by rw [h]; exact hj)
    simpa [List.getD, hj] using this
  · intro h
    obtain ⟨r, hr⟩ : ∃ r, runI (fun j => q (a.getD j 0)) a.length 0 = r := ⟨_, rfl⟩
    rw [hr] at h2 h3 ⊢
    rcases Nat.lt_or_ge r a.length with hlt | hge
    · have h4 := h2 (by omega)
      have h5 := h _ (List.getElem_mem hlt)
      have h6 : a.getD r 0 = a[r] := by simp [List.getD, hlt]
      rw [h6, h5] at h4; cases h4
    · omega
theorem c91 (a : List UInt8) (i : Nat) (hi : i < a.length) (C : Nat) (ty : Option TypeId) (st : St) (hlk : Fw.look C st.heap = some (.cells ty [.str a])) (K : AV → St → Prop) : CallW cx 91 [.int .i64 (i : Int), .ptr C 0] st K = K (.bool (isD (a.getD i 0))) st := by
  refine CallW.eq (CallW.fn' (fn := ir91) rfl rfl (by kernel_rfl) ir91.eq_1 ?_) K
  have b1 : (0 : Int) ≤ (i : Int) := by omega
  have b2 : (i : Int) < (a.length : Int) := by omega
  simp (config := {contextual := true, implicitDefEqProofs := false, maxSteps := 4000000}) only [go_sem, ↓reduceIte, Bool.false_eq_true, Nat.reduceEqDiff, Nat.reduceAdd, Int.reduceLE, Int.reduceLT, Int.reduceEq, Int.reduceToNat, Int.toNat_natCast, Int.cast_ofNat_Int, Int.natCast_one, Nat.reduceMod, Nat.reduceDiv, UInt8.reduceToNat, Nat.reduceLT, hlk, b1, b2, c38]
theorem c74 (a : List UInt8) (hl : a.length ≤ 4611686018427387904) (n : Nat) (s : St) (K : AV → St → Prop) : CallW cx 74 [.str a, .int .i64 (n : Int)] s K = K (.bool (decide (a.length = n) && a.all isD)) s := by
  refine CallW.eq (CallW.fn' (fn := ir74) rfl rfl (by kernel_rfl) ir74.eq_1 ?_) K
  have k := fun l K => c24 a hl 0 (Nat.zero_le _) 91 [.ptr s.next 0] (fun j => isD (a.getD j 0)) ((s.next, .cells (some 9) [.str a]) :: s.heap) (s.next + 1) l (fun i K hi => c91 a i hi s.next (some 9) _ (by simp only [Fw.look, if_true]) K) K
  rw [show runI (fun j => isD (a.getD j 0)) (a.length - 0) 0 = runB isD a 0 from rfl] at k
  simp only [Int.cast_ofNat_Int] at k
  by_cases h : a.length = n
  · have d1 : decide ((a.length : Int) = (n : Int)) = true := decide_eq_true (by omega)
    have d2 : decide (((runB isD a 0 : Nat) : Int) = (n : Int)) = a.all isD := by
      rw [← runB_all, Bool.eq_iff_iff, decide_eq_true_eq, decide_eq_true_eq]; omega
    rw [decide_eq_true h]
    simp (config := {contextual := true, implicitDefEqProofs := false, maxSteps := 4000000}) only [go_sem, ↓reduceIte, Bool.false_eq_true, Nat.reduceEqDiff, Nat.reduceAdd, Int.reduceLE, Int.reduceLT, Int.reduceEq, Int.reduceToNat, Int.toNat_natCast, Int.cast_ofNat_Int, Int.natCast_one, Nat.reduceMod, Nat.reduceDiv, UInt8.reduceToNat, Nat.reduceLT, d1, k, d2]
  · have d1 : decide ((a.length : Int) = (n : Int)) = false := decide_eq_false (by omega)
    rw [decide_eq_false h]
    simp (config := {contextual := true, implicitDefEqProofs := false, maxSteps := 4000000}) only [go_sem, ↓reduceIte, Bool.false_eq_true, Nat.reduceEqDiff, Nat.reduceAdd, Int.reduceLE, Int.reduceLT, Int.reduceEq, Int.reduceToNat, Int.toNat_natCast, Int.cast_ofNat_Int, Int.natCast_one, Nat.reduceMod, Nat.reduceDiv, UInt8.reduceToNat, Nat.reduceLT, d1]
theorem c60 (a : List UInt8) (i : Nat) (hi : i < a.length) (C : Nat) (ty : Option TypeId) (st : St) (hlk : Fw.look C st.heap = some (.cells ty [.str a])) (K : AV → St → Prop) : CallW cx 60 [.int .i64 (i : Int), .ptr C 0] st K = K (.bool (isPl (a.getD i 0))) st := by
  refine CallW.eq (CallW.fn' (fn := ir60) rfl rfl (by kernel_rfl) ir60.eq_1 ?_) K
  have b1 : (0 : Int) ≤ (i : Int) := by omega
  have b2 : (i : Int) < (a.length : Int) := by omega
  obtain ⟨b, hb⟩ : ∃ b, a.getD i 0 = b := ⟨_, rfl⟩
  have h1 : decide ((32 : Int) ≤ ((b.toNat : Nat) : Int)) = decide (32 ≤ b.toNat) := le_nat 32 b
  have h2 : decide (((b.toNat : Nat) : Int) ≤ (126 : Int)) = decide (b.toNat ≤ 126) := nat_le 126 b
  rw [hb]
  unfold isPl
  cases h3 : decide (32 ≤ b.toNat)
  · simp (config := {contextual := true, implicitDefEqProofs := false, maxSteps := 4000000}) only [go_sem, ↓reduceIte, Bool.false_eq_true, Nat.reduceEqDiff, Nat.reduceAdd, Int.reduceLE, Int.reduceLT, Int.reduceEq, Int.reduceToNat, Int.toNat_natCast, Int.cast_ofNat_Int, Int.natCast_one, Nat.reduceMod, Nat.reduceDiv, UInt8.reduceToNat, Nat.reduceLT, hlk, b1, b2, hb, h1, h2, h3]
  · simp (config := {contextual := true, implicitDefEqProofs := false, maxSteps := 4000000}) only [go_sem, ↓reduceIte, Bool.false_eq_true, Nat.reduceEqDiff, Nat.reduceAdd, Int.reduceLE, Int.reduceLT, Int.reduceEq, Int.reduceToNat, Int.toNat_natCast, Int.cast_ofNat_Int, Int.natCast_one, Nat.reduceMod, Nat.reduceDiv, UInt8.reduceToNat, Nat.reduceLT, hlk, b1, b2, hb, h1, h2, h3]
theorem c41 (a : List UInt8) (hl : a.length ≤ 4611686018427387904) (s : St) (K : AV → St → Prop) : CallW cx 41 [.str a] s K = K (.bool (a.all isPl)) s := by
  refine CallW.eq (CallW.fn' (fn := ir41) rfl rfl (by kernel_rfl) ir41.eq_1 ?_) K
  have k := fun l K => c24 a hl 0 (Nat.zero_le _) 60 [.ptr s.next 0] (fun j => isPl (a.getD j 0)) ((s.next, .cells (some 9) [.str a]) :: s.heap) (s.next + 1) l (fun i K hi => c60 a i hi s.next (some 9) _ (by simp only [Fw.look, if_true]) K) K
  rw [show runI (fun j => isPl (a.getD j 0)) (a.length - 0) 0 = runB isPl a 0 from rfl] at k
  simp only [Int.cast_ofNat_Int] at k
  have d2 : decide (((runB isPl a 0 : Nat) : Int) = (a.length : Int)) = a.all isPl := by
    rw [← runB_all, Bool.eq_iff_iff, decide_eq_true_eq, decide_eq_true_eq]; omega
  simp (config := {contextual := true, implicitDefEqProofs := false, maxSteps := 4000000}) only [go_sem, ↓reduceIte, Bool.false_eq_true, Nat.reduceEqDiff, Nat.reduceAdd, Int.reduceLE, Int.reduceLT, Int.reduceEq, Int.reduceToNat, Int.toNat_natCast, Int.cast_ofNat_Int, Int.natCast_one, Nat.reduceMod, Nat.reduceDiv, UInt8.reduceToNat, Nat.reduceLT, k, d2]
theorem c47 (a : List UInt8) (c : UInt8) (s : St) (K : AV → St → Prop) : CallW cx 47 [.str a, .int .u8 c.toNat] s K = K (.int .i64 (findByte c a 0)) s := by
  refine CallW.eq (CallW.fn' (fn := ir47) rfl rfl (by kernel_rfl) ir47.eq_1 ?_) K
  simp (config := {contextual := true, implicitDefEqProofs := false, maxSteps := 4000000}) only [go_sem, ↓reduceIte, Bool.false_eq_true, Nat.reduceEqDiff, Nat.reduceAdd, Int.reduceLE, Int.reduceLT, Int.reduceEq, Int.reduceToNat, Int.toNat_natCast, Int.cast_ofNat_Int, Int.natCast_one, Nat.reduceMod, Nat.reduceDiv, UInt8.reduceToNat, Nat.reduceLT, c62, u8_back, Int.toNat_natCast, UInt8.ofNat_toNat, Nat.toUInt8_eq]
theorem c42 (a : List UInt8) (c : UInt8) (s : St) (K : AV → St → Prop) : CallW cx 42 [.str a, .str [c]] s K = K (.bool (decide (0 ≤ findByte c a 0))) s := by
  refine CallW.eq (CallW.fn' (fn := ir42) rfl rfl (by kernel_rfl) ir42.eq_1 ?_) K
  simp (config := {contextual := true, implicitDefEqProofs := false, maxSteps := 4000000}) only [go_sem, ↓reduceIte, Bool.false_eq_true, Nat.reduceEqDiff, Nat.reduceAdd, Int.reduceLE, Int.reduceLT, Int.reduceEq, Int.reduceToNat, Int.toNat_natCast, Int.cast_ofNat_Int, Int.natCast_one, Nat.reduceMod, Nat.reduceDiv, UInt8.reduceToNat, Nat.reduceLT, c61]
/-- A label. -/
def labB (a : List UInt8) : Bool := decide (1 ≤ a.length) && (decide (a.length ≤ 40) && (a.all isPl && (!decide (0 ≤ findByte 34 a 0) && (decide (a.getD 0 0 ≠ 32) && decide (a.getD (a.length - 1) 0 ≠ 32)))))
theorem c20 (a : List UInt8) (hl : a.length ≤ 4611686018427387904) (s : St) (K : AV → St → Prop) : CallW cx 20 [.str a] s K = K (.bool (labB a)) s := by
  refine CallW.eq (CallW.fn' (fn := ir20) rfl rfl (by kernel_rfl) ir20.eq_1 ?_) K
  have kp := fun st K => c41 a hl st K
  unfold labB
  by_cases h1 : 1 ≤ a.length
  case neg =>
    have d1 : decide ((1 : Int) ≤ (a.length : Int)) = false := decide_eq_false (by omega)
    rw [decide_eq_false h1]
    simp (config := {contextual := true, implicitDefEqProofs := false, maxSteps := 4000000}) only [go_sem, ↓reduceIte, Bool.false_eq_true, Nat.reduceEqDiff, Nat.reduceAdd, Int.reduceLE, Int.reduceLT, Int.reduceEq, Int.reduceToNat, Int.toNat_natCast, Int.cast_ofNat_Int, Int.natCast_one, Nat.reduceMod, Nat.reduceDiv, UInt8.reduceToNat, Nat.reduceLT, d1]
  have d1 : decide ((1 : Int) ≤ (a.length : Int)) = true := decide_eq_true (by omega)
  rw [decide_eq_true h1]
  by_cases h2 : a.length ≤ 40
  case neg =>
    have d2 : decide ((a.length : Int) ≤ 40) = false := decide_eq_false (by omega)
    rw [decide_eq_false h2]
    simp (config := {contextual := true, implicitDefEqProofs := false, maxSteps := 4000000}) only [go_sem, ↓reduceIte, Bool.false_eq_true, Nat.reduceEqDiff, Nat.reduceAdd, Int.reduceLE, Int.reduceLT, Int.reduceEq, Int.reduceToNat, Int.toNat_natCast, Int.cast_ofNat_Int, Int.natCast_one, Nat.reduceMod, Nat.reduceDiv, UInt8.reduceToNat, Nat.reduceLT, d1, d2]
  have d2 : decide ((a.length : Int) ≤ 40) = true := decide_eq_true (by omega)
  rw [decide_eq_true h2]
  cases h3 : a.all isPl with
  | false =>
    rw [h3] at kp
    simp (config := {contextual := true, implicitDefEqProofs := false, maxSteps := 4000000}) only [go_sem, ↓reduceIte, Bool.false_eq_true, Nat.reduceEqDiff, Nat.reduceAdd, Int.reduceLE, Int.reduceLT, Int.reduceEq, Int.reduceToNat, Int.toNat_natCast, Int.cast_ofNat_Int, Int.natCast_one, Nat.reduceMod, Nat.reduceDiv, UInt8.reduceToNat, Nat.reduceLT, d1, d2, kp]
  | true =>
    rw [h3] at kp
    cases h4 : decide (0 ≤ findByte 34 a 0) with
    | true => simp (config := {contextual := true, implicitDefEqProofs := false, maxSteps := 4000000}) only [go_sem, ↓reduceIte, Bool.false_eq_true, Nat.reduceEqDiff, Nat.reduceAdd, Int.reduceLE, Int.reduceLT, Int.reduceEq, Int.reduceToNat, Int.toNat_natCast, Int.cast_ofNat_Int, Int.natCast_one, Nat.reduceMod, Nat.reduceDiv, UInt8.reduceToNat, Nat.reduceLT, d1, d2, kp, c42, h4]
    | false =>
      have b1 : (0 : Int) < (a.length : Int) := by omega
      have w1 : IntKind.i64.wrap ((a.length : Int) - 1) = ((a.length - 1 : Nat) : Int) := by rw [wrap_i64 (by omega) (by omega)]; omega
      have b2 : (0 : Int) ≤ ((a.length - 1 : Nat) : Int) := by omega
      have b3 : ((a.length - 1 : Nat) : Int) < (a.length : Int) := by omega
      have e1 : decide ((((a.getD 0 0).toNat : Nat) : Int) ≠ 32) = decide (a.getD 0 0 ≠ 32) := by
        rw [Bool.eq_iff_iff, decide_eq_true_eq, decide_eq_true_eq]
        exact ⟨fun h h2 => h (by rw [h2]; rfl), fun h h2 => h (byte_eq (n := 32) h2)⟩
      have e2 : decide ((((a.getD (a.length - 1) 0).toNat : Nat) : Int) ≠ 32) = decide (a.getD (a.length - 1) 0 ≠ 32) := by
        rw [Bool.eq_iff_iff, decide_eq_true_eq, decide_eq_true_eq]
        exact ⟨fun h h2 => h (by rw [h2]; rfl), fun h h2 => h (byte_eq (n := 32) h2)⟩
      cases h5 : decide (a.getD 0 0 ≠ 32) with
      | false => 
        rw [h5] at e1
        simp (config := {contextual := true, implicitDefEqProofs := false, maxSteps := 4000000}) only [go_sem, ↓reduceIte, Bool.false_eq_true, Nat.reduceEqDiff, Nat.reduceAdd, Int.reduceLE, Int.reduceLT, Int.reduceEq, Int.reduceToNat, Int.toNat_natCast, Int.cast_ofNat_Int, Int.natCast_one, Nat.reduceMod, Nat.reduceDiv, UInt8.reduceToNat, Nat.reduceLT, d1, d2, kp, c42, h4, b1, e1]
      | true =>
        rw [h5] at e1
        simp (config := {contextual := true, implicitDefEqProofs := false, maxSteps := 4000000}) only [go_sem, ↓reduceIte, Bool.false_eq_true, Nat.reduceEqDiff, Nat.reduceAdd, Int.reduceLE, Int.reduceLT, Int.reduceEq, Int.reduceToNat, Int.toNat_natCast, Int.cast_ofNat_Int, Int.natCast_one, Nat.reduceMod, Nat.reduceDiv, UInt8.reduceToNat, Nat.reduceLT, d1, d2, kp, c42, h4, b1, e1, w1, b2, b3, e2]
end T17

/- The lexer's names, paths, splits. -/
namespace T17
open Go Fw Go.Proofs
set_option maxRecDepth 100000
set_option maxHeartbeats 4000000
set_option linter.unusedSimpArgs false
set_option linter.unusedVariables false
def isLow (b : UInt8) : Bool := decide (97 ≤ b.toNat) && decide (b.toNat ≤ 122)
def isNm (b : UInt8) : Bool := isLow b || (isD b || decide (b = 95))
theorem c37 (a : List UInt8) (i : Nat) (hi : i < a.length) (C : Nat) (ty : Option TypeId) (st : St) (hlk : Fw.look C st.heap = some (.cells ty [.str a])) (K : AV → St → Prop) : CallW cx 37 [.int .i64 (i : Int), .ptr C 0] st K = K (.bool (isNm (a.getD i 0))) st := by
  refine CallW.eq (CallW.fn' (fn := ir37) rfl rfl (by kernel_rfl) ir37.eq_1 ?_) K
  have b1 : (0 : Int) ≤ (i : Int) := by omega
  have b2 : (i : Int) < (a.length : Int) := by omega
  obtain ⟨b, hb⟩ : ∃ b, a.getD i 0 = b := ⟨_, rfl⟩
  have h1 : decide ((97 : Int) ≤ ((b.toNat : Nat) : Int)) = decide (97 ≤ b.toNat) := le_nat 97 b
  have h2 : decide (((b.toNat : Nat) : Int) ≤ (122 : Int)) = decide (b.toNat ≤ 122) := nat_le 122 b
  have h3 : decide (((b.toNat : Nat) : Int) = 95) = decide (b = 95) := by
    rw [Bool.eq_iff_iff, decide_eq_true_eq, decide_eq_true_eq]
    exact ⟨fun h => byte_eq (n := 95) h, fun h => by rw [h]; rfl⟩
  rw [hb]
  unfold isNm isLow
  cases e1 : decide (97 ≤ b.toNat) <;> cases e2 : decide (b.toNat ≤ 122) <;> cases e3 : isD b <;>
    (rw [e1] at h1; rw [e2] at h2; simp (config := {contextual := true, implicitDefEqProofs := false, maxSteps := 4000000}) only [go_sem, ↓reduceIte, Bool.false_eq_true, Nat.reduceEqDiff, Nat.reduceAdd, Int.reduceLE, Int.reduceLT, Int.reduceEq, Int.reduceToNat, Int.toNat_natCast, Int.cast_ofNat_Int, Int.natCast_one, Nat.reduceMod, Nat.reduceDiv, UInt8.reduceToNat, Nat.reduceLT, hlk, b1, b2, hb, c38, h1, h2, e3, h3])
/-- A name. -/
def nameB (a : List UInt8) : Bool := decide (1 ≤ a.length) && (decide (a.length ≤ 24) && (isLow (a.getD 0 0) && a.all isNm))
theorem c16 (a : List UInt8) (hl : a.length ≤ 4611686018427387904) (s : St) (K : AV → St → Prop) : CallW cx 16 [.str a] s K = K (.bool (nameB a)) s := by
  refine CallW.eq (CallW.fn' (fn := ir16) rfl rfl (by kernel_rfl) ir16.eq_1 ?_) K
  have k := fun l K => c24 a hl 0 (Nat.zero_le _) 37 [.ptr s.next 0] (fun j => isNm (a.getD j 0)) ((s.next, .cells (some 9) [.str a]) :: s.heap) (s.next + 1) l (fun i K hi => c37 a i hi s.next (some 9) _ (by simp only [Fw.look, if_true]) K) K
  rw [show runI (fun j => isNm (a.getD j 0)) (a.length - 0) 0 = runB isNm a 0 from rfl] at k
  simp only [Int.cast_ofNat_Int] at k
  have e := runB_all isNm a
  have e1 : decide (((runB isNm a 0 : Nat) : Int) = (a.length : Int)) = decide (runB isNm a 0 = a.length) := by rw [Bool.eq_iff_iff, decide_eq_true_eq, decide_eq_true_eq]; omega
  rw [e] at e1
  unfold nameB
  by_cases h1 : 1 ≤ a.length
  case neg =>
    have d1 : decide ((a.length : Int) < 1) = true := decide_eq_true (by omega)
    rw [decide_eq_false h1]
    simp (config := {contextual := true, implicitDefEqProofs := false, maxSteps := 4000000}) only [go_sem, ↓reduceIte, Bool.false_eq_true, Nat.reduceEqDiff, Nat.reduceAdd, Int.reduceLE, Int.reduceLT, Int.reduceEq, Int.reduceToNat, Int.toNat_natCast, Int.cast_ofNat_Int, Int.natCast_one, Nat.reduceMod, Nat.reduceDiv, UInt8.reduceToNat, Nat.reduceLT, d1]
  have d1 : decide ((a.length : Int) < 1) = false := decide_eq_false (by omega)
  rw [decide_eq_true h1]
  by_cases h2 : a.length ≤ 24
  case neg =>
    have d2 : decide ((24 : Int) < (a.length : Int)) = true := decide_eq_true (by omega)
    rw [decide_eq_false h2]
    simp (config := {contextual := true, implicitDefEqProofs := false, maxSteps := 4000000}) only [go_sem, ↓reduceIte, Bool.false_eq_true, Nat.reduceEqDiff, Nat.reduceAdd, Int.reduceLE, Int.reduceLT, Int.reduceEq, Int.reduceToNat, Int.toNat_natCast, Int.cast_ofNat_Int, Int.natCast_one, Nat.reduceMod, Nat.reduceDiv, UInt8.reduceToNat, Nat.reduceLT, d1, d2]
  have d2 : decide ((24 : Int) < (a.length : Int)) = false := decide_eq_false (by omega)
  rw [decide_eq_true h2]
  have b1 : (0 : Int) < (a.length : Int) := by omega
  obtain ⟨b, hb⟩ : ∃ b, a.getD 0 0 = b := ⟨_, rfl⟩
  rw [hb]
  unfold isLow
  by_cases h3 : 97 ≤ b.toNat
  case neg =>
    have d3 : decide (((b.toNat : Nat) : Int) < 97) = true := decide_eq_true (by omega)
    rw [decide_eq_false h3]
    simp (config := {contextual := true, implicitDefEqProofs := false, maxSteps := 4000000}) only [go_sem, ↓reduceIte, Bool.false_eq_true, Nat.reduceEqDiff, Nat.reduceAdd, Int.reduceLE, Int.reduceLT, Int.reduceEq, Int.reduceToNat, Int.toNat_natCast, Int.cast_ofNat_Int, Int.natCast_one, Nat.reduceMod, Nat.reduceDiv, UInt8.reduceToNat, Nat.reduceLT, d1, d2, b1, hb, d3]
  have d3 : decide (((b.toNat : Nat) : Int) < 97) = false := decide_eq_false (by omega)
  rw [decide_eq_true h3]
  by_cases h4 : b.toNat ≤ 122
  case neg =>
    have d4 : decide ((122 : Int) < ((b.toNat : Nat) : Int)) = true := decide_eq_true (by omega)
    rw [decide_eq_false h4]
    simp (config := {contextual := true, implicitDefEqProofs := false, maxSteps := 4000000}) only [go_sem, ↓reduceIte, Bool.false_eq_true, Nat.reduceEqDiff, Nat.reduceAdd, Int.reduceLE, Int.reduceLT, Int.reduceEq, Int.reduceToNat, Int.toNat_natCast, Int.cast_ofNat_Int, Int.natCast_one, Nat.reduceMod, Nat.reduceDiv, UInt8.reduceToNat, Nat.reduceLT, d1, d2, b1, hb, d3, d4]
  have d4 : decide ((122 : Int) < ((b.toNat : Nat) : Int)) = false := decide_eq_false (by omega)
  rw [decide_eq_true h4]
  simp (config := {contextual := true, implicitDefEqProofs := false, maxSteps := 4000000}) only [go_sem, ↓reduceIte, Bool.false_eq_true, Nat.reduceEqDiff, Nat.reduceAdd, Int.reduceLE, Int.reduceLT, Int.reduceEq, Int.reduceToNat, Int.toNat_natCast, Int.cast_ofNat_Int, Int.natCast_one, Nat.reduceMod, Nat.reduceDiv, UInt8.reduceToNat, Nat.reduceLT, d1, d2, b1, hb, d3, d4, k, e1]
/-- A path. -/
def pathB (a : List UInt8) : Bool := (cutB 47 a).2.2 && (nameB (cutB 47 a).1 && nameB (cutB 47 a).2.1)
theorem cut_len (c : UInt8) (a : List UInt8) : (cutB c a).1.length ≤ a.length ∧ (cutB c a).2.1.length ≤ a.length := by
  unfold cutB
  split
  · exact ⟨by simp; omega, by simp⟩
  · exact ⟨Nat.le_refl _, Nat.zero_le _⟩
theorem c18 (a : List UInt8) (hl : a.length ≤ 4611686018427387904) (s : St) (K : AV → St → Prop) : CallW cx 18 [.str a] s K = K (.bool (pathB a)) s := by
  refine CallW.eq (CallW.fn' (fn := ir18) rfl rfl (by kernel_rfl) ir18.eq_1 ?_) K
  obtain ⟨l1, l2⟩ := cut_len 47 a
  have k1 := fun st K => c35 a hl 47 st K
  have k2 := fun st K => c16 (cutB 47 a).1 (by omega) st K
  have k3 := fun st K => c16 (cutB 47 a).2.1 (by omega) st K
  unfold pathB
  generalize cutB 47 a = x at *
  obtain ⟨x1, x2, x3⟩ := x
  simp only at k1 k2 k3 ⊢
  cases x3 with
  | false => simp (config := {contextual := true, implicitDefEqProofs := false, maxSteps := 4000000}) only [go_sem, ↓reduceIte, Bool.false_eq_true, Nat.reduceEqDiff, Nat.reduceAdd, Int.reduceLE, Int.reduceLT, Int.reduceEq, Int.reduceToNat, Int.toNat_natCast, Int.cast_ofNat_Int, Int.natCast_one, Nat.reduceMod, Nat.reduceDiv, UInt8.reduceToNat, Nat.reduceLT, k1]
  | true =>
    cases h : nameB x1 with
    | false =>
      rw [h] at k2
      simp (config := {contextual := true, implicitDefEqProofs := false, maxSteps := 4000000}) only [go_sem, ↓reduceIte, Bool.false_eq_true, Nat.reduceEqDiff, Nat.reduceAdd, Int.reduceLE, Int.reduceLT, Int.reduceEq, Int.reduceToNat, Int.toNat_natCast, Int.cast_ofNat_Int, Int.natCast_one, Nat.reduceMod, Nat.reduceDiv, UInt8.reduceToNat, Nat.reduceLT, k1, k2]
    | true =>
      rw [h] at k2
      simp (config := {contextual := true, implicitDefEqProofs := false, maxSteps := 4000000}) only [go_sem, ↓reduceIte, Bool.false_eq_true, Nat.reduceEqDiff, Nat.reduceAdd, Int.reduceLE, Int.reduceLT, Int.reduceEq, Int.reduceToNat, Int.toNat_natCast, Int.cast_ofNat_Int, Int.natCast_one, Nat.reduceMod, Nat.reduceDiv, UInt8.reduceToNat, Nat.reduceLT, k1, k2, k3]
/-- The device and the point of a path, or an error. -/
def splB (a : List UInt8) : List UInt8 × List UInt8 × Int := if pathB a then ((cutB 47 a).1, (cutB 47 a).2.1, 0) else ([], [], 4)
theorem c14 (a : List UInt8) (hl : a.length ≤ 4611686018427387904) (s : St) (K : AV → St → Prop) : CallW cx 14 [.str a] s K = K (.tuple [.str (splB a).1, .str (splB a).2.1, .int .i64 (splB a).2.2]) s := by
  refine CallW.eq (CallW.fn' (fn := ir14) rfl rfl (by kernel_rfl) ir14.eq_1 ?_) K
  have k1 := fun st K => c35 a hl 47 st K
  have k2 := fun st K => c18 a hl st K
  unfold splB
  cases h : pathB a with
  | false =>
    rw [h] at k2
    simp (config := {contextual := true, implicitDefEqProofs := false, maxSteps := 4000000}) only [go_sem, ↓reduceIte, Bool.false_eq_true, Nat.reduceEqDiff, Nat.reduceAdd, Int.reduceLE, Int.reduceLT, Int.reduceEq, Int.reduceToNat, Int.toNat_natCast, Int.cast_ofNat_Int, Int.natCast_one, Nat.reduceMod, Nat.reduceDiv, UInt8.reduceToNat, Nat.reduceLT, k2]
  | true =>
    rw [h] at k2
    simp (config := {contextual := true, implicitDefEqProofs := false, maxSteps := 4000000}) only [go_sem, ↓reduceIte, Bool.false_eq_true, Nat.reduceEqDiff, Nat.reduceAdd, Int.reduceLE, Int.reduceLT, Int.reduceEq, Int.reduceToNat, Int.toNat_natCast, Int.cast_ofNat_Int, Int.natCast_one, Nat.reduceMod, Nat.reduceDiv, UInt8.reduceToNat, Nat.reduceLT, k2, k1]
end T17

/- The reference's names, paths, labels. -/
namespace T17
open Go Fw Go.Proofs
set_option maxRecDepth 100000
set_option maxHeartbeats 4000000
set_option linter.unusedSimpArgs false
set_option linter.unusedVariables false
theorem c39 (b : UInt8) (s : St) (K : AV → St → Prop) : CallW cx 39 [.int .u8 b.toNat] s K = K (.bool (isLow b)) s := by
  refine CallW.eq (CallW.fn' (fn := ir39) rfl rfl (by kernel_rfl) ir39.eq_1 ?_) K
  have h1 : decide ((97 : Int) ≤ ((b.toNat : Nat) : Int)) = decide (97 ≤ b.toNat) := le_nat 97 b
  have h2 : decide (((b.toNat : Nat) : Int) ≤ (122 : Int)) = decide (b.toNat ≤ 122) := nat_le 122 b
  unfold isLow
  cases e1 : decide (97 ≤ b.toNat) <;> (rw [e1] at h1; simp (config := {contextual := true, implicitDefEqProofs := false, maxSteps := 4000000}) only [go_sem, ↓reduceIte, Bool.false_eq_true, Nat.reduceEqDiff, Nat.reduceAdd, Int.reduceLE, Int.reduceLT, Int.reduceEq, Int.reduceToNat, Int.toNat_natCast, Int.cast_ofNat_Int, Int.natCast_one, Nat.reduceMod, Nat.reduceDiv, UInt8.reduceToNat, Nat.reduceLT, h1, h2])
theorem c40 (b : UInt8) (s : St) (K : AV → St → Prop) : CallW cx 40 [.int .u8 b.toNat] s K = K (.bool (isD b)) s := by
  refine CallW.eq (CallW.fn' (fn := ir40) rfl rfl (by kernel_rfl) ir40.eq_1 ?_) K
  have h1 : decide ((48 : Int) ≤ ((b.toNat : Nat) : Int)) = decide (48 ≤ b.toNat) := le_nat 48 b
  have h2 : decide (((b.toNat : Nat) : Int) ≤ (57 : Int)) = decide (b.toNat ≤ 57) := nat_le 57 b
  unfold isD
  cases e1 : decide (48 ≤ b.toNat) <;> (rw [e1] at h1; simp (config := {contextual := true, implicitDefEqProofs := false, maxSteps := 4000000}) only [go_sem, ↓reduceIte, Bool.false_eq_true, Nat.reduceEqDiff, Nat.reduceAdd, Int.reduceLE, Int.reduceLT, Int.reduceEq, Int.reduceToNat, Int.toNat_natCast, Int.cast_ofNat_Int, Int.natCast_one, Nat.reduceMod, Nat.reduceDiv, UInt8.reduceToNat, Nat.reduceLT, h1, h2])
theorem byte_is (n : UInt8) (b : UInt8) : decide (((b.toNat : Nat) : Int) = ((n.toNat : Nat) : Int)) = decide (b = n) := by
  rw [Bool.eq_iff_iff, decide_eq_true_eq, decide_eq_true_eq]
  exact ⟨fun h => byte_eq h, fun h => by rw [h]⟩
theorem byte_isnt (n : UInt8) (b : UInt8) : decide (((b.toNat : Nat) : Int) ≠ ((n.toNat : Nat) : Int)) = !decide (b = n) := by
  rw [← byte_is n b]; simp
theorem all_getD (q : UInt8 → Bool) (a : List UInt8) (h : 1 ≤ a.length) : (q (a.getD 0 0) && (a.drop 1).all q) = a.all q := by
  cases a with
  | nil => simp at h
  | cons b l => rfl
theorem low_nm {b : UInt8} (h : isLow b = true) : isNm b = true := by unfold isNm; rw [h]; rfl
theorem l17 (a : List UInt8) (hl : a.length ≤ 4611686018427387904) (st : St) (Q : Sig → FE → St → Prop) : ∀ (n i : Nat) (e : FE), i + n = a.length → e 0 = .str a → e 3 = .int .i64 (i : Int) → ((a.drop i).all isNm = true → ∀ e', Q (.exit 0) e' st) → ((a.drop i).all isNm = false → ∀ e', e' 2 = .bool false → Q .ret e' st) → WLoop cx ir17L0 e st Q
  | 0, i, e, hi, h0, h3, hA, hB => by
    refine WLoop.rnd (c := _) ir17L0.eq_1 ?_
    have hd : decide ((i : Int) < (a.length : Int)) = false := decide_eq_false (by omega)
    rw [List.drop_eq_nil_of_le (by omega)] at hA
    simp (config := {contextual := true, implicitDefEqProofs := false, maxSteps := 4000000}) only [go_sem, ↓reduceIte, Bool.false_eq_true, Nat.reduceEqDiff, Nat.reduceAdd, Int.reduceLE, Int.reduceLT, Int.reduceEq, Int.reduceToNat, Int.toNat_natCast, Int.cast_ofNat_Int, Int.natCast_one, Nat.reduceMod, Nat.reduceDiv, UInt8.reduceToNat, Nat.reduceLT, h0, h3, hd]
    exact hA rfl _
  | n + 1, i, e, hi, h0, h3, hA, hB => by
    refine WLoop.rnd (c := _) ir17L0.eq_1 ?_
    have hd : decide ((i : Int) < (a.length : Int)) = true := decide_eq_true (by omega)
    have b1 : (0 : Int) ≤ (i : Int) := by omega
    have b2 : (i : Int) < (a.length : Int) := by omega
    have hw := wrap_one (i := i) (by omega)
    have ih := fun e x0 x3 => l17 a hl st Q n (i + 1) e (by omega) x0 x3
    rw [drop_at (show i < a.length by omega)] at hA hB
    obtain ⟨b, hb⟩ : ∃ b, a.getD i 0 = b := ⟨_, rfl⟩
    rw [hb] at hA hB
    simp only [List.all_cons] at hA hB
    have f1 : decide (((b.toNat : Nat) : Int) ≠ 95) = !decide (b = 95) := byte_isnt 95 b
    have qb : isNm b = (isLow b || (isD b || decide (b = 95))) := rfl
    rw [qb] at hA hB
    cases e1 : isLow b with
    | true =>
      rw [e1] at hA hB
      simp (config := {contextual := true, implicitDefEqProofs := false, maxSteps := 4000000}) only [go_sem, ↓reduceIte, Bool.false_eq_true, Nat.reduceEqDiff, Nat.reduceAdd, Int.reduceLE, Int.reduceLT, Int.reduceEq, Int.reduceToNat, Int.toNat_natCast, Int.cast_ofNat_Int, Int.natCast_one, Nat.reduceMod, Nat.reduceDiv, UInt8.reduceToNat, Nat.reduceLT, h0, h3, hd, b1, b2, hb, c39, e1, hw]
      exact ih _ h0 rfl (fun h => hA (by simpa using h)) (fun h => hB (by simpa using h))
    | false =>
    cases e2 : isD b with
    | true =>
      rw [e1, e2] at hA hB
      simp (config := {contextual := true, implicitDefEqProofs := false, maxSteps := 4000000}) only [go_sem, ↓reduceIte, Bool.false_eq_true, Nat.reduceEqDiff, Nat.reduceAdd, Int.reduceLE, Int.reduceLT, Int.reduceEq, Int.reduceToNat, Int.toNat_natCast, Int.cast_ofNat_Int, Int.natCast_one, Nat.reduceMod, Nat.reduceDiv, UInt8.reduceToNat, Nat.reduceLT, h0, h3, hd, b1, b2, hb, c39, c40, e1, e2, hw]
      exact ih _ h0 rfl (fun h => hA (by simpa using h)) (fun h => hB (by simpa using h))
    | false =>
    cases e3 : decide (b = 95) with
    | true =>
      rw [e1, e2, e3] at hA hB
      rw [e3] at f1
      simp (config := {contextual := true, implicitDefEqProofs := false, maxSteps := 4000000}) only [go_sem, ↓reduceIte, Bool.false_eq_true, Nat.reduceEqDiff, Nat.reduceAdd, Int.reduceLE, Int.reduceLT, Int.reduceEq, Int.reduceToNat, Int.toNat_natCast, Int.cast_ofNat_Int, Int.natCast_one, Nat.reduceMod, Nat.reduceDiv, UInt8.reduceToNat, Nat.reduceLT, h0, h3, hd, b1, b2, hb, c39, c40, e1, e2, f1, hw]
      exact ih _ h0 rfl (fun h => hA (by simpa using h)) (fun h => hB (by simpa using h))
    | false =>
      rw [e1, e2, e3] at hB
      rw [e3] at f1
      simp (config := {contextual := true, implicitDefEqProofs := false, maxSteps := 4000000}) only [go_sem, ↓reduceIte, Bool.false_eq_true, Nat.reduceEqDiff, Nat.reduceAdd, Int.reduceLE, Int.reduceLT, Int.reduceEq, Int.reduceToNat, Int.toNat_natCast, Int.cast_ofNat_Int, Int.natCast_one, Nat.reduceMod, Nat.reduceDiv, UInt8.reduceToNat, Nat.reduceLT, h0, h3, hd, b1, b2, hb, c39, c40, e1, e2, f1, hw]
      exact hB rfl _ rfl
theorem c17 (a : List UInt8) (hl : a.length ≤ 4611686018427387904) (s : St) (K : AV → St → Prop) : CallW cx 17 [.str a] s K = K (.bool (nameB a)) s := by
  refine CallW.eq (CallW.fn' (fn := ir17) rfl rfl (by kernel_rfl) ir17.eq_1 ?_) K
  unfold nameB
  by_cases h1 : 1 ≤ a.length
  case neg =>
    have d1 : decide ((a.length : Int) < 1) = true := decide_eq_true (by omega)
    rw [decide_eq_false h1]
    simp (config := {contextual := true, implicitDefEqProofs := false, maxSteps := 4000000}) only [go_sem, ↓reduceIte, Bool.false_eq_true, Nat.reduceEqDiff, Nat.reduceAdd, Int.reduceLE, Int.reduceLT, Int.reduceEq, Int.reduceToNat, Int.toNat_natCast, Int.cast_ofNat_Int, Int.natCast_one, Nat.reduceMod, Nat.reduceDiv, UInt8.reduceToNat, Nat.reduceLT, d1]
  have d1 : decide ((a.length : Int) < 1) = false := decide_eq_false (by omega)
  rw [decide_eq_true h1]
  by_cases h2 : a.length ≤ 24
  case neg =>
    have d2 : decide ((24 : Int) < (a.length : Int)) = true := decide_eq_true (by omega)
    rw [decide_eq_false h2]
    simp (config := {contextual := true, implicitDefEqProofs := false, maxSteps := 4000000}) only [go_sem, ↓reduceIte, Bool.false_eq_true, Nat.reduceEqDiff, Nat.reduceAdd, Int.reduceLE, Int.reduceLT, Int.reduceEq, Int.reduceToNat, Int.toNat_natCast, Int.cast_ofNat_Int, Int.natCast_one, Nat.reduceMod, Nat.reduceDiv, UInt8.reduceToNat, Nat.reduceLT, d1, d2]
  have d2 : decide ((24 : Int) < (a.length : Int)) = false := decide_eq_false (by omega)
  rw [decide_eq_true h2]
  have b1 : (0 : Int) < (a.length : Int) := by omega
  have ha := all_getD isNm a h1
  obtain ⟨b, hb⟩ : ∃ b, a.getD 0 0 = b := ⟨_, rfl⟩
  rw [hb] at ha ⊢
  cases e1 : isLow b with
  | false => simp (config := {contextual := true, implicitDefEqProofs := false, maxSteps := 4000000}) only [go_sem, ↓reduceIte, Bool.false_eq_true, Nat.reduceEqDiff, Nat.reduceAdd, Int.reduceLE, Int.reduceLT, Int.reduceEq, Int.reduceToNat, Int.toNat_natCast, Int.cast_ofNat_Int, Int.natCast_one, Nat.reduceMod, Nat.reduceDiv, UInt8.reduceToNat, Nat.reduceLT, d1, d2, b1, hb, c39, e1]
  | true =>
    rw [low_nm e1, Bool.true_and] at ha
    simp (config := {contextual := true, implicitDefEqProofs := false, maxSteps := 4000000}) only [go_sem, ↓reduceIte, Bool.false_eq_true, Nat.reduceEqDiff, Nat.reduceAdd, Int.reduceLE, Int.reduceLT, Int.reduceEq, Int.reduceToNat, Int.toNat_natCast, Int.cast_ofNat_Int, Int.natCast_one, Nat.reduceMod, Nat.reduceDiv, UInt8.reduceToNat, Nat.reduceLT, d1, d2, b1, hb, c39, e1]
    refine l17 a hl _ _ (a.length - 1) 1 _ (by omega) rfl rfl ?_ ?_
    · intro h e'
      rw [h] at ha
      simp (config := {contextual := true, implicitDefEqProofs := false, maxSteps := 4000000}) only [go_sem, ↓reduceIte, Bool.false_eq_true, Nat.reduceEqDiff, Nat.reduceAdd, Int.reduceLE, Int.reduceLT, Int.reduceEq, Int.reduceToNat, Int.toNat_natCast, Int.cast_ofNat_Int, Int.natCast_one, Nat.reduceMod, Nat.reduceDiv, UInt8.reduceToNat, Nat.reduceLT, ← ha]
    · intro h e' h2
      rw [h] at ha
      simp (config := {contextual := true, implicitDefEqProofs := false, maxSteps := 4000000}) only [go_sem, ↓reduceIte, Bool.false_eq_true, Nat.reduceEqDiff, Nat.reduceAdd, Int.reduceLE, Int.reduceLT, Int.reduceEq, Int.reduceToNat, Int.toNat_natCast, Int.cast_ofNat_Int, Int.natCast_one, Nat.reduceMod, Nat.reduceDiv, UInt8.reduceToNat, Nat.reduceLT, h2, ← ha]
theorem l36 (a : List UInt8) (hl : a.length ≤ 4611686018427387904) (st : St) (Q : Sig → FE → St → Prop) : ∀ (n i : Nat) (e : FE), i + n = a.length → e 0 = .str a → e 3 = .int .i64 (i : Int) → (findByte 47 (a.drop i) i = -1 → ∀ e', Q (.exit 0) e' st) → (∀ e', e' 2 = .int .i64 (findByte 47 (a.drop i) i) → Q .ret e' st) → WLoop cx ir36L0 e st Q
  | 0, i, e, hi, h0, h3, hA, hB => by
    refine WLoop.rnd (c := _) ir36L0.eq_1 ?_
    have hd : decide ((i : Int) < (a.length : Int)) = false := decide_eq_false (by omega)
    rw [List.drop_eq_nil_of_le (by omega)] at hA
    simp (config := {contextual := true, implicitDefEqProofs := false, maxSteps := 4000000}) only [go_sem, ↓reduceIte, Bool.false_eq_true, Nat.reduceEqDiff, Nat.reduceAdd, Int.reduceLE, Int.reduceLT, Int.reduceEq, Int.reduceToNat, Int.toNat_natCast, Int.cast_ofNat_Int, Int.natCast_one, Nat.reduceMod, Nat.reduceDiv, UInt8.reduceToNat, Nat.reduceLT, h0, h3, hd]
    exact hA rfl _
  | n + 1, i, e, hi, h0, h3, hA, hB => by
    refine WLoop.rnd (c := _) ir36L0.eq_1 ?_
    have hd : decide ((i : Int) < (a.length : Int)) = true := decide_eq_true (by omega)
    have b1 : (0 : Int) ≤ (i : Int) := by omega
    have b2 : (i : Int) < (a.length : Int) := by omega
    have hw := wrap_one (i := i) (by omega)
    have ih := fun e x0 x3 => l36 a hl st Q n (i + 1) e (by omega) x0 x3
    rw [drop_at (show i < a.length by omega)] at hA hB
    obtain ⟨b, hb⟩ : ∃ b, a.getD i 0 = b := ⟨_, rfl⟩
    rw [hb] at hA hB
    simp only [findByte] at hA hB
    have f1 : decide (((b.toNat : Nat) : Int) = 47) = decide (b = 47) := byte_is 47 b
    by_cases e1 : b = 47
    · rw [decide_eq_true e1] at f1
      rw [if_pos e1] at hB
      simp (config := {contextual := true, implicitDefEqProofs := false, maxSteps := 4000000}) only [go_sem, ↓reduceIte, Bool.false_eq_true, Nat.reduceEqDiff, Nat.reduceAdd, Int.reduceLE, Int.reduceLT, Int.reduceEq, Int.reduceToNat, Int.toNat_natCast, Int.cast_ofNat_Int, Int.natCast_one, Nat.reduceMod, Nat.reduceDiv, UInt8.reduceToNat, Nat.reduceLT, h0, h3, hd, b1, b2, hb, f1, hw]
      exact hB _ rfl
    · rw [decide_eq_false e1] at f1
      rw [if_neg e1] at hA hB
      simp (config := {contextual := true, implicitDefEqProofs := false, maxSteps := 4000000}) only [go_sem, ↓reduceIte, Bool.false_eq_true, Nat.reduceEqDiff, Nat.reduceAdd, Int.reduceLE, Int.reduceLT, Int.reduceEq, Int.reduceToNat, Int.toNat_natCast, Int.cast_ofNat_Int, Int.natCast_one, Nat.reduceMod, Nat.reduceDiv, UInt8.reduceToNat, Nat.reduceLT, h0, h3, hd, b1, b2, hb, f1, hw]
      exact ih _ h0 rfl hA hB
theorem c36 (a : List UInt8) (hl : a.length ≤ 4611686018427387904) (s : St) (K : AV → St → Prop) : CallW cx 36 [.str a] s K = K (.int .i64 (findByte 47 a 0)) s := by
  refine CallW.eq (CallW.fn' (fn := ir36) rfl rfl (by kernel_rfl) ir36.eq_1 ?_) K
  simp (config := {contextual := true, implicitDefEqProofs := false, maxSteps := 4000000}) only [go_sem, ↓reduceIte, Bool.false_eq_true, Nat.reduceEqDiff, Nat.reduceAdd, Int.reduceLE, Int.reduceLT, Int.reduceEq, Int.reduceToNat, Int.toNat_natCast, Int.cast_ofNat_Int, Int.natCast_one, Nat.reduceMod, Nat.reduceDiv, UInt8.reduceToNat, Nat.reduceLT]
  refine l36 a hl _ _ a.length 0 _ (by omega) rfl rfl ?_ ?_
  · intro h e'
    have h : findByte 47 a 0 = -1 := h
    rw [h]
    simp (config := {contextual := true, implicitDefEqProofs := false, maxSteps := 4000000}) only [go_sem, ↓reduceIte, Bool.false_eq_true, Nat.reduceEqDiff, Nat.reduceAdd, Int.reduceLE, Int.reduceLT, Int.reduceEq, Int.reduceToNat, Int.toNat_natCast, Int.cast_ofNat_Int, Int.natCast_one, Nat.reduceMod, Nat.reduceDiv, UInt8.reduceToNat, Nat.reduceLT]
  · intro e' h2
    have h2 : e' 2 = .int .i64 (findByte 47 a 0) := h2
    simp (config := {contextual := true, implicitDefEqProofs := false, maxSteps := 4000000}) only [go_sem, ↓reduceIte, Bool.false_eq_true, Nat.reduceEqDiff, Nat.reduceAdd, Int.reduceLE, Int.reduceLT, Int.reduceEq, Int.reduceToNat, Int.toNat_natCast, Int.cast_ofNat_Int, Int.natCast_one, Nat.reduceMod, Nat.reduceDiv, UInt8.reduceToNat, Nat.reduceLT, h2]
theorem c19 (a : List UInt8) (hl : a.length ≤ 4611686018427387904) (s : St) (K : AV → St → Prop) : CallW cx 19 [.str a] s K = K (.bool (pathB a)) s := by
  refine CallW.eq (CallW.fn' (fn := ir19) rfl rfl (by kernel_rfl) ir19.eq_1 ?_) K
  have k := fun st K => c36 a hl st K
  unfold pathB cutB
  rcases findByte_spec 47 a 0 with h | ⟨j, h, _, hj⟩
  · rw [h] at k ⊢
    simp (config := {contextual := true, implicitDefEqProofs := false, maxSteps := 4000000}) only [go_sem, ↓reduceIte, Bool.false_eq_true, Nat.reduceEqDiff, Nat.reduceAdd, Int.reduceLE, Int.reduceLT, Int.reduceEq, Int.reduceToNat, Int.toNat_natCast, Int.cast_ofNat_Int, Int.natCast_one, Nat.reduceMod, Nat.reduceDiv, UInt8.reduceToNat, Nat.reduceLT, k]
    rfl
  · rw [h] at k ⊢
    have d1 : decide ((0 : Int) ≤ (j : Int)) = true := decide_eq_true (by omega)
    have hw := wrap_one (i := j) (by omega)
    have g1 : (0 : Int) ≤ (j : Int) ∧ (j : Int) ≤ (a.length : Int) := by omega
    have g2 : (0 : Int) ≤ ((j + 1 : Nat) : Int) ∧ ((j + 1 : Nat) : Int) ≤ (a.length : Int) := by omega
    have k1 := fun st K => c17 (a.take j) (by rw [List.length_take]; omega) st K
    have k2 := fun st K => c17 (a.drop (j + 1)) (by rw [List.length_drop]; omega) st K
    cases e1 : nameB (a.take j) with
    | false =>
      rw [e1] at k1
      simp (config := {contextual := true, implicitDefEqProofs := false, maxSteps := 4000000}) only [go_sem, ↓reduceIte, Bool.false_eq_true, Nat.reduceEqDiff, Nat.reduceAdd, Int.reduceLE, Int.reduceLT, Int.reduceEq, Int.reduceToNat, Int.toNat_natCast, Int.cast_ofNat_Int, Int.natCast_one, Nat.reduceMod, Nat.reduceDiv, UInt8.reduceToNat, Nat.reduceLT, k, d1, hw, g1, g2, k1, e1]
    | true =>
      rw [e1] at k1
      simp (config := {contextual := true, implicitDefEqProofs := false, maxSteps := 4000000}) only [go_sem, ↓reduceIte, Bool.false_eq_true, Nat.reduceEqDiff, Nat.reduceAdd, Int.reduceLE, Int.reduceLT, Int.reduceEq, Int.reduceToNat, Int.toNat_natCast, Int.cast_ofNat_Int, Int.natCast_one, Nat.reduceMod, Nat.reduceDiv, UInt8.reduceToNat, Nat.reduceLT, k, d1, hw, g1, g2, k1, k2, e1]
theorem c15 (a : List UInt8) (hl : a.length ≤ 4611686018427387904) (s : St) (K : AV → St → Prop) : CallW cx 15 [.str a] s K = K (.tuple [.str (splB a).1, .str (splB a).2.1, .int .i64 (splB a).2.2]) s := by
  refine CallW.eq (CallW.fn' (fn := ir15) rfl rfl (by kernel_rfl) ir15.eq_1 ?_) K
  have k := fun st K => c36 a hl st K
  have k2 := fun st K => c19 a hl st K
  unfold splB
  cases hp : pathB a with
  | false =>
    rw [hp] at k2
    simp (config := {contextual := true, implicitDefEqProofs := false, maxSteps := 4000000}) only [go_sem, ↓reduceIte, Bool.false_eq_true, Nat.reduceEqDiff, Nat.reduceAdd, Int.reduceLE, Int.reduceLT, Int.reduceEq, Int.reduceToNat, Int.toNat_natCast, Int.cast_ofNat_Int, Int.natCast_one, Nat.reduceMod, Nat.reduceDiv, UInt8.reduceToNat, Nat.reduceLT, k2]
  | true =>
    rw [hp] at k2
    unfold pathB at hp
    unfold cutB at hp ⊢
    rcases findByte_spec 47 a 0 with h | ⟨j, h, _, hj⟩
    · rw [h] at hp
      cases hp
    · rw [h] at k ⊢
      have hw := wrap_one (i := j) (by omega)
      have g1 : (0 : Int) ≤ (j : Int) ∧ (j : Int) ≤ (a.length : Int) := by omega
      have g2 : (0 : Int) ≤ ((j + 1 : Nat) : Int) ∧ ((j + 1 : Nat) : Int) ≤ (a.length : Int) := by omega
      simp (config := {contextual := true, implicitDefEqProofs := false, maxSteps := 4000000}) only [go_sem, ↓reduceIte, Bool.false_eq_true, Nat.reduceEqDiff, Nat.reduceAdd, Int.reduceLE, Int.reduceLT, Int.reduceEq, Int.reduceToNat, Int.toNat_natCast, Int.cast_ofNat_Int, Int.natCast_one, Nat.reduceMod, Nat.reduceDiv, UInt8.reduceToNat, Nat.reduceLT, k2, k, hw, g1, g2]
theorem l43 (a : List UInt8) (hl : a.length ≤ 4611686018427387904) (st : St) (Q : Sig → FE → St → Prop) : ∀ (n i : Nat) (e : FE), i + n = a.length → e 0 = .str a → e 3 = .int .i64 (i : Int) → ((a.drop i).all isPl = true → ∀ e', Q (.exit 0) e' st) → ((a.drop i).all isPl = false → ∀ e', e' 2 = .bool false → Q .ret e' st) → WLoop cx ir43L0 e st Q
  | 0, i, e, hi, h0, h3, hA, hB => by
    refine WLoop.rnd (c := _) ir43L0.eq_1 ?_
    have hd : decide ((i : Int) < (a.length : Int)) = false := decide_eq_false (by omega)
    rw [List.drop_eq_nil_of_le (by omega)] at hA
    simp (config := {contextual := true, implicitDefEqProofs := false, maxSteps := 4000000}) only [go_sem, ↓reduceIte, Bool.false_eq_true, Nat.reduceEqDiff, Nat.reduceAdd, Int.reduceLE, Int.reduceLT, Int.reduceEq, Int.reduceToNat, Int.toNat_natCast, Int.cast_ofNat_Int, Int.natCast_one, Nat.reduceMod, Nat.reduceDiv, UInt8.reduceToNat, Nat.reduceLT, h0, h3, hd]
    exact hA rfl _
  | n + 1, i, e, hi, h0, h3, hA, hB => by
    refine WLoop.rnd (c := _) ir43L0.eq_1 ?_
    have hd : decide ((i : Int) < (a.length : Int)) = true := decide_eq_true (by omega)
    have b1 : (0 : Int) ≤ (i : Int) := by omega
    have b2 : (i : Int) < (a.length : Int) := by omega
    have hw := wrap_one (i := i) (by omega)
    have ih := fun e x0 x3 => l43 a hl st Q n (i + 1) e (by omega) x0 x3
    rw [drop_at (show i < a.length by omega)] at hA hB
    obtain ⟨b, hb⟩ : ∃ b, a.getD i 0 = b := ⟨_, rfl⟩
    rw [hb] at hA hB
    simp only [List.all_cons] at hA hB
    have f1 : decide (((b.toNat : Nat) : Int) < 32) = !decide (32 ≤ b.toNat) := by rw [← decide_not]; exact decide_eq_decide.2 (by omega)
    have f2 : decide ((126 : Int) < ((b.toNat : Nat) : Int)) = !decide (b.toNat ≤ 126) := by rw [← decide_not]; exact decide_eq_decide.2 (by omega)
    have qb : isPl b = (decide (32 ≤ b.toNat) && decide (b.toNat ≤ 126)) := rfl
    rw [qb] at hA hB
    cases e1 : decide (32 ≤ b.toNat) with
    | false =>
      rw [e1] at f1 hB
      simp (config := {contextual := true, implicitDefEqProofs := false, maxSteps := 4000000}) only [go_sem, ↓reduceIte, Bool.false_eq_true, Nat.reduceEqDiff, Nat.reduceAdd, Int.reduceLE, Int.reduceLT, Int.reduceEq, Int.reduceToNat, Int.toNat_natCast, Int.cast_ofNat_Int, Int.natCast_one, Nat.reduceMod, Nat.reduceDiv, UInt8.reduceToNat, Nat.reduceLT, h0, h3, hd, b1, b2, hb, f1, hw]
      exact hB rfl _ rfl
    | true =>
    cases e2 : decide (b.toNat ≤ 126) with
    | false =>
      rw [e1] at f1 hB
      rw [e2] at f2 hB
      simp (config := {contextual := true, implicitDefEqProofs := false, maxSteps := 4000000}) only [go_sem, ↓reduceIte, Bool.false_eq_true, Nat.reduceEqDiff, Nat.reduceAdd, Int.reduceLE, Int.reduceLT, Int.reduceEq, Int.reduceToNat, Int.toNat_natCast, Int.cast_ofNat_Int, Int.natCast_one, Nat.reduceMod, Nat.reduceDiv, UInt8.reduceToNat, Nat.reduceLT, h0, h3, hd, b1, b2, hb, f1, f2, hw]
      exact hB rfl _ rfl
    | true =>
      rw [e1] at f1 hA hB
      rw [e2] at f2 hA hB
      simp (config := {contextual := true, implicitDefEqProofs := false, maxSteps := 4000000}) only [go_sem, ↓reduceIte, Bool.false_eq_true, Nat.reduceEqDiff, Nat.reduceAdd, Int.reduceLE, Int.reduceLT, Int.reduceEq, Int.reduceToNat, Int.toNat_natCast, Int.cast_ofNat_Int, Int.natCast_one, Nat.reduceMod, Nat.reduceDiv, UInt8.reduceToNat, Nat.reduceLT, h0, h3, hd, b1, b2, hb, f1, f2, hw]
      exact ih _ h0 rfl (fun h => hA (by simpa using h)) (fun h => hB (by simpa using h))
theorem c43 (a : List UInt8) (hl : a.length ≤ 4611686018427387904) (s : St) (K : AV → St → Prop) : CallW cx 43 [.str a] s K = K (.bool (a.all isPl)) s := by
  refine CallW.eq (CallW.fn' (fn := ir43) rfl rfl (by kernel_rfl) ir43.eq_1 ?_) K
  simp (config := {contextual := true, implicitDefEqProofs := false, maxSteps := 4000000}) only [go_sem, ↓reduceIte, Bool.false_eq_true, Nat.reduceEqDiff, Nat.reduceAdd, Int.reduceLE, Int.reduceLT, Int.reduceEq, Int.reduceToNat, Int.toNat_natCast, Int.cast_ofNat_Int, Int.natCast_one, Nat.reduceMod, Nat.reduceDiv, UInt8.reduceToNat, Nat.reduceLT]
  refine l43 a hl _ _ a.length 0 _ (by omega) rfl rfl ?_ ?_
  · intro h e'
    have h : a.all isPl = true := h
    rw [h]
    simp (config := {contextual := true, implicitDefEqProofs := false, maxSteps := 4000000}) only [go_sem, ↓reduceIte, Bool.false_eq_true, Nat.reduceEqDiff, Nat.reduceAdd, Int.reduceLE, Int.reduceLT, Int.reduceEq, Int.reduceToNat, Int.toNat_natCast, Int.cast_ofNat_Int, Int.natCast_one, Nat.reduceMod, Nat.reduceDiv, UInt8.reduceToNat, Nat.reduceLT]
  · intro h e' h2
    have h : a.all isPl = false := h
    rw [h]
    simp (config := {contextual := true, implicitDefEqProofs := false, maxSteps := 4000000}) only [go_sem, ↓reduceIte, Bool.false_eq_true, Nat.reduceEqDiff, Nat.reduceAdd, Int.reduceLE, Int.reduceLT, Int.reduceEq, Int.reduceToNat, Int.toNat_natCast, Int.cast_ofNat_Int, Int.natCast_one, Nat.reduceMod, Nat.reduceDiv, UInt8.reduceToNat, Nat.reduceLT, h2]
def noQ (b : UInt8) : Bool := !decide (b = 34)
theorem noQ_all : ∀ (a : List UInt8) (i : Nat), a.all noQ = !decide (0 ≤ findByte 34 a i)
  | [], i => rfl
  | b :: l, i => by
    have ih := noQ_all l (i + 1)
    have e : (b :: l).all noQ = (!decide (b = 34) && l.all noQ) := rfl
    have f : findByte 34 (b :: l) i = if b = 34 then (i : Int) else findByte 34 l (i + 1) := rfl
    by_cases h : b = 34
    · rw [if_pos h] at f
      rw [e, f, decide_eq_true h, decide_eq_true (show (0 : Int) ≤ (i : Int) by omega)]; rfl
    · rw [if_neg h] at f
      rw [e, f, decide_eq_false h, ih]; rfl
theorem l21 (a : List UInt8) (hl : a.length ≤ 4611686018427387904) (st : St) (Q : Sig → FE → St → Prop) : ∀ (n i : Nat) (e : FE), i + n = a.length → e 0 = .str a → e 3 = .int .i64 (i : Int) → ((a.drop i).all noQ = true → ∀ e', Q (.exit 0) e' st) → ((a.drop i).all noQ = false → ∀ e', e' 2 = .bool false → Q .ret e' st) → WLoop cx ir21L0 e st Q
  | 0, i, e, hi, h0, h3, hA, hB => by
    refine WLoop.rnd (c := _) ir21L0.eq_1 ?_
    have hd : decide ((i : Int) < (a.length : Int)) = false := decide_eq_false (by omega)
    rw [List.drop_eq_nil_of_le (by omega)] at hA
    simp (config := {contextual := true, implicitDefEqProofs := false, maxSteps := 4000000}) only [go_sem, ↓reduceIte, Bool.false_eq_true, Nat.reduceEqDiff, Nat.reduceAdd, Int.reduceLE, Int.reduceLT, Int.reduceEq, Int.reduceToNat, Int.toNat_natCast, Int.cast_ofNat_Int, Int.natCast_one, Nat.reduceMod, Nat.reduceDiv, UInt8.reduceToNat, Nat.reduceLT, h0, h3, hd]
    exact hA rfl _
  | n + 1, i, e, hi, h0, h3, hA, hB => by
    refine WLoop.rnd (c := _) ir21L0.eq_1 ?_
    have hd : decide ((i : Int) < (a.length : Int)) = true := decide_eq_true (by omega)
    have b1 : (0 : Int) ≤ (i : Int) := by omega
    have b2 : (i : Int) < (a.length : Int) := by omega
    have hw := wrap_one (i := i) (by omega)
    have ih := fun e x0 x3 => l21 a hl st Q n (i + 1) e (by omega) x0 x3
    rw [drop_at (show i < a.length by omega)] at hA hB
    obtain ⟨b, hb⟩ : ∃ b, a.getD i 0 = b := ⟨_, rfl⟩
    rw [hb] at hA hB
    simp only [List.all_cons] at hA hB
    have f1 : decide (((b.toNat : Nat) : Int) = 34) = decide (b = 34) := byte_is 34 b
    have qb : noQ b = !decide (b = 34) := rfl
    rw [qb] at hA hB
    cases e1 : decide (b = 34) with
    | true =>
      rw [e1] at f1 hB
      simp (config := {contextual := true, implicitDefEqProofs := false, maxSteps := 4000000}) only [go_sem, ↓reduceIte, Bool.false_eq_true, Nat.reduceEqDiff, Nat.reduceAdd, Int.reduceLE, Int.reduceLT, Int.reduceEq, Int.reduceToNat, Int.toNat_natCast, Int.cast_ofNat_Int, Int.natCast_one, Nat.reduceMod, Nat.reduceDiv, UInt8.reduceToNat, Nat.reduceLT, h0, h3, hd, b1, b2, hb, f1, hw]
      exact hB rfl _ rfl
    | false =>
      rw [e1] at f1 hA hB
      simp (config := {contextual := true, implicitDefEqProofs := false, maxSteps := 4000000}) only [go_sem, ↓reduceIte, Bool.false_eq_true, Nat.reduceEqDiff, Nat.reduceAdd, Int.reduceLE, Int.reduceLT, Int.reduceEq, Int.reduceToNat, Int.toNat_natCast, Int.cast_ofNat_Int, Int.natCast_one, Nat.reduceMod, Nat.reduceDiv, UInt8.reduceToNat, Nat.reduceLT, h0, h3, hd, b1, b2, hb, f1, hw]
      exact ih _ h0 rfl (fun h => hA (by simpa using h)) (fun h => hB (by simpa using h))
theorem c21 (a : List UInt8) (hl : a.length ≤ 4611686018427387904) (s : St) (K : AV → St → Prop) : CallW cx 21 [.str a] s K = K (.bool (labB a)) s := by
  refine CallW.eq (CallW.fn' (fn := ir21) rfl rfl (by kernel_rfl) ir21.eq_1 ?_) K
  have kp := fun st K => c43 a hl st K
  unfold labB
  by_cases h1 : 1 ≤ a.length
  case neg =>
    have d1 : decide ((a.length : Int) < 1) = true := decide_eq_true (by omega)
    rw [decide_eq_false h1]
    simp (config := {contextual := true, implicitDefEqProofs := false, maxSteps := 4000000}) only [go_sem, ↓reduceIte, Bool.false_eq_true, Nat.reduceEqDiff, Nat.reduceAdd, Int.reduceLE, Int.reduceLT, Int.reduceEq, Int.reduceToNat, Int.toNat_natCast, Int.cast_ofNat_Int, Int.natCast_one, Nat.reduceMod, Nat.reduceDiv, UInt8.reduceToNat, Nat.reduceLT, d1]
  have d1 : decide ((a.length : Int) < 1) = false := decide_eq_false (by omega)
  rw [decide_eq_true h1]
  by_cases h2 : a.length ≤ 40
  case neg =>
    have d2 : decide ((40 : Int) < (a.length : Int)) = true := decide_eq_true (by omega)
    rw [decide_eq_false h2]
    simp (config := {contextual := true, implicitDefEqProofs := false, maxSteps := 4000000}) only [go_sem, ↓reduceIte, Bool.false_eq_true, Nat.reduceEqDiff, Nat.reduceAdd, Int.reduceLE, Int.reduceLT, Int.reduceEq, Int.reduceToNat, Int.toNat_natCast, Int.cast_ofNat_Int, Int.natCast_one, Nat.reduceMod, Nat.reduceDiv, UInt8.reduceToNat, Nat.reduceLT, d1, d2]
  have d2 : decide ((40 : Int) < (a.length : Int)) = false := decide_eq_false (by omega)
  rw [decide_eq_true h2]
  cases h3 : a.all isPl with
  | false =>
    rw [h3] at kp
    simp (config := {contextual := true, implicitDefEqProofs := false, maxSteps := 4000000}) only [go_sem, ↓reduceIte, Bool.false_eq_true, Nat.reduceEqDiff, Nat.reduceAdd, Int.reduceLE, Int.reduceLT, Int.reduceEq, Int.reduceToNat, Int.toNat_natCast, Int.cast_ofNat_Int, Int.natCast_one, Nat.reduceMod, Nat.reduceDiv, UInt8.reduceToNat, Nat.reduceLT, d1, d2, kp]
  | true =>
    rw [h3] at kp
    have b1 : (0 : Int) < (a.length : Int) := by omega
    have w1 : IntKind.i64.wrap ((a.length : Int) - 1) = ((a.length - 1 : Nat) : Int) := by rw [wrap_i64 (by omega) (by omega)]; omega
    have b2 : (0 : Int) ≤ ((a.length - 1 : Nat) : Int) := by omega
    have b3 : ((a.length - 1 : Nat) : Int) < (a.length : Int) := by omega
    obtain ⟨x, hx⟩ : ∃ b, a.getD 0 0 = b := ⟨_, rfl⟩
    obtain ⟨y, hy⟩ : ∃ b, a.getD (a.length - 1) 0 = b := ⟨_, rfl⟩
    have f1 : decide (((x.toNat : Nat) : Int) = 32) = decide (x = 32) := byte_is 32 x
    have f2 : decide (((y.toNat : Nat) : Int) = 32) = decide (y = 32) := byte_is 32 y
    rw [hx, hy, ← noQ_all a 0]
    have hn := noQ_all a 0
    by_cases e1 : x = 32
    · rw [decide_eq_true e1] at f1
      rw [decide_eq_false (show ¬ x ≠ 32 by simp [e1]), Bool.false_and, Bool.and_false]
      simp (config := {contextual := true, implicitDefEqProofs := false, maxSteps := 4000000}) only [go_sem, ↓reduceIte, Bool.false_eq_true, Nat.reduceEqDiff, Nat.reduceAdd, Int.reduceLE, Int.reduceLT, Int.reduceEq, Int.reduceToNat, Int.toNat_natCast, Int.cast_ofNat_Int, Int.natCast_one, Nat.reduceMod, Nat.reduceDiv, UInt8.reduceToNat, Nat.reduceLT, d1, d2, kp, b1, hx, f1]
    rw [decide_eq_false e1] at f1
    rw [decide_eq_true (show x ≠ 32 from e1)]
    by_cases e2 : y = 32
    · rw [decide_eq_true e2] at f2
      rw [decide_eq_false (show ¬ y ≠ 32 by simp [e2]), Bool.and_false, Bool.and_false]
      simp (config := {contextual := true, implicitDefEqProofs := false, maxSteps := 4000000}) only [go_sem, ↓reduceIte, Bool.false_eq_true, Nat.reduceEqDiff, Nat.reduceAdd, Int.reduceLE, Int.reduceLT, Int.reduceEq, Int.reduceToNat, Int.toNat_natCast, Int.cast_ofNat_Int, Int.natCast_one, Nat.reduceMod, Nat.reduceDiv, UInt8.reduceToNat, Nat.reduceLT, d1, d2, kp, b1, hx, f1, w1, b2, b3, hy, f2]
    rw [decide_eq_false e2] at f2
    rw [decide_eq_true (show y ≠ 32 from e2)]
    simp (config := {contextual := true, implicitDefEqProofs := false, maxSteps := 4000000}) only [go_sem, ↓reduceIte, Bool.false_eq_true, Nat.reduceEqDiff, Nat.reduceAdd, Int.reduceLE, Int.reduceLT, Int.reduceEq, Int.reduceToNat, Int.toNat_natCast, Int.cast_ofNat_Int, Int.natCast_one, Nat.reduceMod, Nat.reduceDiv, UInt8.reduceToNat, Nat.reduceLT, d1, d2, kp, b1, hx, f1, w1, b2, b3, hy, f2]
    refine l21 a hl _ _ a.length 0 _ (by omega) rfl rfl ?_ ?_
    · intro h e'
      have h : a.all noQ = true := h
      rw [h]
      simp (config := {contextual := true, implicitDefEqProofs := false, maxSteps := 4000000}) only [go_sem, ↓reduceIte, Bool.false_eq_true, Nat.reduceEqDiff, Nat.reduceAdd, Int.reduceLE, Int.reduceLT, Int.reduceEq, Int.reduceToNat, Int.toNat_natCast, Int.cast_ofNat_Int, Int.natCast_one, Nat.reduceMod, Nat.reduceDiv, UInt8.reduceToNat, Nat.reduceLT]
    · intro h e' h2
      have h : a.all noQ = false := h
      rw [h]
      simp (config := {contextual := true, implicitDefEqProofs := false, maxSteps := 4000000}) only [go_sem, ↓reduceIte, Bool.false_eq_true, Nat.reduceEqDiff, Nat.reduceAdd, Int.reduceLE, Int.reduceLT, Int.reduceEq, Int.reduceToNat, Int.toNat_natCast, Int.cast_ofNat_Int, Int.natCast_one, Nat.reduceMod, Nat.reduceDiv, UInt8.reduceToNat, Nat.reduceLT, h2]
end T17
