/- Parts of the proof, one behind the other. -/
import Derived.Test.YteaoeaapmjeciaaGreatDoorK18d
import Derived.Test.YteaoeaapmjeciaaGreatDoorFwX
import Derived.Test.YteaoeaapmjeciaaGreatDoorFwG
set_option linter.unusedSimpArgs false
set_option linter.unusedVariables false

/- Small facts: a string from a place on, counting on, bytes. -/
namespace T18
open Go Fw Go.Proofs
set_option maxRecDepth 100000
set_option linter.unusedSimpArgs false
set_option linter.unusedVariables false
theorem drop_at {a : List UInt8} {i : Nat} (h : i < a.length) : a.drop i = a.getD i 0 :: a.drop (i + 1) := by
  rw [List.drop_eq_getElem_cons h]; simp [List.getD, h]
theorem wrap_one {i : Nat} (h : i < 9223372036854775807) : IntKind.i64.wrap ((i : Int) + 1) = ((i + 1 : Nat) : Int) := by rw [wrap_i64 (by omega) (by omega)]; rfl
theorem byte_eq {c : UInt8} {n : UInt8} (h : (c.toNat : Int) = (n.toNat : Int)) : c = n := UInt8.toNat.inj (by omega)
end T18


/- Slices whose room is known or not; tokens, and how they lie in the machine's cells. -/
namespace T18
open Go Fw Go.Proofs
set_option maxRecDepth 100000
set_option linter.unusedSimpArgs false
set_option linter.unusedVariables false
theorem sub_append_left {us bs : List AV} {j n : Nat} (h : j + n ≤ us.length) : sub (us ++ bs) j n = sub us j n := by
  unfold sub
  rw [if_pos h, if_pos (by simp; omega)]
  congr 1
  rw [List.drop_append_of_le_length (by omega), List.take_append_of_le_length (by simp; omega)]
theorem sub_append_right {us bs : List AV} {j n : Nat} : sub (us ++ bs) (us.length + j) n = sub bs j n := by
  unfold sub
  simp only [List.length_append, List.drop_append, List.drop_eq_nil_of_le (Nat.le_add_right us.length j), Nat.add_sub_cancel_left, List.nil_append]
  by_cases h : j + n ≤ bs.length
  · rw [if_pos h, if_pos (by omega)]
  · rw [if_neg h, if_neg (by omega)]
/-- A slice that is nil, or has no room, or of whose room nothing is known. -/
abbrev TN := Bool × Bool
def ow (b : Bool) : Own := if b = true then .full else .no
def slt (b : TN) (n : Nat) (cs : List AV) : AV := if b.1 = true ∧ n = 0 then .nilslice else .slice cs n (ow b.2)
theorem slt_no (n : Nat) (cs : List AV) : slt (false, false) n cs = .slice cs n .no := rfl
theorem lenv_slt (b : TN) (n : Nat) (cs : List AV) : lenvA (slt b n cs) = some (.int .i64 n) := by
  unfold slt; split
  · rename_i h; rw [h.2]; rfl
  · rfl
theorem iaddr_slt (z : Nat) (b : TN) (n : Nat) (cs : List AV) (i : Int) (K : AV → Prop) : oget (iaddrA z none (slt b n cs) i) K = ((0 ≤ i ∧ i < n) ∧ K (.vptr cs (i.toNat * z))) := by
  unfold slt; split
  · rename_i h; rw [h.2]; simp only [iaddrA, oget_none, eq_iff_iff, false_iff]; omega
  · exact oget_iaddr_slice z cs n (ow b.2) i K
theorem cells_slt (b : TN) (n : Nat) (cs : List AV) : (slt b n cs).cells = [slt b n cs] := by unfold slt; split <;> rfl
theorem one_slt (b : TN) (n : Nat) (cs : List AV) : (slt b n cs).one = true := by unfold slt; split <;> rfl
theorem strip_slt (b : TN) (n : Nat) (cs : List AV) : (slt b n cs).strip = slt b n cs := by
  unfold slt ow; split
  · rfl
  · split <;> rfl
theorem cellsOf_slt (st : St) (z : Nat) (b : TN) (n : Nat) (cs : List AV) (h : cs.length = n * z) : cellsOf st z (slt b n cs) = some cs := by
  unfold slt; split
  · rename_i h2
    have : cs = [] := List.eq_nil_of_length_eq_zero (by rw [h, h2.2, Nat.zero_mul])
    rw [this]; rfl
  · simp only [cellsOf]; rw [if_pos h]
theorem count_slt (b : TN) (n : Nat) (cs : List AV) : (slt b n cs).count = some n := by
  unfold slt; split
  · rename_i h; rw [h.2]; rfl
  · rfl
theorem al_slt (b : TN) (n : Nat) (cs : List AV) (h : alAll (fun _ => false) cs = true) : (slt b n cs).al (fun _ => false) = true := by
  unfold slt ow; split
  · rfl
  · split <;> simp [AV.al, Own.al, h]
attribute [go_sem] lenv_slt cells_slt one_slt strip_slt
attribute [go_sem ↓] iaddr_slt
structure Tok where
  k : Int
  t : List UInt8
  n : Int
  p : Int
  deriving Inhabited, DecidableEq
def encT (t : Tok) : List AV := [.int .i64 t.k, .str t.t, .int .i64 t.n, .int .i64 t.p]
def encTs : List Tok → List AV
  | [] => []
  | t :: ts => encT t ++ encTs ts
theorem encT_length (t : Tok) : (encT t).length = 4 := rfl
theorem sub_encTs : ∀ (ts : List Tok) (i : Nat) (h : i < ts.length) (j n : Nat), j + n ≤ 4 → sub (encTs ts) (i * 4 + j) n = sub (encT ts[i]) j n
  | t :: ts, 0, h, j, n, hj => by
    simp only [encTs, Nat.zero_mul, Nat.zero_add, List.getElem_cons_zero]
    exact sub_append_left (by rw [encT_length]; exact hj)
  | t :: ts, i + 1, h, j, n, hj => by
    simp only [encTs, List.getElem_cons_succ]
    rw [show (i + 1) * 4 + j = (encT t).length + (i * 4 + j) by rw [encT_length]; omega, sub_append_right]
    exact sub_encTs ts i (by simpa using h) j n hj
theorem encTs_length : ∀ ts : List Tok, (encTs ts).length = ts.length * 4
  | [] => by simp [encTs]
  | t :: ts => by simp [encTs, encT_length, encTs_length ts]; omega
theorem encTs_append : ∀ a b : List Tok, encTs (a ++ b) = encTs a ++ encTs b
  | [], b => rfl
  | t :: a, b => by simp only [List.cons_append, encTs, encTs_append a b, List.append_assoc]
theorem encTs_al : ∀ ts : List Tok, alAll (fun _ => false) (encTs ts) = true
  | [] => rfl
  | t :: ts => by simp [encTs, encT, alAll, AV.al, encTs_al ts]
theorem encTs_one : ∀ ts : List Tok, (encTs ts).all AV.one = true
  | [] => rfl
  | t :: ts => by simp [encTs, encT, AV.one, encTs_one ts]
theorem encTs_strip : ∀ ts : List Tok, (encTs ts).map AV.strip = encTs ts
  | [] => rfl
  | t :: ts => by simp [encTs, encT, AV.strip, encTs_strip ts]
section
variable {ts : List Tok} {i : Nat} (h : i < ts.length)
include h
theorem sub_tok : sub (encTs ts) (i * 4) 4 = some [.int .i64 ts[i].k, .str ts[i].t, .int .i64 ts[i].n, .int .i64 ts[i].p] := by
  have := sub_encTs ts i h 0 4 (by omega)
  rw [Nat.add_zero] at this
  rw [this]; rfl
theorem sub_tk : sub (encTs ts) (i * 4) 1 = some [.int .i64 ts[i].k] := by
  have := sub_encTs ts i h 0 1 (by omega)
  rw [Nat.add_zero] at this
  rw [this]; rfl
theorem sub_tt : sub (encTs ts) (i * 4 + 1) 1 = some [.str ts[i].t] := by rw [sub_encTs ts i h 1 1 (by omega)]; rfl
theorem sub_tp : sub (encTs ts) (i * 4 + 3) 1 = some [.int .i64 ts[i].p] := by rw [sub_encTs ts i h 3 1 (by omega)]; rfl
end
end T18


/- Strings of the library: the search for a byte, Cut, CutPrefix, Trim and TrimRight at a byte. -/
namespace T18
open Go Fw Go.Proofs
set_option maxRecDepth 100000
set_option linter.unusedSimpArgs false
set_option linter.unusedVariables false
theorem findByte_spec (c : UInt8) : ∀ (l : List UInt8) (i : Nat), findByte c l i = -1 ∨ ∃ j : Nat, findByte c l i = (j : Int) ∧ i ≤ j ∧ j < i + l.length
  | [], i => .inl rfl
  | b :: l, i => by
    simp only [findByte]
    by_cases h : b = c
    · rw [if_pos h]; exact .inr ⟨i, rfl, Nat.le_refl _, by simp⟩
    · rw [if_neg h]
      rcases findByte_spec c l (i + 1) with h1 | ⟨j, h1, h2, h3⟩
      · exact .inl h1
      · exact .inr ⟨j, h1, by omega, by simp at h3 ⊢; omega⟩
theorem c67 (a : List UInt8) (c : Int) (s : St) (K : AV → St → Prop) : CallW cx 67 [.str a, .int .u8 c] s K = K (.int .i64 (findByte c.toNat.toUInt8 a 0)) s :=
  CallW.eq (CallW.ext (g := xIndexByte) rfl (by simp only [xIndexByte, oget_some, and_self])) K
theorem c53 (a : List UInt8) (c : Int) (s : St) (K : AV → St → Prop) : CallW cx 53 [.str a, .int .u8 c] s K = K (.int .i64 (findByte c.toNat.toUInt8 a 0)) s := by
  refine CallW.eq (CallW.fn' (fn := ir53) rfl rfl (by kernel_rfl) ir53.eq_1 ?_) K
  simp (config := {contextual := true, implicitDefEqProofs := false, maxSteps := 4000000}) only [go_sem, ↓reduceIte, Bool.false_eq_true, Nat.reduceEqDiff, Nat.reduceAdd, Int.reduceLE, Int.reduceLT, Int.reduceEq, Int.reduceToNat, Int.toNat_natCast, Int.cast_ofNat_Int, Int.natCast_one, Nat.reduceMod, Nat.reduceDiv, UInt8.reduceToNat, Nat.reduceLT, c67]
theorem u8_back (c : UInt8) : ((c.toNat : Int).toNat).toUInt8 = c := by simp
theorem c66 (a : List UInt8) (c : UInt8) (s : St) (K : AV → St → Prop) : CallW cx 66 [.str a, .str [c]] s K = K (.int .i64 (findByte c a 0)) s := by
  refine CallW.eq (CallW.fn' (fn := ir66) rfl rfl (by kernel_rfl) ir66.eq_1 ?_) K
  by_cases ha : [c] = a
  · have hx : decide ([c] = a) = true := by simp [ha]
    simp (config := {contextual := true, implicitDefEqProofs := false, maxSteps := 4000000}) only [go_sem, ↓reduceIte, Bool.false_eq_true, Nat.reduceEqDiff, Nat.reduceAdd, Int.reduceLE, Int.reduceLT, Int.reduceEq, Int.reduceToNat, Int.toNat_natCast, Int.cast_ofNat_Int, Int.natCast_one, Nat.reduceMod, Nat.reduceDiv, UInt8.reduceToNat, Nat.reduceLT, c53, hx, u8_back, Int.toNat_natCast, UInt8.ofNat_toNat, Nat.toUInt8_eq]
    subst ha; simp [findByte]
  · have hx : decide ([c] = a) = false := by simp [ha]
    simp (config := {contextual := true, implicitDefEqProofs := false, maxSteps := 4000000}) only [go_sem, ↓reduceIte, Bool.false_eq_true, Nat.reduceEqDiff, Nat.reduceAdd, Int.reduceLE, Int.reduceLT, Int.reduceEq, Int.reduceToNat, Int.toNat_natCast, Int.cast_ofNat_Int, Int.natCast_one, Nat.reduceMod, Nat.reduceDiv, UInt8.reduceToNat, Nat.reduceLT, c53, hx, u8_back, Int.toNat_natCast, UInt8.ofNat_toNat, Nat.toUInt8_eq]
/-- Where a byte stands first: what stands ahead of it and behind it. -/
def cutB (c : UInt8) (a : List UInt8) : List UInt8 × List UInt8 × Bool := match findByte c a 0 with
  | .ofNat j => (a.take j, a.drop (j + 1), true)
  | .negSucc _ => (a, [], false)
theorem c81 (a : List UInt8) (ha : a.length ≤ 4611686018427387904) (c : UInt8) (s : St) (K : AV → St → Prop) : CallW cx 81 [.str a, .str [c]] s K = K (.tuple [.str (cutB c a).1, .str (cutB c a).2.1, .bool (cutB c a).2.2]) s := by
  refine CallW.eq (CallW.fn' (fn := ir81) rfl rfl (by kernel_rfl) ir81.eq_1 ?_) K
  rcases findByte_spec c a 0 with h | ⟨j, h, _, hj⟩
  · simp (config := {contextual := true, implicitDefEqProofs := false, maxSteps := 4000000}) only [go_sem, ↓reduceIte, Bool.false_eq_true, Nat.reduceEqDiff, Nat.reduceAdd, Int.reduceLE, Int.reduceLT, Int.reduceEq, Int.reduceToNat, Int.toNat_natCast, Int.cast_ofNat_Int, Int.natCast_one, Nat.reduceMod, Nat.reduceDiv, UInt8.reduceToNat, Nat.reduceLT, c66, h]
    unfold cutB; rw [h]; rfl
  · have hx : decide (0 ≤ (j : Int)) = true := by simp
    have hw := wrap_one (i := j) (by omega)
    have e : cutB c a = (a.take j, a.drop (j + 1), true) := by unfold cutB; rw [h]
    simp (config := {contextual := true, implicitDefEqProofs := false, maxSteps := 4000000}) only [go_sem, ↓reduceIte, Bool.false_eq_true, Nat.reduceEqDiff, Nat.reduceAdd, Int.reduceLE, Int.reduceLT, Int.reduceEq, Int.reduceToNat, Int.toNat_natCast, Int.cast_ofNat_Int, Int.natCast_one, Nat.reduceMod, Nat.reduceDiv, UInt8.reduceToNat, Nat.reduceLT, c66, hx, h, hw, e]
    omega
theorem c72 (a : List UInt8) (ha : a.length ≤ 4611686018427387904) (c : UInt8) (s : St) (K : AV → St → Prop) : CallW cx 72 [.str a, .str [c]] s K = K (.tuple [.str (cutB c a).1, .str (cutB c a).2.1, .bool (cutB c a).2.2]) s := by
  refine CallW.eq (CallW.fn' (fn := ir72) rfl rfl (by kernel_rfl) ir72.eq_1 ?_) K
  have k := fun st K => c81 a ha c st K
  simp (config := {contextual := true, implicitDefEqProofs := false, maxSteps := 4000000}) only [go_sem, ↓reduceIte, Bool.false_eq_true, Nat.reduceEqDiff, Nat.reduceAdd, Int.reduceLE, Int.reduceLT, Int.reduceEq, Int.reduceToNat, Int.toNat_natCast, Int.cast_ofNat_Int, Int.natCast_one, Nat.reduceMod, Nat.reduceDiv, UInt8.reduceToNat, Nat.reduceLT, k, List.getElem?_cons_zero, List.getElem?_cons_succ]
theorem c85 (a : List UInt8) (c : UInt8) (s : St) (K : AV → St → Prop) : CallW cx 85 [.str a, .str [c]] s K = K (.bool (decide (a.head? = some c))) s := by
  refine CallW.eq (CallW.fn' (fn := ir85) rfl rfl (by kernel_rfl) ir85.eq_1 ?_) K
  cases a with
  | nil => simp (config := {contextual := true, implicitDefEqProofs := false, maxSteps := 4000000}) only [go_sem, ↓reduceIte, Bool.false_eq_true, Nat.reduceEqDiff, Nat.reduceAdd, Int.reduceLE, Int.reduceLT, Int.reduceEq, Int.reduceToNat, Int.toNat_natCast, Int.cast_ofNat_Int, Int.natCast_one, Nat.reduceMod, Nat.reduceDiv, UInt8.reduceToNat, Nat.reduceLT]; simp
  | cons b a =>
    have hx : decide ((1 : Int) ≤ (((b :: a).length : Nat) : Int)) = true := by simp; omega
    rw [List.length_cons] at hx
    simp (config := {contextual := true, implicitDefEqProofs := false, maxSteps := 4000000}) only [go_sem, ↓reduceIte, Bool.false_eq_true, Nat.reduceEqDiff, Nat.reduceAdd, Int.reduceLE, Int.reduceLT, Int.reduceEq, Int.reduceToNat, Int.toNat_natCast, Int.cast_ofNat_Int, Int.natCast_one, Nat.reduceMod, Nat.reduceDiv, UInt8.reduceToNat, Nat.reduceLT, hx]
    simp
    omega
theorem c80 (a : List UInt8) (c : UInt8) (s : St) (K : AV → St → Prop) : CallW cx 80 [.str a, .str [c]] s K = K (.tuple [.str (if a.head? = some c then a.tail else a), .bool (decide (a.head? = some c))]) s := by
  refine CallW.eq (CallW.fn' (fn := ir80) rfl rfl (by kernel_rfl) ir80.eq_1 ?_) K
  by_cases h : a.head? = some c
  · cases a with
    | nil => simp at h
    | cons b a =>
      have hx : decide ((b :: a).head? = some c) = true := by simpa using h
      simp (config := {contextual := true, implicitDefEqProofs := false, maxSteps := 4000000}) only [go_sem, ↓reduceIte, Bool.false_eq_true, Nat.reduceEqDiff, Nat.reduceAdd, Int.reduceLE, Int.reduceLT, Int.reduceEq, Int.reduceToNat, Int.toNat_natCast, Int.cast_ofNat_Int, Int.natCast_one, Nat.reduceMod, Nat.reduceDiv, UInt8.reduceToNat, Nat.reduceLT, c85, hx, h]
      simp; omega
  · have hx : decide (a.head? = some c) = false := by simpa using h
    simp (config := {contextual := true, implicitDefEqProofs := false, maxSteps := 4000000}) only [go_sem, ↓reduceIte, Bool.false_eq_true, Nat.reduceEqDiff, Nat.reduceAdd, Int.reduceLE, Int.reduceLT, Int.reduceEq, Int.reduceToNat, Int.toNat_natCast, Int.cast_ofNat_Int, Int.natCast_one, Nat.reduceMod, Nat.reduceDiv, UInt8.reduceToNat, Nat.reduceLT, c85, hx, h]
theorem c71 (a : List UInt8) (c : UInt8) (s : St) (K : AV → St → Prop) : CallW cx 71 [.str a, .str [c]] s K = K (.tuple [.str (if a.head? = some c then a.tail else a), .bool (decide (a.head? = some c))]) s := by
  refine CallW.eq (CallW.fn' (fn := ir71) rfl rfl (by kernel_rfl) ir71.eq_1 ?_) K
  simp (config := {contextual := true, implicitDefEqProofs := false, maxSteps := 4000000}) only [go_sem, ↓reduceIte, Bool.false_eq_true, Nat.reduceEqDiff, Nat.reduceAdd, Int.reduceLE, Int.reduceLT, Int.reduceEq, Int.reduceToNat, Int.toNat_natCast, Int.cast_ofNat_Int, Int.natCast_one, Nat.reduceMod, Nat.reduceDiv, UInt8.reduceToNat, Nat.reduceLT, c80, List.getElem?_cons_zero, List.getElem?_cons_succ]
end T18


/- strings.Split at a byte. -/
namespace T18
open Go Fw Go.Proofs
set_option maxRecDepth 100000
set_option maxHeartbeats 4000000
set_option linter.unusedSimpArgs false
set_option linter.unusedVariables false
theorem c65 (a : List UInt8) (c : UInt8) (s : St) (K : AV → St → Prop) : CallW cx 65 [.str a, .int .u8 c.toNat] s K = K (.int .i64 ((a.count c : Nat) : Int)) s :=
  CallW.eq (CallW.ext (g := xCount) rfl (by simp only [xCount, oget_some, u8_back, and_self])) K
theorem c51 (a : List UInt8) (c : UInt8) (s : St) (K : AV → St → Prop) : CallW cx 51 [.str a, .str [c]] s K = K (.int .i64 ((a.count c : Nat) : Int)) s := by
  refine CallW.eq (CallW.fn' (fn := ir51) rfl rfl (by kernel_rfl) ir51.eq_1 ?_) K
  simp (config := {contextual := true, implicitDefEqProofs := false, maxSteps := 4000000}) only [go_sem, ↓reduceIte, Bool.false_eq_true, Nat.reduceEqDiff, Nat.reduceAdd, Int.reduceLE, Int.reduceLT, Int.reduceEq, Int.reduceToNat, Int.toNat_natCast, Int.cast_ofNat_Int, Int.natCast_one, Nat.reduceMod, Nat.reduceDiv, UInt8.reduceToNat, Nat.reduceLT, c65]
theorem c52 (a : List UInt8) (c : UInt8) (s : St) (K : AV → St → Prop) : CallW cx 52 [.str a, .str [c]] s K = K (.int .i64 (findByte c a 0)) s := by
  refine CallW.eq (CallW.fn' (fn := ir52) rfl rfl (by kernel_rfl) ir52.eq_1 ?_) K
  simp (config := {contextual := true, implicitDefEqProofs := false, maxSteps := 4000000}) only [go_sem, ↓reduceIte, Bool.false_eq_true, Nat.reduceEqDiff, Nat.reduceAdd, Int.reduceLE, Int.reduceLT, Int.reduceEq, Int.reduceToNat, Int.toNat_natCast, Int.cast_ofNat_Int, Int.natCast_one, Nat.reduceMod, Nat.reduceDiv, UInt8.reduceToNat, Nat.reduceLT, c66]
/-- The parts of a text between a byte. -/
def splitB (c : UInt8) : List UInt8 → List (List UInt8)
  | [] => [[]]
  | b :: l => if b = c then [] :: splitB c l else match splitB c l with
    | x :: xs => (b :: x) :: xs
    | [] => [[b]]
theorem splitB_ne (c : UInt8) : ∀ l, splitB c l ≠ []
  | [] => by simp [splitB]
  | b :: l => by
    simp only [splitB]
    split
    · simp
    · split <;> simp
theorem splitB_len (c : UInt8) : ∀ l, (splitB c l).length = l.count c + 1
  | [] => rfl
  | b :: l => by
    have ih := splitB_len c l
    simp only [splitB, List.count_cons]
    by_cases h : b = c
    · rw [if_pos h]; simp [h, ih]
    · rw [if_neg h]
      cases hs : splitB c l with
      | nil => exact absurd hs (splitB_ne c l)
      | cons x xs => rw [hs] at ih; simp [h] at ih ⊢; omega
theorem find_sh (c : UInt8) : ∀ (l : List UInt8) (i k : Nat), (findByte c l i = -1 ∧ findByte c l k = -1) ∨ ∃ j : Nat, findByte c l i = ((i + j : Nat) : Int) ∧ findByte c l k = ((k + j : Nat) : Int) ∧ j < l.length
  | [], i, k => .inl ⟨rfl, rfl⟩
  | b :: l, i, k => by
    simp only [findByte]
    by_cases h : b = c
    · rw [if_pos h, if_pos h]; exact .inr ⟨0, rfl, rfl, by simp⟩
    · rw [if_neg h, if_neg h]
      rcases find_sh c l (i + 1) (k + 1) with h1 | ⟨j, h1, h2, h3⟩
      · exact .inl h1
      · exact .inr ⟨j + 1, by rw [h1]; congr 1; omega, by rw [h2]; congr 1; omega, by simp; omega⟩
theorem split_none (c : UInt8) : ∀ l : List UInt8, findByte c l 0 = -1 → splitB c l = [l] ∧ l.count c = 0
  | [], _ => ⟨rfl, rfl⟩
  | b :: l, h => by
    simp only [findByte] at h
    by_cases hb : b = c
    · rw [if_pos hb] at h; omega
    · rw [if_neg hb] at h
      have h2 : findByte c l 0 = -1 := by
        rcases find_sh c l 0 (0 + 1) with h1 | ⟨j, h1, h2, _⟩
        · exact h1.1
        · omega
      obtain ⟨h3, h4⟩ := split_none c l h2
      refine ⟨?_, ?_⟩
      · simp only [splitB, h3, if_neg hb]
      · rw [List.count_cons, h4]; simp [hb]
theorem split_some (c : UInt8) : ∀ (l : List UInt8) (j : Nat), findByte c l 0 = (j : Int) → splitB c l = l.take j :: splitB c (l.drop (j + 1)) ∧ l.count c = (l.drop (j + 1)).count c + 1 ∧ j < l.length
  | [], j, h => by simp only [findByte] at h; omega
  | b :: l, j, h => by
    simp only [findByte] at h
    by_cases hb : b = c
    · rw [if_pos hb] at h
      have : j = 0 := by omega
      subst this
      simp [splitB, hb]
    · rw [if_neg hb] at h
      rcases find_sh c l 0 (0 + 1) with h1 | ⟨k, h1, h2, hk⟩
      · omega
      · have : j = k + 1 := by omega
        subst this
        obtain ⟨h3, h4, h5⟩ := split_some c l k (by rw [h1, Nat.zero_add])
        refine ⟨?_, ?_, ?_⟩
        · simp only [splitB, h3, if_neg hb, List.take_succ_cons, List.drop_succ_cons]
        · rw [List.count_cons, h4, List.drop_succ_cons]; simp [hb]
        · simp only [List.length_cons]; omega
def encS (l : List (List UInt8)) : List AV := l.map AV.str
theorem encS_length (l : List (List UInt8)) : (encS l).length = l.length := by simp [encS]
theorem patch_next (ds : List (List UInt8)) (k : Nat) (v : List UInt8) : patch (encS ds ++ List.replicate (k + 1) (.str [])) ds.length [.str v] = some (encS (ds ++ [v]) ++ List.replicate k (.str [])) := by
  unfold patch
  rw [if_pos (by simp [encS]), List.take_left' (encS_length ds), List.replicate_succ]
  have : (encS ds ++ AV.str [] :: List.replicate k (.str [])).drop (ds.length + [AV.str v].length) = List.replicate k (.str []) := by
    rw [← List.drop_drop, List.drop_left' (encS_length ds)]; rfl
  rw [this]
  simp [encS]
theorem flat_one (n : Nat) (v : AV) : (List.replicate n [v]).flatten = List.replicate n v := by
  induction n with
  | zero => rfl
  | succ n ih => rw [List.replicate_succ, List.flatten_cons, ih]; rfl
theorem l34 (c : UInt8) (N : Nat) (h : List (Nat × AObj)) (tot : Nat) (htot : tot ≤ 1200000) (Q : Sig → FE → St → Prop) : ∀ (k : Nat) (a : List UInt8) (ds : List (List UInt8)) (e : FE), a.count c = k → ds.length + k = tot → a.length ≤ 1200000 →
    e 0 = .str a → e 1 = .str [c] → e 2 = .int .i64 0 → e 3 = .int .i64 (tot : Int) → e 9 = .mslice N 0 (tot + 1) (some (tot + 1)) → e 10 = .int .i64 (ds.length : Int) →
    (∀ e' (i : List (List UInt8)) (z : List UInt8), ds ++ splitB c a = i ++ [z] → i.length = tot → e' 0 = .str z → e' 9 = .mslice N 0 (tot + 1) (some (tot + 1)) → e' 10 = .int .i64 (tot : Int) → Q (.exit 0) e' { heap := (N, .cells none (encS i ++ List.replicate 1 (.str []))) :: h, next := N + 1, low := N }) →
    WLoop cx ir34L0 e { heap := (N, .cells none (encS ds ++ List.replicate (k + 1) (.str []))) :: h, next := N + 1, low := N } Q
  | 0, a, ds, e, hk, hds, hl, h0, h1, h2, h3, h9, h10, hQ => by
    refine WLoop.rnd (c := _) ir34L0.eq_1 ?_
    have hd : decide ((ds.length : Int) < (tot : Int)) = false := decide_eq_false (by omega)
    have hno : findByte c a 0 = -1 := by
      rcases findByte_spec c a 0 with h1 | ⟨j, h1, _, _⟩
      · exact h1
      · have := (split_some c a j h1).2.1; omega
    rw [(split_none c a hno).1] at hQ
    simp (config := {contextual := true, implicitDefEqProofs := false, maxSteps := 4000000}) only [go_sem, ↓reduceIte, Bool.false_eq_true, Nat.reduceEqDiff, Nat.reduceAdd, Int.reduceLE, Int.reduceLT, Int.reduceEq, Int.reduceToNat, Int.toNat_natCast, Int.cast_ofNat_Int, Int.natCast_one, Nat.reduceMod, Nat.reduceDiv, UInt8.reduceToNat, Nat.reduceLT, h3, h10, hd]
    exact hQ _ ds a rfl (by omega) h0 h9 (h10.trans (by congr 2))
  | k + 1, a, ds, e, hk, hds, hl, h0, h1, h2, h3, h9, h10, hQ => by
    refine WLoop.rnd (c := _) ir34L0.eq_1 ?_
    have hd : decide ((ds.length : Int) < (tot : Int)) = true := decide_eq_true (by omega)
    obtain ⟨j, hj⟩ : ∃ j : Nat, findByte c a 0 = (j : Int) := by
      rcases findByte_spec c a 0 with h1 | ⟨j, h1, _, _⟩
      · have := (split_none c a h1).2; omega
      · exact ⟨j, h1⟩
    obtain ⟨g1, g2, g3⟩ := split_some c a j hj
    have d2 : decide ((j : Int) < 0) = false := decide_eq_false (by omega)
    have w1 : IntKind.i64.wrap ((j : Int) + 0) = (j : Int) := by rw [Int.add_zero, wrap_i64 (by omega) (by omega)]
    have w2 := wrap_one (i := j) (by omega)
    have w3 := wrap_one (i := ds.length) (by omega)
    have b1 : (0 : Int) ≤ (j : Int) ∧ (j : Int) ≤ (a.length : Int) := by omega
    have b2 : (0 : Int) ≤ ((j + 1 : Nat) : Int) ∧ ((j + 1 : Nat) : Int) ≤ (a.length : Int) := by omega
    have b3 : (0 : Int) ≤ (ds.length : Int) ∧ (ds.length : Int) < ((tot + 1 : Nat) : Int) := by omega
    have hmin : min N N = N := Nat.min_self N
    rw [g1] at hQ
    simp (config := {contextual := true, implicitDefEqProofs := false, maxSteps := 4000000}) only [go_sem, ↓reduceIte, Bool.false_eq_true, Nat.reduceEqDiff, Nat.reduceAdd, Int.reduceLE, Int.reduceLT, Int.reduceEq, Int.reduceToNat, Int.toNat_natCast, Int.cast_ofNat_Int, Int.natCast_one, Nat.reduceMod, Nat.reduceDiv, UInt8.reduceToNat, Nat.reduceLT, h0, h1, h2, h3, h9, h10, hd, c52, hj, d2, w1, w2, w3, b1, b2, b3, Nat_mul_one, patch_next, hmin]
    have ih := l34 c N h tot htot Q k (a.drop (j + 1)) (ds ++ [a.take j])
    rw [List.length_append, List.length_cons, List.length_nil] at ih
    refine ih _ (by omega) (by omega) (by rw [List.length_drop]; omega) rfl h1 h2 h3 h9 rfl ?_
    intro e' i z hi hil
    exact hQ e' i z (by rw [← hi]; simp) hil
/-- Split lays a row of the parts. -/
theorem c34 (a : List UInt8) (c : UInt8) (ha : a.length ≤ 1150000) (s : St) (K : AV → St → Prop) : CallW cx 34 [.str a, .str [c], .int .i64 0, .int .i64 (-1)] s K =
    K (.mslice s.next 0 (a.count c + 1) (some (a.count c + 1))) { heap := (s.next, .cells none (encS (splitB c a))) :: s.heap, next := s.next + 1, low := min s.low s.next } := by
  refine CallW.eq (CallW.fn' (fn := ir34) rfl rfl (by kernel_rfl) ir34.eq_1 ?_) K
  have hcl : a.count c ≤ a.length := List.count_le_length
  have d1 : decide ([c] = []) = false := by simp
  have w1 := wrap_one (i := a.count c) (by omega)
  have w2 := wrap_one (i := a.length) (by omega)
  have m1 : min ((a.count c + 1 : Nat) : Int) ((a.length + 1 : Nat) : Int) = ((a.count c + 1 : Nat) : Int) := by omega
  have w3 : IntKind.i64.wrap (((a.count c + 1 : Nat) : Int) - 1) = (a.count c : Int) := by rw [wrap_i64 (by omega) (by omega)]; omega
  have mk : ∀ st : St, mkslA st 16 [.str []] (.int .i64 ((a.count c + 1 : Nat) : Int)) (.int .i64 ((a.count c + 1 : Nat) : Int)) = some (.mslice st.next 0 (a.count c + 1) (some (a.count c + 1)), { heap := (st.next, .cells none (List.replicate (a.count c + 1) (.str []))) :: st.heap, next := st.next + 1, low := st.low }) := by
    intro st
    unfold mkslA
    simp only
    rw [if_pos ⟨by omega, Int.le_refl _, by rw [Int.toNat_natCast]; exact Nat.le_trans (show (a.count c + 1) * 16 ≤ 20000000 by omega) (by decide)⟩, Int.toNat_natCast, flat_one]
    rfl
  simp (config := {contextual := true, implicitDefEqProofs := false, maxSteps := 4000000}) only [go_sem, ↓reduceIte, Bool.false_eq_true, Nat.reduceEqDiff, Nat.reduceAdd, Int.reduceLE, Int.reduceLT, Int.reduceEq, Int.reduceToNat, Int.toNat_natCast, Int.cast_ofNat_Int, Int.natCast_one, Nat.reduceMod, Nat.reduceDiv, UInt8.reduceToNat, Nat.reduceLT, d1, c51, w1, w2, w3, m1, mk]
  refine l34 c s.next s.heap (a.count c) (by omega) _ (a.count c) a [] _ rfl (by simp) (by omega) rfl rfl rfl rfl rfl rfl ?_
  intro e' i z hi hil h0 h9 h10
  rw [List.nil_append] at hi
  have b1 : (0 : Int) ≤ (a.count c : Int) ∧ (a.count c : Int) < ((a.count c + 1 : Nat) : Int) := by omega
  have hp : patch (encS i ++ List.replicate 1 (.str [])) (a.count c) [.str z] = some (encS (splitB c a)) := by
    rw [← hil, patch_next i 0 z, hi]; simp
  have sl : sliceA 1 (.mslice s.next 0 (a.count c + 1) (some (a.count c + 1))) none (some (.int .i64 ((a.count c + 1 : Nat) : Int))) none = some (.mslice s.next 0 (a.count c + 1) (some (a.count c + 1))) := by
    simp only [sliceA, bounds]
    rw [if_pos ⟨by omega, by omega⟩]
    simp
  have hlv : ∀ (s' : St) (K : AV → St → Prop), LeaveW s s' (.mslice s.next 0 (a.count c + 1) (some (a.count c + 1))) K = K (.mslice s.next 0 (a.count c + 1) (some (a.count c + 1))) { heap := s'.heap, next := s'.next, low := min s.low s'.low } := fun s' K => LeaveW_new rfl (by simp [AV.al, below]) K
  simp (config := {contextual := true, implicitDefEqProofs := false, maxSteps := 4000000}) only [go_sem, ↓reduceIte, Bool.false_eq_true, Nat.reduceEqDiff, Nat.reduceAdd, Int.reduceLE, Int.reduceLT, Int.reduceEq, Int.reduceToNat, Int.toNat_natCast, Int.cast_ofNat_Int, Int.natCast_one, Nat.reduceMod, Nat.reduceDiv, UInt8.reduceToNat, Nat.reduceLT, h0, h9, h10, b1, Nat_mul_one, hp, w1, sl, hlv]
theorem c25 (a : List UInt8) (c : UInt8) (ha : a.length ≤ 1150000) (s : St) (K : AV → St → Prop) : CallW cx 25 [.str a, .str [c]] s K =
    K (.mslice s.next 0 (a.count c + 1) (some (a.count c + 1))) { heap := (s.next, .cells none (encS (splitB c a))) :: s.heap, next := s.next + 1, low := min s.low s.next } := by
  refine CallW.eq (CallW.fn' (fn := ir25) rfl rfl (by kernel_rfl) ir25.eq_1 ?_) K
  have k := fun st K => c34 a c ha st K
  have hlv : ∀ (s' : St) (K : AV → St → Prop), LeaveW s s' (.mslice s.next 0 (a.count c + 1) (some (a.count c + 1))) K = K (.mslice s.next 0 (a.count c + 1) (some (a.count c + 1))) { heap := s'.heap, next := s'.next, low := min s.low s'.low } := fun s' K => LeaveW_new rfl (by simp [AV.al, below]) K
  simp (config := {contextual := true, implicitDefEqProofs := false, maxSteps := 4000000}) only [go_sem, ↓reduceIte, Bool.false_eq_true, Nat.reduceEqDiff, Nat.reduceAdd, Int.reduceLE, Int.reduceLT, Int.reduceEq, Int.reduceToNat, Int.toNat_natCast, Int.cast_ofNat_Int, Int.natCast_one, Nat.reduceMod, Nat.reduceDiv, UInt8.reduceToNat, Nat.reduceLT, k, hlv]
end T18


/- The lexer's small parts: runs of bytes, digits, labels. -/
namespace T18
open Go Fw Go.Proofs
set_option maxRecDepth 100000
set_option maxHeartbeats 4000000
set_option linter.unusedSimpArgs false
set_option linter.unusedVariables false
def isD (b : UInt8) : Bool := decide (48 ≤ b.toNat) && decide (b.toNat ≤ 57)
def isLet (b : UInt8) : Bool := (decide (97 ≤ b.toNat) && decide (b.toNat ≤ 122)) || (decide (65 ≤ b.toNat) && decide (b.toNat ≤ 90))
def isPl (b : UInt8) : Bool := decide (32 ≤ b.toNat) && decide (b.toNat ≤ 126)
theorem le_nat (n : Nat) (b : UInt8) : decide (((n : Nat) : Int) ≤ ((b.toNat : Nat) : Int)) = decide (n ≤ b.toNat) := by
  rw [Bool.eq_iff_iff, decide_eq_true_eq, decide_eq_true_eq]; omega
theorem nat_le (n : Nat) (b : UInt8) : decide (((b.toNat : Nat) : Int) ≤ ((n : Nat) : Int)) = decide (b.toNat ≤ n) := by
  rw [Bool.eq_iff_iff, decide_eq_true_eq, decide_eq_true_eq]; omega
theorem eq_byte (n : UInt8) (b : UInt8) : decide (((b.toNat : Nat) : Int) = ((n.toNat : Nat) : Int)) = decide (b = n) := by
  rw [Bool.eq_iff_iff, decide_eq_true_eq, decide_eq_true_eq]
  exact ⟨byte_eq, fun h => by rw [h]⟩
theorem c37 (b : UInt8) (s : St) (K : AV → St → Prop) : CallW cx 37 [.int .u8 b.toNat] s K = K (.bool (isD b)) s := by
  refine CallW.eq (CallW.fn' (fn := ir37) rfl rfl (by kernel_rfl) ir37.eq_1 ?_) K
  have h1 : decide ((48 : Int) ≤ ((b.toNat : Nat) : Int)) = decide (48 ≤ b.toNat) := le_nat 48 b
  have h2 : decide (((b.toNat : Nat) : Int) ≤ (57 : Int)) = decide (b.toNat ≤ 57) := nat_le 57 b
  unfold isD
  cases h3 : decide (48 ≤ b.toNat)
  · simp (config := {contextual := true, implicitDefEqProofs := false, maxSteps := 4000000}) only [go_sem, ↓reduceIte, Bool.false_eq_true, Nat.reduceEqDiff, Nat.reduceAdd, Int.reduceLE, Int.reduceLT, Int.reduceEq, Int.reduceToNat, Int.toNat_natCast, Int.cast_ofNat_Int, Int.natCast_one, Nat.reduceMod, Nat.reduceDiv, UInt8.reduceToNat, Nat.reduceLT, h1, h2, h3]
  · simp (config := {contextual := true, implicitDefEqProofs := false, maxSteps := 4000000}) only [go_sem, ↓reduceIte, Bool.false_eq_true, Nat.reduceEqDiff, Nat.reduceAdd, Int.reduceLE, Int.reduceLT, Int.reduceEq, Int.reduceToNat, Int.toNat_natCast, Int.cast_ofNat_Int, Int.natCast_one, Nat.reduceMod, Nat.reduceDiv, UInt8.reduceToNat, Nat.reduceLT, h1, h2, h3]
theorem c35 (b : UInt8) (s : St) (K : AV → St → Prop) : CallW cx 35 [.int .u8 b.toNat] s K = K (.bool (isLet b)) s := by
  refine CallW.eq (CallW.fn' (fn := ir35) rfl rfl (by kernel_rfl) ir35.eq_1 ?_) K
  have h1 : decide ((97 : Int) ≤ ((b.toNat : Nat) : Int)) = decide (97 ≤ b.toNat) := le_nat 97 b
  have h2 : decide (((b.toNat : Nat) : Int) ≤ (122 : Int)) = decide (b.toNat ≤ 122) := nat_le 122 b
  have h3 : decide ((65 : Int) ≤ ((b.toNat : Nat) : Int)) = decide (65 ≤ b.toNat) := le_nat 65 b
  have h4 : decide (((b.toNat : Nat) : Int) ≤ (90 : Int)) = decide (b.toNat ≤ 90) := nat_le 90 b
  unfold isLet
  cases g1 : decide (97 ≤ b.toNat) <;> cases g2 : decide (b.toNat ≤ 122) <;> cases g3 : decide (65 ≤ b.toNat)
  all_goals simp (config := {contextual := true, implicitDefEqProofs := false, maxSteps := 4000000}) only [go_sem, ↓reduceIte, Bool.false_eq_true, Nat.reduceEqDiff, Nat.reduceAdd, Int.reduceLE, Int.reduceLT, Int.reduceEq, Int.reduceToNat, Int.toNat_natCast, Int.cast_ofNat_Int, Int.natCast_one, Nat.reduceMod, Nat.reduceDiv, UInt8.reduceToNat, Nat.reduceLT, h1, h2, h3, h4, g1, g2, g3]
/-- The end of a run: from i on, at most k further. -/
def runI (p : Nat → Bool) : Nat → Nat → Nat
  | 0, i => i
  | k + 1, i => if p i then runI p k (i + 1) else i
theorem runI_le (p : Nat → Bool) : ∀ k i, i ≤ runI p k i ∧ runI p k i ≤ i + k
  | 0, i => by simp [runI]
  | k + 1, i => by
    simp only [runI]
    split
    · have := runI_le p k (i + 1); omega
    · omega
theorem runI_all (p : Nat → Bool) : ∀ k i, (∀ j, i ≤ j → j < runI p k i → p j = true) ∧ (runI p k i < i + k → p (runI p k i) = false)
  | 0, i => ⟨fun j h1 h2 => by simp only [runI] at h2; omega, fun h => by simp only [runI] at h; omega⟩
  | k + 1, i => by
    simp only [runI]
    by_cases h : p i = true
    · rw [if_pos h]
      obtain ⟨h1, h2⟩ := runI_all p k (i + 1)
      refine ⟨fun j hj hj2 => ?_, fun hh => h2 (by omega)⟩
      by_cases hji : j = i
      · rw [hji]; exact h
      · exact h1 j (by omega) hj2
    · rw [if_neg h]
      exact ⟨fun j h1 h2 => by omega, fun _ => by simpa using h⟩
theorem l28 (a : List UInt8) (hl : a.length ≤ 4611686018427387904) (g : Nat) (cap : List AV) (p : Nat → Bool) (st : St) (hf : ∀ (i : Nat) (K : AV → St → Prop), i < a.length → CallW cx g (.int .i64 (i : Int) :: cap) st K = K (.bool (p i)) st) (Q : Sig → FE → St → Prop) : ∀ (n i : Nat) (e : FE), i + n = a.length → e 0 = .str a → e 1 = .int .i64 (i : Int) → e 2 = .func g [] cap → (∀ e', e' 1 = .int .i64 ((runI p n i : Nat) : Int) → Q (.exit 0) e' st) → WLoop cx ir28L0 e st Q
  | 0, i, e, hi, h0, h1, h2, hQ => by
    refine WLoop.rnd (c := _) ir28L0.eq_1 ?_
    have hd : decide ((i : Int) < (a.length : Int)) = false := decide_eq_false (by omega)
    simp (config := {contextual := true, implicitDefEqProofs := false, maxSteps := 4000000}) only [go_sem, ↓reduceIte, Bool.false_eq_true, Nat.reduceEqDiff, Nat.reduceAdd, Int.reduceLE, Int.reduceLT, Int.reduceEq, Int.reduceToNat, Int.toNat_natCast, Int.cast_ofNat_Int, Int.natCast_one, Nat.reduceMod, Nat.reduceDiv, UInt8.reduceToNat, Nat.reduceLT, h0, h1, h2, hd]
    exact hQ _ h1
  | n + 1, i, e, hi, h0, h1, h2, hQ => by
    refine WLoop.rnd (c := _) ir28L0.eq_1 ?_
    have hd : decide ((i : Int) < (a.length : Int)) = true := decide_eq_true (by omega)
    have hw := wrap_one (i := i) (by omega)
    have k := fun K => hf i K (by omega)
    simp only [runI] at hQ
    cases hp : p i with
    | true =>
      rw [hp] at k hQ
      rw [if_pos rfl] at hQ
      simp (config := {contextual := true, implicitDefEqProofs := false, maxSteps := 4000000}) only [go_sem, ↓reduceIte, Bool.false_eq_true, Nat.reduceEqDiff, Nat.reduceAdd, Int.reduceLE, Int.reduceLT, Int.reduceEq, Int.reduceToNat, Int.toNat_natCast, Int.cast_ofNat_Int, Int.natCast_one, Nat.reduceMod, Nat.reduceDiv, UInt8.reduceToNat, Nat.reduceLT, h0, h1, h2, hd, k, hw]
      exact l28 a hl g cap p st hf Q n (i + 1) _ (by omega) h0 rfl h2 hQ
    | false =>
      rw [hp] at k hQ
      rw [if_neg (by decide)] at hQ
      simp (config := {contextual := true, implicitDefEqProofs := false, maxSteps := 4000000}) only [go_sem, ↓reduceIte, Bool.false_eq_true, Nat.reduceEqDiff, Nat.reduceAdd, Int.reduceLE, Int.reduceLT, Int.reduceEq, Int.reduceToNat, Int.toNat_natCast, Int.cast_ofNat_Int, Int.natCast_one, Nat.reduceMod, Nat.reduceDiv, UInt8.reduceToNat, Nat.reduceLT, h0, h1, h2, hd, k]
      exact hQ _ h1
theorem c28 (a : List UInt8) (hl : a.length ≤ 4611686018427387904) (i : Nat) (hi : i ≤ a.length) (g : Nat) (cap : List AV) (p : Nat → Bool) (h : List (Nat × AObj)) (N l : Nat) (hf : ∀ (i : Nat) (K : AV → St → Prop), i < a.length → CallW cx g (.int .i64 (i : Int) :: cap) { heap := h, next := N, low := N } K = K (.bool (p i)) { heap := h, next := N, low := N }) (K : AV → St → Prop) :
    CallW cx 28 [.str a, .int .i64 (i : Int), .func g [] cap] { heap := h, next := N, low := l } K = K (.int .i64 ((runI p (a.length - i) i : Nat) : Int)) { heap := h, next := N, low := l } := by
  refine CallW.eq (CallW.fn' (fn := ir28) rfl rfl (by kernel_rfl) ir28.eq_1 ?_) K
  simp (config := {contextual := true, implicitDefEqProofs := false, maxSteps := 4000000}) only [go_sem, ↓reduceIte, Bool.false_eq_true, Nat.reduceEqDiff, Nat.reduceAdd, Int.reduceLE, Int.reduceLT, Int.reduceEq, Int.reduceToNat, Int.toNat_natCast, Int.cast_ofNat_Int, Int.natCast_one, Nat.reduceMod, Nat.reduceDiv, UInt8.reduceToNat, Nat.reduceLT]
  refine l28 a hl g cap p _ hf _ (a.length - i) i _ (by omega) rfl rfl rfl ?_
  intro e' h1
  simp (config := {contextual := true, implicitDefEqProofs := false, maxSteps := 4000000}) only [go_sem, ↓reduceIte, Bool.false_eq_true, Nat.reduceEqDiff, Nat.reduceAdd, Int.reduceLE, Int.reduceLT, Int.reduceEq, Int.reduceToNat, Int.toNat_natCast, Int.cast_ofNat_Int, Int.natCast_one, Nat.reduceMod, Nat.reduceDiv, UInt8.reduceToNat, Nat.reduceLT, h1]
/-- Runs over the bytes of a text. -/
def runB (q : UInt8 → Bool) (a : List UInt8) (i : Nat) : Nat := runI (fun j => q (a.getD j 0)) (a.length - i) i
theorem runB_all (q : UInt8 → Bool) (a : List UInt8) : decide (runB q a 0 = a.length) = a.all q := by
  rw [Bool.eq_iff_iff, decide_eq_true_eq, List.all_eq_true]
  unfold runB
  rw [Nat.sub_zero]
  obtain ⟨h1, h2⟩ := runI_all (fun j => q (a.getD j 0)) a.length 0
  have h3 := runI_le (fun j => q (a.getD j 0)) a.length 0
  constructor
  · intro h b hb
    obtain ⟨j, hj, rfl⟩ := List.getElem_of_mem hb
    have := h1 j (Nat.zero_le _) (by rw [h]; exact hj)
    simpa [List.getD, hj] using this
  · intro h
    obtain ⟨r, hr⟩ : ∃ r, runI (fun j => q (a.getD j 0)) a.length 0 = r := ⟨_, rfl⟩
    rw [hr] at h2 h3 ⊢
    rcases Nat.lt_or_ge r a.length with hlt | hge
    · have h4 := h2 (by omega)
      have h5 := h _ (List.getElem_mem hlt)
      have h6 : a.getD r 0 = a[r] := by simp [List.getD, hlt]
      rw [h6, h5] at h4; cases h4
    · omega
theorem c79 (a : List UInt8) (i : Nat) (hi : i < a.length) (C : Nat) (ty : Option TypeId) (st : St) (hlk : Fw.look C st.heap = some (.cells ty [.str a])) (K : AV → St → Prop) : CallW cx 79 [.int .i64 (i : Int), .ptr C 0] st K = K (.bool (isD (a.getD i 0))) st := by
  refine CallW.eq (CallW.fn' (fn := ir79) rfl rfl (by kernel_rfl) ir79.eq_1 ?_) K
  have b1 : (0 : Int) ≤ (i : Int) := by omega
  have b2 : (i : Int) < (a.length : Int) := by omega
  simp (config := {contextual := true, implicitDefEqProofs := false, maxSteps := 4000000}) only [go_sem, ↓reduceIte, Bool.false_eq_true, Nat.reduceEqDiff, Nat.reduceAdd, Int.reduceLE, Int.reduceLT, Int.reduceEq, Int.reduceToNat, Int.toNat_natCast, Int.cast_ofNat_Int, Int.natCast_one, Nat.reduceMod, Nat.reduceDiv, UInt8.reduceToNat, Nat.reduceLT, hlk, b1, b2, c37]
theorem c68 (a : List UInt8) (hl : a.length ≤ 4611686018427387904) (n : Nat) (s : St) (K : AV → St → Prop) : CallW cx 68 [.str a, .int .i64 (n : Int)] s K = K (.bool (decide (a.length = n) && a.all isD)) s := by
  refine CallW.eq (CallW.fn' (fn := ir68) rfl rfl (by kernel_rfl) ir68.eq_1 ?_) K
  have k := fun l K => c28 a hl 0 (Nat.zero_le _) 79 [.ptr s.next 0] (fun j => isD (a.getD j 0)) ((s.next, .cells (some 9) [.str a]) :: s.heap) (s.next + 1) l (fun i K hi => c79 a i hi s.next (some 9) _ (by simp only [Fw.look, if_true]) K) K
  rw [show runI (fun j => isD (a.getD j 0)) (a.length - 0) 0 = runB isD a 0 from rfl] at k
  simp only [Int.cast_ofNat_Int] at k
  by_cases h : a.length = n
  · have d1 : decide ((a.length : Int) = (n : Int)) = true := decide_eq_true (by omega)
    have d2 : decide (((runB isD a 0 : Nat) : Int) = (n : Int)) = a.all isD := by
      rw [← runB_all, Bool.eq_iff_iff, decide_eq_true_eq, decide_eq_true_eq]; omega
    rw [decide_eq_true h]
    simp (config := {contextual := true, implicitDefEqProofs := false, maxSteps := 4000000}) only [go_sem, ↓reduceIte, Bool.false_eq_true, Nat.reduceEqDiff, Nat.reduceAdd, Int.reduceLE, Int.reduceLT, Int.reduceEq, Int.reduceToNat, Int.toNat_natCast, Int.cast_ofNat_Int, Int.natCast_one, Nat.reduceMod, Nat.reduceDiv, UInt8.reduceToNat, Nat.reduceLT, d1, k, d2]
  · have d1 : decide ((a.length : Int) = (n : Int)) = false := decide_eq_false (by omega)
    rw [decide_eq_false h]
    simp (config := {contextual := true, implicitDefEqProofs := false, maxSteps := 4000000}) only [go_sem, ↓reduceIte, Bool.false_eq_true, Nat.reduceEqDiff, Nat.reduceAdd, Int.reduceLE, Int.reduceLT, Int.reduceEq, Int.reduceToNat, Int.toNat_natCast, Int.cast_ofNat_Int, Int.natCast_one, Nat.reduceMod, Nat.reduceDiv, UInt8.reduceToNat, Nat.reduceLT, d1]
theorem c57 (a : List UInt8) (i : Nat) (hi : i < a.length) (C : Nat) (ty : Option TypeId) (st : St) (hlk : Fw.look C st.heap = some (.cells ty [.str a])) (K : AV → St → Prop) : CallW cx 57 [.int .i64 (i : Int), .ptr C 0] st K = K (.bool (isPl (a.getD i 0))) st := by
  refine CallW.eq (CallW.fn' (fn := ir57) rfl rfl (by kernel_rfl) ir57.eq_1 ?_) K
  have b1 : (0 : Int) ≤ (i : Int) := by omega
  have b2 : (i : Int) < (a.length : Int) := by omega
  obtain ⟨b, hb⟩ : ∃ b, a.getD i 0 = b := ⟨_, rfl⟩
  have h1 : decide ((32 : Int) ≤ ((b.toNat : Nat) : Int)) = decide (32 ≤ b.toNat) := le_nat 32 b
  have h2 : decide (((b.toNat : Nat) : Int) ≤ (126 : Int)) = decide (b.toNat ≤ 126) := nat_le 126 b
  rw [hb]
  unfold isPl
  cases h3 : decide (32 ≤ b.toNat)
  · simp (config := {contextual := true, implicitDefEqProofs := false, maxSteps := 4000000}) only [go_sem, ↓reduceIte, Bool.false_eq_true, Nat.reduceEqDiff, Nat.reduceAdd, Int.reduceLE, Int.reduceLT, Int.reduceEq, Int.reduceToNat, Int.toNat_natCast, Int.cast_ofNat_Int, Int.natCast_one, Nat.reduceMod, Nat.reduceDiv, UInt8.reduceToNat, Nat.reduceLT, hlk, b1, b2, hb, h1, h2, h3]
  · simp (config := {contextual := true, implicitDefEqProofs := false, maxSteps := 4000000}) only [go_sem, ↓reduceIte, Bool.false_eq_true, Nat.reduceEqDiff, Nat.reduceAdd, Int.reduceLE, Int.reduceLT, Int.reduceEq, Int.reduceToNat, Int.toNat_natCast, Int.cast_ofNat_Int, Int.natCast_one, Nat.reduceMod, Nat.reduceDiv, UInt8.reduceToNat, Nat.reduceLT, hlk, b1, b2, hb, h1, h2, h3]
theorem c41 (a : List UInt8) (hl : a.length ≤ 4611686018427387904) (s : St) (K : AV → St → Prop) : CallW cx 41 [.str a] s K = K (.bool (a.all isPl)) s := by
  refine CallW.eq (CallW.fn' (fn := ir41) rfl rfl (by kernel_rfl) ir41.eq_1 ?_) K
  have k := fun l K => c28 a hl 0 (Nat.zero_le _) 57 [.ptr s.next 0] (fun j => isPl (a.getD j 0)) ((s.next, .cells (some 9) [.str a]) :: s.heap) (s.next + 1) l (fun i K hi => c57 a i hi s.next (some 9) _ (by simp only [Fw.look, if_true]) K) K
  rw [show runI (fun j => isPl (a.getD j 0)) (a.length - 0) 0 = runB isPl a 0 from rfl] at k
  simp only [Int.cast_ofNat_Int] at k
  have d2 : decide (((runB isPl a 0 : Nat) : Int) = (a.length : Int)) = a.all isPl := by
    rw [← runB_all, Bool.eq_iff_iff, decide_eq_true_eq, decide_eq_true_eq]; omega
  simp (config := {contextual := true, implicitDefEqProofs := false, maxSteps := 4000000}) only [go_sem, ↓reduceIte, Bool.false_eq_true, Nat.reduceEqDiff, Nat.reduceAdd, Int.reduceLE, Int.reduceLT, Int.reduceEq, Int.reduceToNat, Int.toNat_natCast, Int.cast_ofNat_Int, Int.natCast_one, Nat.reduceMod, Nat.reduceDiv, UInt8.reduceToNat, Nat.reduceLT, k, d2]
theorem c39 (a : List UInt8) (c : UInt8) (s : St) (K : AV → St → Prop) : CallW cx 39 [.str a, .int .u8 c.toNat] s K = K (.int .i64 (findByte c a 0)) s := by
  refine CallW.eq (CallW.fn' (fn := ir39) rfl rfl (by kernel_rfl) ir39.eq_1 ?_) K
  simp (config := {contextual := true, implicitDefEqProofs := false, maxSteps := 4000000}) only [go_sem, ↓reduceIte, Bool.false_eq_true, Nat.reduceEqDiff, Nat.reduceAdd, Int.reduceLE, Int.reduceLT, Int.reduceEq, Int.reduceToNat, Int.toNat_natCast, Int.cast_ofNat_Int, Int.natCast_one, Nat.reduceMod, Nat.reduceDiv, UInt8.reduceToNat, Nat.reduceLT, c53, u8_back, Int.toNat_natCast, UInt8.ofNat_toNat, Nat.toUInt8_eq]
theorem c58 (a : List UInt8) (c : UInt8) (s : St) (K : AV → St → Prop) : CallW cx 58 [.str a, .str [c]] s K = K (.bool (decide (0 ≤ findByte c a 0))) s := by
  refine CallW.eq (CallW.fn' (fn := ir58) rfl rfl (by kernel_rfl) ir58.eq_1 ?_) K
  simp (config := {contextual := true, implicitDefEqProofs := false, maxSteps := 4000000}) only [go_sem, ↓reduceIte, Bool.false_eq_true, Nat.reduceEqDiff, Nat.reduceAdd, Int.reduceLE, Int.reduceLT, Int.reduceEq, Int.reduceToNat, Int.toNat_natCast, Int.cast_ofNat_Int, Int.natCast_one, Nat.reduceMod, Nat.reduceDiv, UInt8.reduceToNat, Nat.reduceLT, c52]
/-- A label. -/
def labB (a : List UInt8) : Bool := decide (1 ≤ a.length) && (decide (a.length ≤ 40) && (a.all isPl && (!decide (0 ≤ findByte 34 a 0) && (decide (a.getD 0 0 ≠ 32) && decide (a.getD (a.length - 1) 0 ≠ 32)))))
theorem c42 (a : List UInt8) (hl : a.length ≤ 4611686018427387904) (s : St) (K : AV → St → Prop) : CallW cx 42 [.str a] s K = K (.bool (labB a)) s := by
  refine CallW.eq (CallW.fn' (fn := ir42) rfl rfl (by kernel_rfl) ir42.eq_1 ?_) K
  have kp := fun st K => c41 a hl st K
  unfold labB
  by_cases h1 : 1 ≤ a.length
  case neg =>
    have d1 : decide ((1 : Int) ≤ (a.length : Int)) = false := decide_eq_false (by omega)
    rw [decide_eq_false h1]
    simp (config := {contextual := true, implicitDefEqProofs := false, maxSteps := 4000000}) only [go_sem, ↓reduceIte, Bool.false_eq_true, Nat.reduceEqDiff, Nat.reduceAdd, Int.reduceLE, Int.reduceLT, Int.reduceEq, Int.reduceToNat, Int.toNat_natCast, Int.cast_ofNat_Int, Int.natCast_one, Nat.reduceMod, Nat.reduceDiv, UInt8.reduceToNat, Nat.reduceLT, d1]
  have d1 : decide ((1 : Int) ≤ (a.length : Int)) = true := decide_eq_true (by omega)
  rw [decide_eq_true h1]
  by_cases h2 : a.length ≤ 40
  case neg =>
    have d2 : decide ((a.length : Int) ≤ 40) = false := decide_eq_false (by omega)
    rw [decide_eq_false h2]
    simp (config := {contextual := true, implicitDefEqProofs := false, maxSteps := 4000000}) only [go_sem, ↓reduceIte, Bool.false_eq_true, Nat.reduceEqDiff, Nat.reduceAdd, Int.reduceLE, Int.reduceLT, Int.reduceEq, Int.reduceToNat, Int.toNat_natCast, Int.cast_ofNat_Int, Int.natCast_one, Nat.reduceMod, Nat.reduceDiv, UInt8.reduceToNat, Nat.reduceLT, d1, d2]
  have d2 : decide ((a.length : Int) ≤ 40) = true := decide_eq_true (by omega)
  rw [decide_eq_true h2]
  cases h3 : a.all isPl with
  | false =>
    rw [h3] at kp
    simp (config := {contextual := true, implicitDefEqProofs := false, maxSteps := 4000000}) only [go_sem, ↓reduceIte, Bool.false_eq_true, Nat.reduceEqDiff, Nat.reduceAdd, Int.reduceLE, Int.reduceLT, Int.reduceEq, Int.reduceToNat, Int.toNat_natCast, Int.cast_ofNat_Int, Int.natCast_one, Nat.reduceMod, Nat.reduceDiv, UInt8.reduceToNat, Nat.reduceLT, d1, d2, kp]
  | true =>
    rw [h3] at kp
    cases h4 : decide (0 ≤ findByte 34 a 0) with
    | true => simp (config := {contextual := true, implicitDefEqProofs := false, maxSteps := 4000000}) only [go_sem, ↓reduceIte, Bool.false_eq_true, Nat.reduceEqDiff, Nat.reduceAdd, Int.reduceLE, Int.reduceLT, Int.reduceEq, Int.reduceToNat, Int.toNat_natCast, Int.cast_ofNat_Int, Int.natCast_one, Nat.reduceMod, Nat.reduceDiv, UInt8.reduceToNat, Nat.reduceLT, d1, d2, kp, c58, h4]
    | false =>
      have b1 : (0 : Int) < (a.length : Int) := by omega
      have w1 : IntKind.i64.wrap ((a.length : Int) - 1) = ((a.length - 1 : Nat) : Int) := by rw [wrap_i64 (by omega) (by omega)]; omega
      have b2 : (0 : Int) ≤ ((a.length - 1 : Nat) : Int) := by omega
      have b3 : ((a.length - 1 : Nat) : Int) < (a.length : Int) := by omega
      have e1 : decide ((((a.getD 0 0).toNat : Nat) : Int) ≠ 32) = decide (a.getD 0 0 ≠ 32) := by
        rw [Bool.eq_iff_iff, decide_eq_true_eq, decide_eq_true_eq]
        exact ⟨fun h h2 => h (by rw [h2]; rfl), fun h h2 => h (byte_eq (n := 32) h2)⟩
      have e2 : decide ((((a.getD (a.length - 1) 0).toNat : Nat) : Int) ≠ 32) = decide (a.getD (a.length - 1) 0 ≠ 32) := by
        rw [Bool.eq_iff_iff, decide_eq_true_eq, decide_eq_true_eq]
        exact ⟨fun h h2 => h (by rw [h2]; rfl), fun h h2 => h (byte_eq (n := 32) h2)⟩
      cases h5 : decide (a.getD 0 0 ≠ 32) with
      | false => 
        rw [h5] at e1
        simp (config := {contextual := true, implicitDefEqProofs := false, maxSteps := 4000000}) only [go_sem, ↓reduceIte, Bool.false_eq_true, Nat.reduceEqDiff, Nat.reduceAdd, Int.reduceLE, Int.reduceLT, Int.reduceEq, Int.reduceToNat, Int.toNat_natCast, Int.cast_ofNat_Int, Int.natCast_one, Nat.reduceMod, Nat.reduceDiv, UInt8.reduceToNat, Nat.reduceLT, d1, d2, kp, c58, h4, b1, e1]
      | true =>
        rw [h5] at e1
        simp (config := {contextual := true, implicitDefEqProofs := false, maxSteps := 4000000}) only [go_sem, ↓reduceIte, Bool.false_eq_true, Nat.reduceEqDiff, Nat.reduceAdd, Int.reduceLE, Int.reduceLT, Int.reduceEq, Int.reduceToNat, Int.toNat_natCast, Int.cast_ofNat_Int, Int.natCast_one, Nat.reduceMod, Nat.reduceDiv, UInt8.reduceToNat, Nat.reduceLT, d1, d2, kp, c58, h4, b1, e1, w1, b2, b3, e2]
end T18


/- The lexer's numbers, times and dates. -/
namespace T18
open Go Fw Go.Proofs
set_option maxRecDepth 100000
set_option maxHeartbeats 4000000
set_option linter.unusedSimpArgs false
set_option linter.unusedVariables false
def numF : List UInt8 → Nat → Nat
  | [], n => n
  | b :: l, n => numF l (10 * n + (b.toNat - 48))
theorem numF_lt : ∀ (l : List UInt8) (n k : Nat), l.all isD = true → n < 10 ^ k → numF l n < 10 ^ (k + l.length)
  | [], n, k, _, h => h
  | b :: l, n, k, ha, h => by
    simp only [List.all_cons, Bool.and_eq_true] at ha
    simp only [numF, List.length_cons]
    have hb : b.toNat - 48 ≤ 9 := by
      have := ha.1; unfold isD at this; simp only [Bool.and_eq_true, decide_eq_true_eq] at this; omega
    rw [show k + (l.length + 1) = (k + 1) + l.length by omega]
    exact numF_lt l _ (k + 1) ha.2 (by rw [Nat.pow_succ]; omega)
theorem wrap_u64 (n : Int) : IntKind.u64.wrap n = n % 18446744073709551616 := rfl
theorem wrap_u8 (n : Int) : IntKind.u8.wrap n = n % 256 := rfl
theorem byte_at {a : List UInt8} {i : Nat} (h : i < a.length) : sub (byteCells a) i 1 = some [.int .u8 ((a.getD i 0).toNat : Int)] := by
  rw [sub_one (by simpa [byteCells] using h)]
  simp [byteCells, List.getD, h]
theorem getD_all {q : UInt8 → Bool} {a : List UInt8} (h : a.all q = true) {i : Nat} (hi : i < a.length) : q (a.getD i 0) = true := by
  have : a.getD i 0 = a[i] := by simp [List.getD, hi]
  rw [this]; exact List.all_eq_true.1 h _ (List.getElem_mem hi)
theorem isD_bounds {b : UInt8} (h : isD b = true) : 48 ≤ b.toNat ∧ b.toNat ≤ 57 := by
  unfold isD at h; simp only [Bool.and_eq_true, decide_eq_true_eq] at h; exact h
theorem l86 (a : List UInt8) (ha : a.all isD = true) (hl : a.length ≤ 15) (C : Nat) (ty : Option TypeId) (st : St) (hlk : Fw.look C st.heap = some (.cells ty (byteCells a))) (Q : Sig → FE → St → Prop) : ∀ (n i v : Nat) (e : FE), i + n = a.length → v < 10 ^ i → e 99 = .mslice C 0 a.length none → e 100 = .int .i64 (a.length : Int) → e 101 = .int .i64 (i : Int) → e 13 = .int .u64 (v : Int) → e 1 = .int .i64 10 → e 10 = .int .u64 1844674407370955162 → e 11 = .int .u64 18446744073709551615 → e 12 = .bool false →
    (∀ e', e' 13 = .int .u64 ((numF (a.drop i) v : Nat) : Int) → e' 12 = .bool false → Q (.exit 3) e' st) → WLoop cx ir86L0 e st Q
  | 0, i, v, e, hi, hv, h99, h100, h101, h13, h1, h10, h11, h12, hQ => by
    refine WLoop.rnd (c := _) ir86L0.eq_1 ?_
    have d1 : decide ((i : Int) < (a.length : Int)) = false := decide_eq_false (by omega)
    rw [List.drop_eq_nil_of_le (by omega)] at hQ
    simp (config := {contextual := true, implicitDefEqProofs := false, maxSteps := 4000000}) only [go_sem, ↓reduceIte, Bool.false_eq_true, Nat.reduceEqDiff, Nat.reduceAdd, Int.reduceLE, Int.reduceLT, Int.reduceEq, Int.reduceToNat, Int.toNat_natCast, Int.cast_ofNat_Int, Int.natCast_one, Nat.reduceMod, Nat.reduceDiv, UInt8.reduceToNat, Nat.reduceLT, h99, h100, h101, d1]
    exact hQ _ h13 h12
  | n + 1, i, v, e, hi, hv, h99, h100, h101, h13, h1, h10, h11, h12, hQ => by
    refine WLoop.rnd (c := _) ir86L0.eq_1 ?_
    have d1 : decide ((i : Int) < (a.length : Int)) = true := decide_eq_true (by omega)
    have b1 : (0 : Int) ≤ (i : Int) ∧ (i : Int) < (a.length : Int) := by omega
    have hw := wrap_one (i := i) (by omega)
    have hb := byte_at (a := a) (i := i) (by omega)
    have hD := isD_bounds (getD_all ha (i := i) (by omega))
    rw [drop_at (a := a) (i := i) (by omega)] at hQ
    simp only [numF] at hQ
    obtain ⟨c, hcd⟩ : ∃ c, a.getD i 0 = c := ⟨_, rfl⟩
    rw [hcd] at hQ hD hb
    have hv2 : v < 10 ^ 14 := Nat.lt_of_lt_of_le hv (Nat.pow_le_pow_right (by decide) (by omega))
    simp only [Nat.reducePow] at hv2
    have c1 : decide (((c.toNat : Nat) : Int) = 95) = false := decide_eq_false (by omega)
    have c2 : decide ((48 : Int) ≤ ((c.toNat : Nat) : Int)) = true := decide_eq_true (by omega)
    have c3 : decide (((c.toNat : Nat) : Int) ≤ 57) = true := decide_eq_true (by omega)
    have w1 : IntKind.u8.wrap (((c.toNat : Nat) : Int) - 48) = ((c.toNat - 48 : Nat) : Int) := by rw [wrap_u8]; omega
    obtain ⟨d, hd⟩ : ∃ d, c.toNat - 48 = d := ⟨_, rfl⟩
    rw [hd] at w1 hQ
    have hd9 : d ≤ 9 := by omega
    have w2 : IntKind.u8.wrap 10 = 10 := rfl
    have c4 : decide ((10 : Int) ≤ (d : Int)) = false := decide_eq_false (by omega)
    have c5 : decide ((1844674407370955162 : Int) ≤ (v : Int)) = false := decide_eq_false (by omega)
    have w3 : IntKind.u64.wrap 10 = 10 := rfl
    have w4 : IntKind.u64.wrap ((v : Int) * 10) = ((10 * v : Nat) : Int) := by rw [wrap_u64]; omega
    have w5 : IntKind.u64.wrap (d : Int) = (d : Int) := by rw [wrap_u64]; omega
    have w6 : IntKind.u64.wrap (((10 * v : Nat) : Int) + (d : Int)) = ((10 * v + d : Nat) : Int) := by rw [wrap_u64]; omega
    have c6 : decide (((10 * v + d : Nat) : Int) < ((10 * v : Nat) : Int)) = false := decide_eq_false (by omega)
    have c7 : decide ((18446744073709551615 : Int) < ((10 * v + d : Nat) : Int)) = false := decide_eq_false (by omega)
    simp (config := {contextual := true, implicitDefEqProofs := false, maxSteps := 4000000}) only [go_sem, ↓reduceIte, Bool.false_eq_true, Nat.reduceEqDiff, Nat.reduceAdd, Int.reduceLE, Int.reduceLT, Int.reduceEq, Int.reduceToNat, Int.toNat_natCast, Int.cast_ofNat_Int, Int.natCast_one, Nat.reduceMod, Nat.reduceDiv, UInt8.reduceToNat, Nat.reduceLT, h99, h100, h101, h13, h1, h10, h11, h12, d1, hw, oget_iaddr_mslice, b1, Nat_mul_one, hlk, hb, c1, c2, c3, w1, w2, c4, c5, w3, w4, w5, w6, c6, c7]
    exact l86 a ha hl C ty st hlk Q n (i + 1) (10 * v + d) _ (by omega) (by rw [Nat.pow_succ]; omega) h99 h100 rfl rfl h1 h10 h11 h12 hQ
theorem c86 (a : List UInt8) (ha : a.all isD = true) (hne : a ≠ []) (hl : a.length ≤ 15) (s : St) (K : AV → St → Prop) : CallW cx 86 [.str a, .int .i64 10, .int .i64 64] s K = K (.tuple [.int .u64 ((numF a 0 : Nat) : Int), .niliface]) s := by
  refine CallW.eq (CallW.fn' (fn := ir86) rfl rfl (by kernel_rfl) ir86.eq_1 ?_) K
  have d1 : decide (a = []) = false := decide_eq_false hne
  have s0 : IntKind.u64.wrap 64 = 64 := rfl
  have s1 : evBin .shl (.int .u64 1) (.int .u64 64) = some (.int .u64 0) := rfl
  have s2 : IntKind.u64.wrap (0 - 1) = 18446744073709551615 := rfl
  simp (config := {contextual := true, implicitDefEqProofs := false, maxSteps := 4000000}) only [go_sem, ↓reduceIte, Bool.false_eq_true, Nat.reduceEqDiff, Nat.reduceAdd, Int.reduceLE, Int.reduceLT, Int.reduceEq, Int.reduceToNat, Int.toNat_natCast, Int.cast_ofNat_Int, Int.natCast_one, Nat.reduceMod, Nat.reduceDiv, UInt8.reduceToNat, Nat.reduceLT, d1, s0, s1, s2]
  refine l86 a ha hl s.next none _ (by simp only [Fw.look, if_true]) _ a.length 0 0 _ (by omega) (by decide) rfl rfl rfl rfl rfl rfl rfl rfl ?_
  intro e' h13 h12
  rw [List.drop_zero] at h13
  have hlv : ∀ (s' : St) (K : AV → St → Prop), s.next ≤ s'.low → LeaveW s s' (.tuple [.int .u64 ((numF a 0 : Nat) : Int), .niliface]) K = K (.tuple [.int .u64 ((numF a 0 : Nat) : Int), .niliface]) s := fun s' K h => LeaveW_tuple rfl h K
  simp (config := {contextual := true, implicitDefEqProofs := false, maxSteps := 4000000}) only [go_sem, ↓reduceIte, Bool.false_eq_true, Nat.reduceEqDiff, Nat.reduceAdd, Int.reduceLE, Int.reduceLT, Int.reduceEq, Int.reduceToNat, Int.toNat_natCast, Int.cast_ofNat_Int, Int.natCast_one, Nat.reduceMod, Nat.reduceDiv, UInt8.reduceToNat, Nat.reduceLT, h13, h12, hlv]
theorem c82 (a : List UInt8) (ha : a.all isD = true) (hne : a ≠ []) (hl : a.length ≤ 15) (s : St) (K : AV → St → Prop) : CallW cx 82 [.str a, .int .i64 10, .int .i64 64] s K = K (.tuple [.int .i64 ((numF a 0 : Nat) : Int), .niliface]) s := by
  refine CallW.eq (CallW.fn' (fn := ir82) rfl rfl (by kernel_rfl) ir82.eq_1 ?_) K
  have d1 : decide (a = []) = false := decide_eq_false hne
  have hp : 0 < a.length := List.length_pos_iff.2 hne
  have hlt : (0 : Int) < (a.length : Int) := by omega
  have hD := isD_bounds (getD_all ha (i := 0) hp)
  obtain ⟨c, hc⟩ : ∃ c, a.getD 0 0 = c := ⟨_, rfl⟩
  rw [hc] at hD
  have d2 : decide (((c.toNat : Nat) : Int) = 43) = false := decide_eq_false (by omega)
  have d3 : decide (((c.toNat : Nat) : Int) = 45) = false := decide_eq_false (by omega)
  have k := fun st K => c86 a ha hne hl st K
  have hn : numF a 0 < 10 ^ 15 := Nat.lt_of_lt_of_le (numF_lt a 0 0 ha (by decide)) (Nat.pow_le_pow_right (by decide) (by omega))
  simp only [Nat.reducePow] at hn
  have e0 : evEq .iface .niliface .niliface = some true := rfl
  have w0 : IntKind.i64.wrap (64 - 1) = 63 := rfl
  have w1 : IntKind.u64.wrap 63 = 63 := rfl
  have s1 : evBin .shl (.int .u64 1) (.int .u64 63) = some (.int .u64 9223372036854775808) := rfl
  have d4 : decide ((9223372036854775808 : Int) ≤ ((numF a 0 : Nat) : Int)) = false := decide_eq_false (by omega)
  have w2 : IntKind.i64.wrap ((numF a 0 : Nat) : Int) = ((numF a 0 : Nat) : Int) := wrap_i64 (by omega) (by omega)
  have hlv : ∀ (s' : St) (K : AV → St → Prop), s.next ≤ s'.low → LeaveW s s' (.tuple [.int .i64 ((numF a 0 : Nat) : Int), .niliface]) K = K (.tuple [.int .i64 ((numF a 0 : Nat) : Int), .niliface]) s := fun s' K h => LeaveW_tuple rfl h K
  simp (config := {contextual := true, implicitDefEqProofs := false, maxSteps := 4000000}) only [go_sem, ↓reduceIte, Bool.false_eq_true, Nat.reduceEqDiff, Nat.reduceAdd, Int.reduceLE, Int.reduceLT, Int.reduceEq, Int.reduceToNat, Int.toNat_natCast, Int.cast_ofNat_Int, Int.natCast_one, Nat.reduceMod, Nat.reduceDiv, UInt8.reduceToNat, Nat.reduceLT, d1, hlt, hc, d2, d3, k, e0, w0, w1, s1, d4, w2, hlv]
theorem c73 (a : List UInt8) (ha : a.all isD = true) (hne : a ≠ []) (hl : a.length ≤ 15) (s : St) (K : AV → St → Prop) : CallW cx 73 [.str a, .int .i64 10, .int .i64 64] s K = K (.tuple [.int .i64 ((numF a 0 : Nat) : Int), .niliface]) s := by
  refine CallW.eq (CallW.fn' (fn := ir73) rfl rfl (by kernel_rfl) ir73.eq_1 ?_) K
  have k := fun st K => c82 a ha hne hl st K
  have e0 : evEq .iface .niliface .niliface = some true := rfl
  have hlv : ∀ (s' : St) (K : AV → St → Prop), s.next ≤ s'.low → LeaveW s s' (.tuple [.int .i64 ((numF a 0 : Nat) : Int), .niliface]) K = K (.tuple [.int .i64 ((numF a 0 : Nat) : Int), .niliface]) s := fun s' K h => LeaveW_tuple rfl h K
  simp (config := {contextual := true, implicitDefEqProofs := false, maxSteps := 4000000}) only [go_sem, ↓reduceIte, Bool.false_eq_true, Nat.reduceEqDiff, Nat.reduceAdd, Int.reduceLE, Int.reduceLT, Int.reduceEq, Int.reduceToNat, Int.toNat_natCast, Int.cast_ofNat_Int, Int.natCast_one, Nat.reduceMod, Nat.reduceDiv, UInt8.reduceToNat, Nat.reduceLT, k, e0, hlv]
end T18


/- The lexer's numbers, times and dates, continued. -/
namespace T18
open Go Fw Go.Proofs
set_option maxRecDepth 100000
set_option maxHeartbeats 4000000
set_option linter.unusedSimpArgs false
set_option linter.unusedVariables false
/- times -/
def dg (b : UInt8) : Int := ((b.toNat - 48 : Nat) : Int)
def clockH (a : List UInt8) : Int := dg (a.getD 0 0) * 10 + dg (a.getD 1 0)
def clockM (a : List UInt8) : Int := dg (a.getD 3 0) * 10 + dg (a.getD 4 0)
def clockF (a : List UInt8) : Bool := decide (a.length = 5) && (decide (a.getD 2 0 = 58) && ((a.take 2).all isD && (a.drop 3).all isD))
def clockB (a : List UInt8) : Int × Bool × Bool := if clockF a then (60 * clockH a + clockM a, true, decide (clockH a < 24) && decide (clockM a < 60)) else (0, false, false)
theorem dg_le {b : UInt8} (h : isD b = true) : 0 ≤ dg b ∧ dg b ≤ 9 ∧ IntKind.i64.wrap (IntKind.u8.wrap ((b.toNat : Int) - 48)) = dg b := by
  have := isD_bounds h
  unfold dg
  refine ⟨by omega, by omega, ?_⟩
  rw [show IntKind.u8.wrap ((b.toNat : Int) - 48) = ((b.toNat - 48 : Nat) : Int) by rw [wrap_u8]; omega, wrap_i64 (by omega) (by omega)]
theorem c54 (a : List UInt8) (hl : a.length ≤ 1100000) (s : St) (K : AV → St → Prop) : CallW cx 54 [.str a] s K = K (.tuple [.int .i64 (clockB a).1, .bool (clockB a).2.1, .bool (clockB a).2.2]) s := by
  refine CallW.eq (CallW.fn' (fn := ir54) rfl rfl (by kernel_rfl) ir54.eq_1 ?_) K
  by_cases h1 : a.length = 5
  case neg =>
    have d1 : decide ((a.length : Int) ≠ 5) = true := decide_eq_true (by omega)
    have e : clockB a = (0, false, false) := by unfold clockB clockF; rw [decide_eq_false h1]; rfl
    rw [e]
    simp (config := {contextual := true, implicitDefEqProofs := false, maxSteps := 4000000}) only [go_sem, ↓reduceIte, Bool.false_eq_true, Nat.reduceEqDiff, Nat.reduceAdd, Int.reduceLE, Int.reduceLT, Int.reduceEq, Int.reduceToNat, Int.toNat_natCast, Int.cast_ofNat_Int, Int.natCast_one, Nat.reduceMod, Nat.reduceDiv, UInt8.reduceToNat, Nat.reduceLT, d1]
  have d1 : decide ((a.length : Int) ≠ 5) = false := decide_eq_false (by omega)
  have hz : ((a.length : Nat) : Int) = 5 := by omega
  have d1z : decide ((5 : Int) ≠ 5) = false := rfl
  by_cases h2 : a.getD 2 0 = 58
  case neg =>
    have d2 : decide ((((a.getD 2 0).toNat : Nat) : Int) ≠ 58) = true := decide_eq_true (fun h => h2 (byte_eq (n := 58) h))
    have e : clockB a = (0, false, false) := by unfold clockB clockF; rw [decide_eq_false h2]; simp
    rw [e]
    simp (config := {contextual := true, implicitDefEqProofs := false, maxSteps := 4000000}) only [go_sem, ↓reduceIte, Bool.false_eq_true, Nat.reduceEqDiff, Nat.reduceAdd, Int.reduceLE, Int.reduceLT, Int.reduceEq, Int.reduceToNat, Int.toNat_natCast, Int.cast_ofNat_Int, Int.natCast_one, Nat.reduceMod, Nat.reduceDiv, UInt8.reduceToNat, Nat.reduceLT, hz, d1z, d2]
  have d2 : decide ((((a.getD 2 0).toNat : Nat) : Int) ≠ 58) = false := decide_eq_false (by rw [h2]; simp)
  have k1 := fun st K => c68 (a.take 2) (by rw [List.length_take]; omega) 2 st K
  have k2 := fun st K => c68 (a.drop 3) (by rw [List.length_drop]; omega) 2 st K
  rw [show decide ((a.take 2).length = 2) = true by rw [List.length_take, h1]; rfl, Bool.true_and] at k1
  rw [show decide ((a.drop 3).length = 2) = true by rw [List.length_drop, h1]; rfl, Bool.true_and] at k2
  simp only [Int.cast_ofNat_Int] at k1 k2
  cases h3 : (a.take 2).all isD with
  | false =>
    rw [h3] at k1
    have e : clockB a = (0, false, false) := by unfold clockB clockF; rw [h3]; simp
    rw [e]
    simp (config := {contextual := true, implicitDefEqProofs := false, maxSteps := 4000000}) only [go_sem, ↓reduceIte, Bool.false_eq_true, Nat.reduceEqDiff, Nat.reduceAdd, Int.reduceLE, Int.reduceLT, Int.reduceEq, Int.reduceToNat, Int.toNat_natCast, Int.cast_ofNat_Int, Int.natCast_one, Nat.reduceMod, Nat.reduceDiv, UInt8.reduceToNat, Nat.reduceLT, hz, d1z, d2, k1]
  | true =>
    rw [h3] at k1
    cases h4 : (a.drop 3).all isD with
    | false =>
      rw [h4] at k2
      have e : clockB a = (0, false, false) := by unfold clockB clockF; rw [h4]; simp
      rw [e]
      simp (config := {contextual := true, implicitDefEqProofs := false, maxSteps := 4000000}) only [go_sem, ↓reduceIte, Bool.false_eq_true, Nat.reduceEqDiff, Nat.reduceAdd, Int.reduceLE, Int.reduceLT, Int.reduceEq, Int.reduceToNat, Int.toNat_natCast, Int.cast_ofNat_Int, Int.natCast_one, Nat.reduceMod, Nat.reduceDiv, UInt8.reduceToNat, Nat.reduceLT, hz, d1z, d2, k1, k2]
    | true =>
      rw [h4] at k2
      have hF : clockF a = true := by unfold clockF; rw [h3, h4, decide_eq_true h1, decide_eq_true h2]; rfl
      have g : ∀ i, i < 2 → isD (a.getD i 0) = true := by
        intro i hi
        have h := getD_all h3 (i := i) (by rw [List.length_take, h1]; omega)
        rwa [show (a.take 2).getD i 0 = a.getD i 0 by simp [List.getD, hi]] at h
      have g' : ∀ i, i < 2 → isD (a.getD (3 + i) 0) = true := by
        intro i hi
        have h := getD_all h4 (i := i) (by rw [List.length_drop, h1]; omega)
        rwa [show (a.drop 3).getD i 0 = a.getD (3 + i) 0 by simp [List.getD]] at h
      obtain ⟨p0, q0, r0⟩ := dg_le (g 0 (by decide))
      obtain ⟨p1, q1, r1⟩ := dg_le (g 1 (by decide))
      obtain ⟨p3, q3, r3⟩ := dg_le (g' 0 (by decide))
      obtain ⟨p4, q4, r4⟩ := dg_le (g' 1 (by decide))
      simp only [Nat.reduceAdd, Nat.add_zero] at r3 r4 p3 p4 q3 q4
      unfold clockB
      rw [if_pos hF]
      unfold clockH clockM
      generalize dg (a.getD 0 0) = x0 at *
      generalize dg (a.getD 1 0) = x1 at *
      generalize dg (a.getD 3 0) = x3 at *
      generalize dg (a.getD 4 0) = x4 at *
      have w0 : IntKind.i64.wrap (x0 * 10) = x0 * 10 := wrap_i64 (by omega) (by omega)
      have w1 : IntKind.i64.wrap (x0 * 10 + x1) = x0 * 10 + x1 := wrap_i64 (by omega) (by omega)
      have w3 : IntKind.i64.wrap (x3 * 10) = x3 * 10 := wrap_i64 (by omega) (by omega)
      have w4 : IntKind.i64.wrap (x3 * 10 + x4) = x3 * 10 + x4 := wrap_i64 (by omega) (by omega)
      have w5 : IntKind.i64.wrap (60 * (x0 * 10 + x1)) = 60 * (x0 * 10 + x1) := wrap_i64 (by omega) (by omega)
      have w6 : IntKind.i64.wrap (60 * (x0 * 10 + x1) + (x3 * 10 + x4)) = 60 * (x0 * 10 + x1) + (x3 * 10 + x4) := wrap_i64 (by omega) (by omega)
      cases d5 : decide (x0 * 10 + x1 < 24)
      · simp (config := {contextual := true, implicitDefEqProofs := false, maxSteps := 4000000}) only [go_sem, ↓reduceIte, Bool.false_eq_true, Nat.reduceEqDiff, Nat.reduceAdd, Int.reduceLE, Int.reduceLT, Int.reduceEq, Int.reduceToNat, Int.toNat_natCast, Int.cast_ofNat_Int, Int.natCast_one, Nat.reduceMod, Nat.reduceDiv, UInt8.reduceToNat, Nat.reduceLT, hz, d1z, d2, k1, k2, r0, r1, r3, r4, w0, w1, w3, w4, w5, w6, d5]
      · simp (config := {contextual := true, implicitDefEqProofs := false, maxSteps := 4000000}) only [go_sem, ↓reduceIte, Bool.false_eq_true, Nat.reduceEqDiff, Nat.reduceAdd, Int.reduceLE, Int.reduceLT, Int.reduceEq, Int.reduceToNat, Int.toNat_natCast, Int.cast_ofNat_Int, Int.natCast_one, Nat.reduceMod, Nat.reduceDiv, UInt8.reduceToNat, Nat.reduceLT, hz, d1z, d2, k1, k2, r0, r1, r3, r4, w0, w1, w3, w4, w5, w6, d5]
/- dates -/
def partB (x : List UInt8) (n : Nat) : Bool := decide (x = [42]) || (decide (x.length = n) && x.all isD)
def withinB (x most : List UInt8) : Bool := decide (x = [42]) || (!Go.Op.bytesLess x [48, 49] && (Go.Op.bytesLess x most || x == most))
def dateB (a : List UInt8) : Bool × Bool := match splitB 45 a with
  | [y, m, d] => if partB y 4 && (partB m 2 && partB d 2) then (true, withinB m [49, 50] && withinB d [51, 49]) else (false, false)
  | _ => (false, false)
theorem c69 (i : Nat) (n : Nat) (x : List UInt8) (hx : x.length ≤ 1100000) (C B len : Nat) (cp : Option Nat) (ty ty' : Option TypeId) (cs : List AV) (st : St) (hlk : Fw.look C st.heap = some (.cells ty [.mslice B 0 len cp])) (hlk2 : Fw.look B st.heap = some (.cells ty' cs)) (hi : i < len) (hs : sub cs i 1 = some [.str x]) (K : AV → St → Prop) :
    CallW cx 69 [.int .i64 (i : Int), .int .i64 (n : Int), .ptr C 0] st K = K (.bool (partB x n)) st := by
  refine CallW.eq (CallW.fn' (fn := ir69) rfl rfl (by kernel_rfl) ir69.eq_1 ?_) K
  have b1 : (0 : Int) ≤ (i : Int) ∧ (i : Int) < (len : Int) := by omega
  have k := fun st K => c68 x (by omega) n st K
  unfold partB
  cases h : decide (x = [42])
  · simp (config := {contextual := true, implicitDefEqProofs := false, maxSteps := 4000000}) only [go_sem, ↓reduceIte, Bool.false_eq_true, Nat.reduceEqDiff, Nat.reduceAdd, Int.reduceLE, Int.reduceLT, Int.reduceEq, Int.reduceToNat, Int.toNat_natCast, Int.cast_ofNat_Int, Int.natCast_one, Nat.reduceMod, Nat.reduceDiv, UInt8.reduceToNat, Nat.reduceLT, hlk, oget_iaddr_mslice, b1, Nat_mul_one, hlk2, hs, h, k]
  · simp (config := {contextual := true, implicitDefEqProofs := false, maxSteps := 4000000}) only [go_sem, ↓reduceIte, Bool.false_eq_true, Nat.reduceEqDiff, Nat.reduceAdd, Int.reduceLE, Int.reduceLT, Int.reduceEq, Int.reduceToNat, Int.toNat_natCast, Int.cast_ofNat_Int, Int.natCast_one, Nat.reduceMod, Nat.reduceDiv, UInt8.reduceToNat, Nat.reduceLT, hlk, oget_iaddr_mslice, b1, Nat_mul_one, hlk2, hs, h, k]
theorem bin_sgeq (a b : List UInt8) : evBin .geq (.str a) (.str b) = some (.bool (!Go.Op.bytesLess a b)) := rfl
theorem bin_sleq (a b : List UInt8) : evBin .leq (.str a) (.str b) = some (.bool (Go.Op.bytesLess a b || a == b)) := rfl
theorem c70 (i : Nat) (most x : List UInt8) (C B len : Nat) (cp : Option Nat) (ty ty' : Option TypeId) (cs : List AV) (st : St) (hlk : Fw.look C st.heap = some (.cells ty [.mslice B 0 len cp])) (hlk2 : Fw.look B st.heap = some (.cells ty' cs)) (hi : i < len) (hs : sub cs i 1 = some [.str x]) (K : AV → St → Prop) :
    CallW cx 70 [.int .i64 (i : Int), .str most, .ptr C 0] st K = K (.bool (withinB x most)) st := by
  refine CallW.eq (CallW.fn' (fn := ir70) rfl rfl (by kernel_rfl) ir70.eq_1 ?_) K
  have b1 : (0 : Int) ≤ (i : Int) ∧ (i : Int) < (len : Int) := by omega
  unfold withinB
  cases h : decide (x = [42])
  · cases h2 : Go.Op.bytesLess x [48, 49]
    · simp (config := {contextual := true, implicitDefEqProofs := false, maxSteps := 4000000}) only [go_sem, ↓reduceIte, Bool.false_eq_true, Nat.reduceEqDiff, Nat.reduceAdd, Int.reduceLE, Int.reduceLT, Int.reduceEq, Int.reduceToNat, Int.toNat_natCast, Int.cast_ofNat_Int, Int.natCast_one, Nat.reduceMod, Nat.reduceDiv, UInt8.reduceToNat, Nat.reduceLT, hlk, oget_iaddr_mslice, b1, Nat_mul_one, hlk2, hs, h, bin_sgeq, bin_sleq, h2]
    · simp (config := {contextual := true, implicitDefEqProofs := false, maxSteps := 4000000}) only [go_sem, ↓reduceIte, Bool.false_eq_true, Nat.reduceEqDiff, Nat.reduceAdd, Int.reduceLE, Int.reduceLT, Int.reduceEq, Int.reduceToNat, Int.toNat_natCast, Int.cast_ofNat_Int, Int.natCast_one, Nat.reduceMod, Nat.reduceDiv, UInt8.reduceToNat, Nat.reduceLT, hlk, oget_iaddr_mslice, b1, Nat_mul_one, hlk2, hs, h, bin_sgeq, bin_sleq, h2]
  · simp (config := {contextual := true, implicitDefEqProofs := false, maxSteps := 4000000}) only [go_sem, ↓reduceIte, Bool.false_eq_true, Nat.reduceEqDiff, Nat.reduceAdd, Int.reduceLE, Int.reduceLT, Int.reduceEq, Int.reduceToNat, Int.toNat_natCast, Int.cast_ofNat_Int, Int.natCast_one, Nat.reduceMod, Nat.reduceDiv, UInt8.reduceToNat, Nat.reduceLT, hlk, oget_iaddr_mslice, b1, Nat_mul_one, hlk2, hs, h]
theorem parts_le (c : UInt8) : ∀ (a x : List UInt8), x ∈ splitB c a → x.length ≤ a.length
  | [], x, h => by simp [splitB] at h; simp [h]
  | b :: l, x, h => by
    have ih := parts_le c l
    simp only [splitB] at h
    split at h
    · rcases List.mem_cons.1 h with rfl | h
      · simp
      · have := ih x h; simp; omega
    · cases hs : splitB c l with
      | nil => exact absurd hs (splitB_ne c l)
      | cons y ys =>
        rw [hs] at h ih
        rcases List.mem_cons.1 h with rfl | h
        · have := ih y (by simp); simp; omega
        · have := ih x (by simp [h]); simp; omega
theorem c55 (a : List UInt8) (hl : a.length ≤ 1100000) (s : St) (K : AV → St → Prop) : CallW cx 55 [.str a] s K = K (.tuple [.bool (dateB a).1, .bool (dateB a).2]) s := by
  refine CallW.eq (CallW.fn' (fn := ir55) rfl rfl (by kernel_rfl) ir55.eq_1 ?_) K
  have k := fun st K => c25 a 45 (by omega) st K
  have hlen := splitB_len 45 a
  have hne : s.next ≠ s.next + 1 := by omega
  have hne2 : s.next + 1 ≠ s.next := by omega
  have hmin : min s.next (s.next + 1) = s.next := by omega
  by_cases h3 : a.count 45 + 1 = 3
  case neg =>
    have d1 : decide (((a.count 45 + 1 : Nat) : Int) ≠ 3) = true := decide_eq_true (by omega)
    have e : dateB a = (false, false) := by
      unfold dateB
      match hs : splitB 45 a, hlen with
      | [], h => simp at h
      | [x], h => rfl
      | [x, y], h => rfl
      | [x, y, z], h => rw [hs] at hlen; simp at hlen; omega
      | x :: y :: z :: w :: r, h => rfl
    rw [e]
    simp (config := {contextual := true, implicitDefEqProofs := false, maxSteps := 4000000}) only [go_sem, ↓reduceIte, Bool.false_eq_true, Nat.reduceEqDiff, Nat.reduceAdd, Int.reduceLE, Int.reduceLT, Int.reduceEq, Int.reduceToNat, Int.toNat_natCast, Int.cast_ofNat_Int, Int.natCast_one, Nat.reduceMod, Nat.reduceDiv, UInt8.reduceToNat, Nat.reduceLT, k, hmin, d1]
  have d1 : decide (((a.count 45 + 1 : Nat) : Int) ≠ 3) = false := decide_eq_false (by omega)
  obtain ⟨y, m, d, hs⟩ : ∃ y m d, splitB 45 a = [y, m, d] := by
    match hs : splitB 45 a, hlen with
    | [], h => simp at h
    | [x], h => simp at h; omega
    | [x, y], h => simp at h; omega
    | [x, y, z], h => exact ⟨x, y, z, rfl⟩
    | x :: y :: z :: w :: r, h => simp at h; omega
  have ly := parts_le 45 a y (by rw [hs]; simp)
  have lm := parts_le 45 a m (by rw [hs]; simp)
  have ld := parts_le 45 a d (by rw [hs]; simp)
  rw [hs, h3] at k
  have d3 : decide ((3 : Int) ≠ 3) = false := rfl
  have e : dateB a = if partB y 4 && (partB m 2 && partB d 2) then (true, withinB m [49, 50] && withinB d [51, 49]) else (false, false) := by unfold dateB; rw [hs]
  have cs : encS [y, m, d] = [.str y, .str m, .str d] := rfl
  have st1 : ∀ l : Nat, Fw.look (s.next + 1) ({ heap := (s.next + 1, .cells (some 42) [.mslice s.next 0 3 (some 3)]) :: (s.next, .cells none (encS [y, m, d])) :: s.heap, next := s.next + 2, low := l } : St).heap = some (.cells (some 42) [.mslice s.next 0 3 (some 3)]) := fun l => by simp only [Fw.look, if_true]
  have st2 : ∀ l : Nat, Fw.look s.next ({ heap := (s.next + 1, .cells (some 42) [.mslice s.next 0 3 (some 3)]) :: (s.next, .cells none (encS [y, m, d])) :: s.heap, next := s.next + 2, low := l } : St).heap = some (.cells none (encS [y, m, d])) := fun l => by simp only [Fw.look, hne2, if_false, if_true]
  have p0 := fun l K => c69 0 4 y (by omega) (s.next + 1) s.next 3 (some 3) (some 42) none (encS [y, m, d]) _ (st1 l) (st2 l) (by decide) rfl K
  have p1 := fun l K => c69 1 2 m (by omega) (s.next + 1) s.next 3 (some 3) (some 42) none (encS [y, m, d]) _ (st1 l) (st2 l) (by decide) rfl K
  have p2 := fun l K => c69 2 2 d (by omega) (s.next + 1) s.next 3 (some 3) (some 42) none (encS [y, m, d]) _ (st1 l) (st2 l) (by decide) rfl K
  have w1 := fun l K => c70 1 [49, 50] m (s.next + 1) s.next 3 (some 3) (some 42) none (encS [y, m, d]) _ (st1 l) (st2 l) (by decide) rfl K
  have w2 := fun l K => c70 2 [51, 49] d (s.next + 1) s.next 3 (some 3) (some 42) none (encS [y, m, d]) _ (st1 l) (st2 l) (by decide) rfl K
  simp only [Int.cast_ofNat_Int, Int.natCast_one] at p0 p1 p2 w1 w2
  rw [e]
  cases g0 : partB y 4 with
  | false =>
    rw [g0] at p0
    simp (config := {contextual := true, implicitDefEqProofs := false, maxSteps := 4000000}) only [go_sem, ↓reduceIte, Bool.false_eq_true, Nat.reduceEqDiff, Nat.reduceAdd, Int.reduceLE, Int.reduceLT, Int.reduceEq, Int.reduceToNat, Int.toNat_natCast, Int.cast_ofNat_Int, Int.natCast_one, Nat.reduceMod, Nat.reduceDiv, UInt8.reduceToNat, Nat.reduceLT, k, h3, d3, hmin, p0]
  | true =>
    rw [g0] at p0
    cases g1 : partB m 2 with
    | false =>
      rw [g1] at p1
      simp (config := {contextual := true, implicitDefEqProofs := false, maxSteps := 4000000}) only [go_sem, ↓reduceIte, Bool.false_eq_true, Nat.reduceEqDiff, Nat.reduceAdd, Int.reduceLE, Int.reduceLT, Int.reduceEq, Int.reduceToNat, Int.toNat_natCast, Int.cast_ofNat_Int, Int.natCast_one, Nat.reduceMod, Nat.reduceDiv, UInt8.reduceToNat, Nat.reduceLT, k, h3, d3, hmin, p0, p1]
    | true =>
      rw [g1] at p1
      cases g2 : partB d 2 with
      | false =>
        rw [g2] at p2
        simp (config := {contextual := true, implicitDefEqProofs := false, maxSteps := 4000000}) only [go_sem, ↓reduceIte, Bool.false_eq_true, Nat.reduceEqDiff, Nat.reduceAdd, Int.reduceLE, Int.reduceLT, Int.reduceEq, Int.reduceToNat, Int.toNat_natCast, Int.cast_ofNat_Int, Int.natCast_one, Nat.reduceMod, Nat.reduceDiv, UInt8.reduceToNat, Nat.reduceLT, k, h3, d3, hmin, p0, p1, p2]
      | true =>
        rw [g2] at p2
        cases g3 : withinB m [49, 50] with
        | false =>
          rw [g3] at w1
          simp (config := {contextual := true, implicitDefEqProofs := false, maxSteps := 4000000}) only [go_sem, ↓reduceIte, Bool.false_eq_true, Nat.reduceEqDiff, Nat.reduceAdd, Int.reduceLE, Int.reduceLT, Int.reduceEq, Int.reduceToNat, Int.toNat_natCast, Int.cast_ofNat_Int, Int.natCast_one, Nat.reduceMod, Nat.reduceDiv, UInt8.reduceToNat, Nat.reduceLT, k, h3, d3, hmin, p0, p1, p2, w1]
        | true =>
          rw [g3] at w1
          simp (config := {contextual := true, implicitDefEqProofs := false, maxSteps := 4000000}) only [go_sem, ↓reduceIte, Bool.false_eq_true, Nat.reduceEqDiff, Nat.reduceAdd, Int.reduceLE, Int.reduceLT, Int.reduceEq, Int.reduceToNat, Int.toNat_natCast, Int.cast_ofNat_Int, Int.natCast_one, Nat.reduceMod, Nat.reduceDiv, UInt8.reduceToNat, Nat.reduceLT, k, h3, d3, hmin, p0, p1, p2, w1, w2]
end T18


/- The lexer's numbers; figures. -/
namespace T18
open Go Fw Go.Proofs
set_option maxRecDepth 100000
set_option maxHeartbeats 4000000
set_option linter.unusedSimpArgs false
set_option linter.unusedVariables false
def bodyB (s : List UInt8) : List UInt8 := if s.head? = some 45 then s.tail else s
def wholeOk (w : List UInt8) : Bool := decide (w ≠ []) && (w.all isD && !(decide (1 < w.length) && decide (w.getD 0 0 = 48)))
def fracOk (f : List UInt8) : Bool := decide (f.length ≤ 3) && (decide (f ≠ []) && f.all isD)
def valN (w f : List UInt8) : Nat := numF (w ++ (f ++ [48, 48, 48]).take 3) 0
/-- The thousandths of a number, or an error. -/
def numbB (neg : Bool) (w f : List UInt8) (pt : Bool) : Int × Int :=
  if !wholeOk w then (0, 2) else if pt && !fracOk f then (0, 2) else if 12 < w.length then (0, 6)
  else if neg && decide (valN w f = 0) then (0, 2) else if 1000000000000 < valN w f then (0, 6) else (if neg then -(valN w f : Int) else valN w f, 0)
def numberB (s : List UInt8) : Int × Int := numbB (decide (s.head? = some 45)) (cutB 46 (bodyB s)).1 (cutB 46 (bodyB s)).2.1 (cutB 46 (bodyB s)).2.2
theorem cutB_facts (c : UInt8) (a : List UInt8) : (cutB c a).1.length ≤ a.length ∧ (cutB c a).2.1.length ≤ a.length ∧ ((cutB c a).2.2 = false → (cutB c a).2.1 = []) := by
  unfold cutB
  split
  · refine ⟨by simp; omega, by simp, fun h => by cases h⟩
  · exact ⟨Nat.le_refl _, Nat.zero_le _, fun _ => rfl⟩
theorem body_len (s : List UInt8) : (bodyB s).length ≤ s.length := by unfold bodyB; split <;> simp
theorem max1 (n : Nat) : max (1 : Int) (n : Int) = ((max 1 n : Nat) : Int) := by omega
theorem dig_ne {w : List UInt8} : (decide (w.length = max 1 w.length) && w.all isD) = (decide (w ≠ []) && w.all isD) := by
  cases w with
  | nil => rfl
  | cons b l =>
    have h1 : decide ((b :: l).length = max 1 (b :: l).length) = true := decide_eq_true (by simp only [List.length_cons]; omega)
    have h2 : decide (b :: l ≠ []) = true := by simp
    rw [h1, h2]
theorem valN_lt {w f : List UInt8} (hw : w.all isD = true) (hf : f.all isD = true) (hl : w.length ≤ 12) : (w ++ (f ++ [48, 48, 48]).take 3).all isD = true ∧ (w ++ (f ++ [48, 48, 48]).take 3).length ≤ 15 ∧ valN w f < 1000000000000000 := by
  have h1 : (w ++ (f ++ [48, 48, 48]).take 3).all isD = true := by
    rw [List.all_append, hw, Bool.true_and]
    apply List.all_eq_true.2
    intro b hb
    have hb := List.mem_of_mem_take hb
    rw [List.mem_append] at hb
    rcases hb with hb | hb
    · exact List.all_eq_true.1 hf b hb
    · have : ([48, 48, 48] : List UInt8).all isD = true := by decide
      exact List.all_eq_true.1 this b hb
  have h2 : (w ++ (f ++ [48, 48, 48]).take 3).length ≤ 15 := by rw [List.length_append, List.length_take]; omega
  refine ⟨h1, h2, ?_⟩
  have := numF_lt _ 0 0 h1 (by decide)
  have h3 : 10 ^ (0 + (w ++ (f ++ [48, 48, 48]).take 3).length) ≤ 10 ^ 15 := Nat.pow_le_pow_right (by decide) (by omega)
  simp only [Nat.reducePow] at h3
  exact Nat.lt_of_lt_of_le this h3
theorem c56 (a : List UInt8) (hl : a.length ≤ 1100000) (s : St) (K : AV → St → Prop) : CallW cx 56 [.str a] s K = K (.tuple [.int .i64 (numberB a).1, .int .i64 (numberB a).2]) s := by
  refine CallW.eq (CallW.fn' (fn := ir56) rfl rfl (by kernel_rfl) ir56.eq_1 ?_) K
  have k1 := fun st K => c71 a 45 st K
  rw [show (if a.head? = some (45 : UInt8) then a.tail else a) = bodyB a from rfl] at k1
  have hb : (bodyB a).length ≤ 1100000 := Nat.le_trans (body_len a) hl
  unfold numberB
  generalize decide (a.head? = some (45 : UInt8)) = neg at *
  generalize bodyB a = b at *
  have k2 := fun st K => c72 b (by omega) 46 st K
  obtain ⟨f1, f2, f3⟩ := cutB_facts 46 b
  generalize (cutB 46 b).1 = w at *
  generalize (cutB 46 b).2.1 = f at *
  generalize (cutB 46 b).2.2 = pt at *
  have k3 := fun st K => c68 w (by omega) (max 1 w.length) st K
  have k4 := fun st K => c68 f (by omega) (max 1 f.length) st K
  rw [dig_ne] at k3 k4
  have bf : ∀ {x : Bool}, ¬ x = true → x = false := fun {x} h => by cases x; rfl; exact absurd rfl h
  by_cases hw : (decide (w ≠ []) && w.all isD) = true
  case neg =>
    have hw := bf hw
    have ok : wholeOk w = false := by unfold wholeOk; rw [← Bool.and_assoc, hw, Bool.false_and]
    have e : numbB neg w f pt = (0, 2) := by unfold numbB; rw [ok]; rfl
    rw [e]
    simp (config := {contextual := true, implicitDefEqProofs := false, maxSteps := 4000000}) only [go_sem, ↓reduceIte, Bool.false_eq_true, Nat.reduceEqDiff, Nat.reduceAdd, Int.reduceLE, Int.reduceLT, Int.reduceEq, Int.reduceToNat, Int.toNat_natCast, Int.cast_ofNat_Int, Int.natCast_one, Nat.reduceMod, Nat.reduceDiv, UInt8.reduceToNat, Nat.reduceLT, k1, k2, max1, k3, hw]
  have hwne : w ≠ [] := by simp only [Bool.and_eq_true, decide_eq_true_eq] at hw; exact hw.1
  have hwall : w.all isD = true := by simp only [Bool.and_eq_true] at hw; exact hw.2
  have hwp : 0 < w.length := List.length_pos_iff.2 hwne
  have b0 : (0 : Int) < (w.length : Int) := by omega
  have e0 : decide ((((w.getD 0 0).toNat : Nat) : Int) = 48) = decide (w.getD 0 0 = 48) := eq_byte 48 _
  by_cases hz : (decide (1 < w.length) && decide (w.getD 0 0 = 48)) = true
  case pos =>
    have ok : wholeOk w = false := by unfold wholeOk; rw [hz]; simp
    have e : numbB neg w f pt = (0, 2) := by unfold numbB; rw [ok]; rfl
    simp only [Bool.and_eq_true, decide_eq_true_eq] at hz
    have d1 : decide ((1 : Int) < (w.length : Int)) = true := decide_eq_true (by omega)
    rw [decide_eq_true hz.2] at e0
    rw [e]
    simp (config := {contextual := true, implicitDefEqProofs := false, maxSteps := 4000000}) only [go_sem, ↓reduceIte, Bool.false_eq_true, Nat.reduceEqDiff, Nat.reduceAdd, Int.reduceLE, Int.reduceLT, Int.reduceEq, Int.reduceToNat, Int.toNat_natCast, Int.cast_ofNat_Int, Int.natCast_one, Nat.reduceMod, Nat.reduceDiv, UInt8.reduceToNat, Nat.reduceLT, k1, k2, max1, k3, hw, d1, b0, e0]
  have hz := bf hz
  have ok : wholeOk w = true := by unfold wholeOk; rw [← Bool.and_assoc, hw, hz]; rfl
  -- GEN
  have g1 : f.length + 3 ≤ 9223372036854775807 := by omega
  have g2 : (0 : Int) ≤ 3 ∧ (3 : Int) ≤ ((f ++ [48, 48, 48]).length : Int) := by rw [List.length_append]; simp only [List.length_cons, List.length_nil]; omega
  have g3 : w.length + ((f ++ [48, 48, 48]).take 3).length ≤ 9223372036854775807 := by rw [List.length_take]; omega
  have hE : (pt && !fracOk f) = false → numbB neg w f pt = (if 12 < w.length then (0, 6) else if (neg && decide (valN w f = 0)) = true then (0, 2) else if 1000000000000 < valN w f then (0, 6) else (if neg = true then -(valN w f : Int) else valN w f, 0)) := by
    intro h
    unfold numbB
    rw [ok, h]; rfl
  have hE2 : (pt && !fracOk f) = true → numbB neg w f pt = (0, 2) := by
    intro h
    unfold numbB
    rw [ok, h]; rfl
  by_cases hw1 : 1 < w.length
  case pos =>
    have d1 : decide ((1 : Int) < (w.length : Int)) = true := decide_eq_true (by omega)
    have h48 : decide (w.getD 0 0 = 48) = false := by rw [decide_eq_true hw1, Bool.true_and] at hz; exact hz
    rw [h48] at e0
    cases pt with
    | false =>
      have hf0 := f3 rfl
      have hfa : f.all isD = true := by rw [hf0]; rfl
      have E := hE rfl
      by_cases h12 : 12 < w.length
      case pos =>
        have d12 : decide ((12 : Int) < (w.length : Int)) = true := decide_eq_true (by omega)
        rw [E, if_pos h12]
        simp (config := {contextual := true, implicitDefEqProofs := false, maxSteps := 4000000}) only [go_sem, ↓reduceIte, Bool.false_eq_true, Nat.reduceEqDiff, Nat.reduceAdd, Int.reduceLE, Int.reduceLT, Int.reduceEq, Int.reduceToNat, Int.toNat_natCast, Int.cast_ofNat_Int, Int.natCast_one, Nat.reduceMod, Nat.reduceDiv, UInt8.reduceToNat, Nat.reduceLT, k1, k2, max1, k3, hw, d1, b0, e0, d12]
      have d12 : decide ((12 : Int) < (w.length : Int)) = false := decide_eq_false (by omega)
      obtain ⟨v1, v2, v3⟩ := valN_lt hwall hfa (by omega)
      have kp : ∀ st K, CallW cx 73 [.str (w ++ (f ++ [48, 48, 48]).take 3), .int .i64 10, .int .i64 64] st K = K (.tuple [.int .i64 ((valN w f : Nat) : Int), .niliface]) st := fun st K => c73 (w ++ (f ++ [48, 48, 48]).take 3) v1 (by simp [hwne]) v2 st K
      rw [E, if_neg h12]
      generalize valN w f = n at *
      have wn : IntKind.i64.wrap (0 - (n : Int)) = -(n : Int) := by rw [wrap_i64 (by omega) (by omega)]; omega
      by_cases hbig : 1000000000000 < n
      · have d14 : decide ((1000000000000 : Int) < (n : Int)) = true := decide_eq_true (by omega)
        have d13 : decide ((n : Int) = 0) = false := decide_eq_false (by omega)
        have d13' : decide (n = 0) = false := decide_eq_false (by omega)
        rw [d13', Bool.and_false, if_neg (by decide), if_pos hbig]
        cases neg
        · simp (config := {contextual := true, implicitDefEqProofs := false, maxSteps := 4000000}) only [go_sem, ↓reduceIte, Bool.false_eq_true, Nat.reduceEqDiff, Nat.reduceAdd, Int.reduceLE, Int.reduceLT, Int.reduceEq, Int.reduceToNat, Int.toNat_natCast, Int.cast_ofNat_Int, Int.natCast_one, Nat.reduceMod, Nat.reduceDiv, UInt8.reduceToNat, Nat.reduceLT, k1, k2, max1, k3, hw, d1, b0, e0, d12, g1, g2, g3, kp, d13, d14]
        · simp (config := {contextual := true, implicitDefEqProofs := false, maxSteps := 4000000}) only [go_sem, ↓reduceIte, Bool.false_eq_true, Nat.reduceEqDiff, Nat.reduceAdd, Int.reduceLE, Int.reduceLT, Int.reduceEq, Int.reduceToNat, Int.toNat_natCast, Int.cast_ofNat_Int, Int.natCast_one, Nat.reduceMod, Nat.reduceDiv, UInt8.reduceToNat, Nat.reduceLT, k1, k2, max1, k3, hw, d1, b0, e0, d12, g1, g2, g3, kp, d13, d14]
      · have d14 : decide ((1000000000000 : Int) < (n : Int)) = false := decide_eq_false (by omega)
        by_cases hn0 : n = 0
        · have d13 : decide ((n : Int) = 0) = true := decide_eq_true (by omega)
          have d13' : decide (n = 0) = true := decide_eq_true hn0
          rw [d13', Bool.and_true]
          cases neg
          · rw [if_neg (by decide), if_neg hbig]
            simp (config := {contextual := true, implicitDefEqProofs := false, maxSteps := 4000000}) only [go_sem, ↓reduceIte, Bool.false_eq_true, Nat.reduceEqDiff, Nat.reduceAdd, Int.reduceLE, Int.reduceLT, Int.reduceEq, Int.reduceToNat, Int.toNat_natCast, Int.cast_ofNat_Int, Int.natCast_one, Nat.reduceMod, Nat.reduceDiv, UInt8.reduceToNat, Nat.reduceLT, k1, k2, max1, k3, hw, d1, b0, e0, d12, g1, g2, g3, kp, d13, d14]
          · rw [if_pos rfl]
            simp (config := {contextual := true, implicitDefEqProofs := false, maxSteps := 4000000}) only [go_sem, ↓reduceIte, Bool.false_eq_true, Nat.reduceEqDiff, Nat.reduceAdd, Int.reduceLE, Int.reduceLT, Int.reduceEq, Int.reduceToNat, Int.toNat_natCast, Int.cast_ofNat_Int, Int.natCast_one, Nat.reduceMod, Nat.reduceDiv, UInt8.reduceToNat, Nat.reduceLT, k1, k2, max1, k3, hw, d1, b0, e0, d12, g1, g2, g3, kp, d13, d14]
        · have d13 : decide ((n : Int) = 0) = false := decide_eq_false (by omega)
          have d13' : decide (n = 0) = false := decide_eq_false hn0
          rw [d13', Bool.and_false, if_neg (by decide), if_neg hbig]
          cases neg
          · simp (config := {contextual := true, implicitDefEqProofs := false, maxSteps := 4000000}) only [go_sem, ↓reduceIte, Bool.false_eq_true, Nat.reduceEqDiff, Nat.reduceAdd, Int.reduceLE, Int.reduceLT, Int.reduceEq, Int.reduceToNat, Int.toNat_natCast, Int.cast_ofNat_Int, Int.natCast_one, Nat.reduceMod, Nat.reduceDiv, UInt8.reduceToNat, Nat.reduceLT, k1, k2, max1, k3, hw, d1, b0, e0, d12, g1, g2, g3, kp, d13, d14]
          · simp (config := {contextual := true, implicitDefEqProofs := false, maxSteps := 4000000}) only [go_sem, ↓reduceIte, Bool.false_eq_true, Nat.reduceEqDiff, Nat.reduceAdd, Int.reduceLE, Int.reduceLT, Int.reduceEq, Int.reduceToNat, Int.toNat_natCast, Int.cast_ofNat_Int, Int.natCast_one, Nat.reduceMod, Nat.reduceDiv, UInt8.reduceToNat, Nat.reduceLT, k1, k2, max1, k3, hw, d1, b0, e0, d12, g1, g2, g3, kp, d13, d14, wn]
    | true =>
      by_cases h3 : 3 < f.length
      case pos =>
        have d3 : decide ((3 : Int) < (f.length : Int)) = true := decide_eq_true (by omega)
        have hx : fracOk f = false := by unfold fracOk; rw [decide_eq_false (show ¬ f.length ≤ 3 by omega), Bool.false_and]
        rw [hE2 (by rw [hx]; rfl)]
        simp (config := {contextual := true, implicitDefEqProofs := false, maxSteps := 4000000}) only [go_sem, ↓reduceIte, Bool.false_eq_true, Nat.reduceEqDiff, Nat.reduceAdd, Int.reduceLE, Int.reduceLT, Int.reduceEq, Int.reduceToNat, Int.toNat_natCast, Int.cast_ofNat_Int, Int.natCast_one, Nat.reduceMod, Nat.reduceDiv, UInt8.reduceToNat, Nat.reduceLT, k1, k2, max1, k3, hw, d1, b0, e0, d3]
      have d3 : decide ((3 : Int) < (f.length : Int)) = false := decide_eq_false (by omega)
      by_cases hff : (decide (f ≠ []) && f.all isD) = true
      case neg =>
        have hff := bf hff
        have hx : fracOk f = false := by unfold fracOk; rw [hff, Bool.and_false]
        rw [hE2 (by rw [hx]; rfl)]
        simp (config := {contextual := true, implicitDefEqProofs := false, maxSteps := 4000000}) only [go_sem, ↓reduceIte, Bool.false_eq_true, Nat.reduceEqDiff, Nat.reduceAdd, Int.reduceLE, Int.reduceLT, Int.reduceEq, Int.reduceToNat, Int.toNat_natCast, Int.cast_ofNat_Int, Int.natCast_one, Nat.reduceMod, Nat.reduceDiv, UInt8.reduceToNat, Nat.reduceLT, k1, k2, max1, k3, hw, d1, b0, e0, d3, k4, hff]
      have hx : fracOk f = true := by unfold fracOk; rw [hff, decide_eq_true (show f.length ≤ 3 by omega)]; rfl
      have hfa : f.all isD = true := by simp only [Bool.and_eq_true] at hff; exact hff.2
      have E := hE (by rw [hx]; rfl)
      by_cases h12 : 12 < w.length
      case pos =>
        have d12 : decide ((12 : Int) < (w.length : Int)) = true := decide_eq_true (by omega)
        rw [E, if_pos h12]
        simp (config := {contextual := true, implicitDefEqProofs := false, maxSteps := 4000000}) only [go_sem, ↓reduceIte, Bool.false_eq_true, Nat.reduceEqDiff, Nat.reduceAdd, Int.reduceLE, Int.reduceLT, Int.reduceEq, Int.reduceToNat, Int.toNat_natCast, Int.cast_ofNat_Int, Int.natCast_one, Nat.reduceMod, Nat.reduceDiv, UInt8.reduceToNat, Nat.reduceLT, k1, k2, max1, k3, hw, d1, b0, e0, d3, k4, hff, d12]
      have d12 : decide ((12 : Int) < (w.length : Int)) = false := decide_eq_false (by omega)
      obtain ⟨v1, v2, v3⟩ := valN_lt hwall hfa (by omega)
      have kp : ∀ st K, CallW cx 73 [.str (w ++ (f ++ [48, 48, 48]).take 3), .int .i64 10, .int .i64 64] st K = K (.tuple [.int .i64 ((valN w f : Nat) : Int), .niliface]) st := fun st K => c73 (w ++ (f ++ [48, 48, 48]).take 3) v1 (by simp [hwne]) v2 st K
      rw [E, if_neg h12]
      generalize valN w f = n at *
      have wn : IntKind.i64.wrap (0 - (n : Int)) = -(n : Int) := by rw [wrap_i64 (by omega) (by omega)]; omega
      by_cases hbig : 1000000000000 < n
      · have d14 : decide ((1000000000000 : Int) < (n : Int)) = true := decide_eq_true (by omega)
        have d13 : decide ((n : Int) = 0) = false := decide_eq_false (by omega)
        have d13' : decide (n = 0) = false := decide_eq_false (by omega)
        rw [d13', Bool.and_false, if_neg (by decide), if_pos hbig]
        cases neg
        · simp (config := {contextual := true, implicitDefEqProofs := false, maxSteps := 4000000}) only [go_sem, ↓reduceIte, Bool.false_eq_true, Nat.reduceEqDiff, Nat.reduceAdd, Int.reduceLE, Int.reduceLT, Int.reduceEq, Int.reduceToNat, Int.toNat_natCast, Int.cast_ofNat_Int, Int.natCast_one, Nat.reduceMod, Nat.reduceDiv, UInt8.reduceToNat, Nat.reduceLT, k1, k2, max1, k3, hw, d1, b0, e0, d3, k4, hff, d12, g1, g2, g3, kp, d13, d14]
        · simp (config := {contextual := true, implicitDefEqProofs := false, maxSteps := 4000000}) only [go_sem, ↓reduceIte, Bool.false_eq_true, Nat.reduceEqDiff, Nat.reduceAdd, Int.reduceLE, Int.reduceLT, Int.reduceEq, Int.reduceToNat, Int.toNat_natCast, Int.cast_ofNat_Int, Int.natCast_one, Nat.reduceMod, Nat.reduceDiv, UInt8.reduceToNat, Nat.reduceLT, k1, k2, max1, k3, hw, d1, b0, e0, d3, k4, hff, d12, g1, g2, g3, kp, d13, d14]
      · have d14 : decide ((1000000000000 : Int) < (n : Int)) = false := decide_eq_false (by omega)
        by_cases hn0 : n = 0
        · have d13 : decide ((n : Int) = 0) = true := decide_eq_true (by omega)
          have d13' : decide (n = 0) = true := decide_eq_true hn0
          rw [d13', Bool.and_true]
          cases neg
          · rw [if_neg (by decide), if_neg hbig]
            simp (config := {contextual := true, implicitDefEqProofs := false, maxSteps := 4000000}) only [go_sem, ↓reduceIte, Bool.false_eq_true, Nat.reduceEqDiff, Nat.reduceAdd, Int.reduceLE, Int.reduceLT, Int.reduceEq, Int.reduceToNat, Int.toNat_natCast, Int.cast_ofNat_Int, Int.natCast_one, Nat.reduceMod, Nat.reduceDiv, UInt8.reduceToNat, Nat.reduceLT, k1, k2, max1, k3, hw, d1, b0, e0, d3, k4, hff, d12, g1, g2, g3, kp, d13, d14]
          · rw [if_pos rfl]
            simp (config := {contextual := true, implicitDefEqProofs := false, maxSteps := 4000000}) only [go_sem, ↓reduceIte, Bool.false_eq_true, Nat.reduceEqDiff, Nat.reduceAdd, Int.reduceLE, Int.reduceLT, Int.reduceEq, Int.reduceToNat, Int.toNat_natCast, Int.cast_ofNat_Int, Int.natCast_one, Nat.reduceMod, Nat.reduceDiv, UInt8.reduceToNat, Nat.reduceLT, k1, k2, max1, k3, hw, d1, b0, e0, d3, k4, hff, d12, g1, g2, g3, kp, d13, d14]
        · have d13 : decide ((n : Int) = 0) = false := decide_eq_false (by omega)
          have d13' : decide (n = 0) = false := decide_eq_false hn0
          rw [d13', Bool.and_false, if_neg (by decide), if_neg hbig]
          cases neg
          · simp (config := {contextual := true, implicitDefEqProofs := false, maxSteps := 4000000}) only [go_sem, ↓reduceIte, Bool.false_eq_true, Nat.reduceEqDiff, Nat.reduceAdd, Int.reduceLE, Int.reduceLT, Int.reduceEq, Int.reduceToNat, Int.toNat_natCast, Int.cast_ofNat_Int, Int.natCast_one, Nat.reduceMod, Nat.reduceDiv, UInt8.reduceToNat, Nat.reduceLT, k1, k2, max1, k3, hw, d1, b0, e0, d3, k4, hff, d12, g1, g2, g3, kp, d13, d14]
          · simp (config := {contextual := true, implicitDefEqProofs := false, maxSteps := 4000000}) only [go_sem, ↓reduceIte, Bool.false_eq_true, Nat.reduceEqDiff, Nat.reduceAdd, Int.reduceLE, Int.reduceLT, Int.reduceEq, Int.reduceToNat, Int.toNat_natCast, Int.cast_ofNat_Int, Int.natCast_one, Nat.reduceMod, Nat.reduceDiv, UInt8.reduceToNat, Nat.reduceLT, k1, k2, max1, k3, hw, d1, b0, e0, d3, k4, hff, d12, g1, g2, g3, kp, d13, d14, wn]
  case neg =>
    have d1 : decide ((1 : Int) < (w.length : Int)) = false := decide_eq_false (by omega)
    cases pt with
    | false =>
      have hf0 := f3 rfl
      have hfa : f.all isD = true := by rw [hf0]; rfl
      have E := hE rfl
      by_cases h12 : 12 < w.length
      case pos =>
        have d12 : decide ((12 : Int) < (w.length : Int)) = true := decide_eq_true (by omega)
        rw [E, if_pos h12]
        simp (config := {contextual := true, implicitDefEqProofs := false, maxSteps := 4000000}) only [go_sem, ↓reduceIte, Bool.false_eq_true, Nat.reduceEqDiff, Nat.reduceAdd, Int.reduceLE, Int.reduceLT, Int.reduceEq, Int.reduceToNat, Int.toNat_natCast, Int.cast_ofNat_Int, Int.natCast_one, Nat.reduceMod, Nat.reduceDiv, UInt8.reduceToNat, Nat.reduceLT, k1, k2, max1, k3, hw, d1, d12]
      have d12 : decide ((12 : Int) < (w.length : Int)) = false := decide_eq_false (by omega)
      obtain ⟨v1, v2, v3⟩ := valN_lt hwall hfa (by omega)
      have kp : ∀ st K, CallW cx 73 [.str (w ++ (f ++ [48, 48, 48]).take 3), .int .i64 10, .int .i64 64] st K = K (.tuple [.int .i64 ((valN w f : Nat) : Int), .niliface]) st := fun st K => c73 (w ++ (f ++ [48, 48, 48]).take 3) v1 (by simp [hwne]) v2 st K
      rw [E, if_neg h12]
      generalize valN w f = n at *
      have wn : IntKind.i64.wrap (0 - (n : Int)) = -(n : Int) := by rw [wrap_i64 (by omega) (by omega)]; omega
      by_cases hbig : 1000000000000 < n
      · have d14 : decide ((1000000000000 : Int) < (n : Int)) = true := decide_eq_true (by omega)
        have d13 : decide ((n : Int) = 0) = false := decide_eq_false (by omega)
        have d13' : decide (n = 0) = false := decide_eq_false (by omega)
        rw [d13', Bool.and_false, if_neg (by decide), if_pos hbig]
        cases neg
        · simp (config := {contextual := true, implicitDefEqProofs := false, maxSteps := 4000000}) only [go_sem, ↓reduceIte, Bool.false_eq_true, Nat.reduceEqDiff, Nat.reduceAdd, Int.reduceLE, Int.reduceLT, Int.reduceEq, Int.reduceToNat, Int.toNat_natCast, Int.cast_ofNat_Int, Int.natCast_one, Nat.reduceMod, Nat.reduceDiv, UInt8.reduceToNat, Nat.reduceLT, k1, k2, max1, k3, hw, d1, d12, g1, g2, g3, kp, d13, d14]
        · simp (config := {contextual := true, implicitDefEqProofs := false, maxSteps := 4000000}) only [go_sem, ↓reduceIte, Bool.false_eq_true, Nat.reduceEqDiff, Nat.reduceAdd, Int.reduceLE, Int.reduceLT, Int.reduceEq, Int.reduceToNat, Int.toNat_natCast, Int.cast_ofNat_Int, Int.natCast_one, Nat.reduceMod, Nat.reduceDiv, UInt8.reduceToNat, Nat.reduceLT, k1, k2, max1, k3, hw, d1, d12, g1, g2, g3, kp, d13, d14]
      · have d14 : decide ((1000000000000 : Int) < (n : Int)) = false := decide_eq_false (by omega)
        by_cases hn0 : n = 0
        · have d13 : decide ((n : Int) = 0) = true := decide_eq_true (by omega)
          have d13' : decide (n = 0) = true := decide_eq_true hn0
          rw [d13', Bool.and_true]
          cases neg
          · rw [if_neg (by decide), if_neg hbig]
            simp (config := {contextual := true, implicitDefEqProofs := false, maxSteps := 4000000}) only [go_sem, ↓reduceIte, Bool.false_eq_true, Nat.reduceEqDiff, Nat.reduceAdd, Int.reduceLE, Int.reduceLT, Int.reduceEq, Int.reduceToNat, Int.toNat_natCast, Int.cast_ofNat_Int, Int.natCast_one, Nat.reduceMod, Nat.reduceDiv, UInt8.reduceToNat, Nat.reduceLT, k1, k2, max1, k3, hw, d1, d12, g1, g2, g3, kp, d13, d14]
          · rw [if_pos rfl]
            simp (config := {contextual := true, implicitDefEqProofs := false, maxSteps := 4000000}) only [go_sem, ↓reduceIte, Bool.false_eq_true, Nat.reduceEqDiff, Nat.reduceAdd, Int.reduceLE, Int.reduceLT, Int.reduceEq, Int.reduceToNat, Int.toNat_natCast, Int.cast_ofNat_Int, Int.natCast_one, Nat.reduceMod, Nat.reduceDiv, UInt8.reduceToNat, Nat.reduceLT, k1, k2, max1, k3, hw, d1, d12, g1, g2, g3, kp, d13, d14]
        · have d13 : decide ((n : Int) = 0) = false := decide_eq_false (by omega)
          have d13' : decide (n = 0) = false := decide_eq_false hn0
          rw [d13', Bool.and_false, if_neg (by decide), if_neg hbig]
          cases neg
          · simp (config := {contextual := true, implicitDefEqProofs := false, maxSteps := 4000000}) only [go_sem, ↓reduceIte, Bool.false_eq_true, Nat.reduceEqDiff, Nat.reduceAdd, Int.reduceLE, Int.reduceLT, Int.reduceEq, Int.reduceToNat, Int.toNat_natCast, Int.cast_ofNat_Int, Int.natCast_one, Nat.reduceMod, Nat.reduceDiv, UInt8.reduceToNat, Nat.reduceLT, k1, k2, max1, k3, hw, d1, d12, g1, g2, g3, kp, d13, d14]
          · simp (config := {contextual := true, implicitDefEqProofs := false, maxSteps := 4000000}) only [go_sem, ↓reduceIte, Bool.false_eq_true, Nat.reduceEqDiff, Nat.reduceAdd, Int.reduceLE, Int.reduceLT, Int.reduceEq, Int.reduceToNat, Int.toNat_natCast, Int.cast_ofNat_Int, Int.natCast_one, Nat.reduceMod, Nat.reduceDiv, UInt8.reduceToNat, Nat.reduceLT, k1, k2, max1, k3, hw, d1, d12, g1, g2, g3, kp, d13, d14, wn]
    | true =>
      by_cases h3 : 3 < f.length
      case pos =>
        have d3 : decide ((3 : Int) < (f.length : Int)) = true := decide_eq_true (by omega)
        have hx : fracOk f = false := by unfold fracOk; rw [decide_eq_false (show ¬ f.length ≤ 3 by omega), Bool.false_and]
        rw [hE2 (by rw [hx]; rfl)]
        simp (config := {contextual := true, implicitDefEqProofs := false, maxSteps := 4000000}) only [go_sem, ↓reduceIte, Bool.false_eq_true, Nat.reduceEqDiff, Nat.reduceAdd, Int.reduceLE, Int.reduceLT, Int.reduceEq, Int.reduceToNat, Int.toNat_natCast, Int.cast_ofNat_Int, Int.natCast_one, Nat.reduceMod, Nat.reduceDiv, UInt8.reduceToNat, Nat.reduceLT, k1, k2, max1, k3, hw, d1, d3]
      have d3 : decide ((3 : Int) < (f.length : Int)) = false := decide_eq_false (by omega)
      by_cases hff : (decide (f ≠ []) && f.all isD) = true
      case neg =>
        have hff := bf hff
        have hx : fracOk f = false := by unfold fracOk; rw [hff, Bool.and_false]
        rw [hE2 (by rw [hx]; rfl)]
        simp (config := {contextual := true, implicitDefEqProofs := false, maxSteps := 4000000}) only [go_sem, ↓reduceIte, Bool.false_eq_true, Nat.reduceEqDiff, Nat.reduceAdd, Int.reduceLE, Int.reduceLT, Int.reduceEq, Int.reduceToNat, Int.toNat_natCast, Int.cast_ofNat_Int, Int.natCast_one, Nat.reduceMod, Nat.reduceDiv, UInt8.reduceToNat, Nat.reduceLT, k1, k2, max1, k3, hw, d1, d3, k4, hff]
      have hx : fracOk f = true := by unfold fracOk; rw [hff, decide_eq_true (show f.length ≤ 3 by omega)]; rfl
      have hfa : f.all isD = true := by simp only [Bool.and_eq_true] at hff; exact hff.2
      have E := hE (by rw [hx]; rfl)
      by_cases h12 : 12 < w.length
      case pos =>
        have d12 : decide ((12 : Int) < (w.length : Int)) = true := decide_eq_true (by omega)
        rw [E, if_pos h12]
        simp (config := {contextual := true, implicitDefEqProofs := false, maxSteps := 4000000}) only [go_sem, ↓reduceIte, Bool.false_eq_true, Nat.reduceEqDiff, Nat.reduceAdd, Int.reduceLE, Int.reduceLT, Int.reduceEq, Int.reduceToNat, Int.toNat_natCast, Int.cast_ofNat_Int, Int.natCast_one, Nat.reduceMod, Nat.reduceDiv, UInt8.reduceToNat, Nat.reduceLT, k1, k2, max1, k3, hw, d1, d3, k4, hff, d12]
      have d12 : decide ((12 : Int) < (w.length : Int)) = false := decide_eq_false (by omega)
      obtain ⟨v1, v2, v3⟩ := valN_lt hwall hfa (by omega)
      have kp : ∀ st K, CallW cx 73 [.str (w ++ (f ++ [48, 48, 48]).take 3), .int .i64 10, .int .i64 64] st K = K (.tuple [.int .i64 ((valN w f : Nat) : Int), .niliface]) st := fun st K => c73 (w ++ (f ++ [48, 48, 48]).take 3) v1 (by simp [hwne]) v2 st K
      rw [E, if_neg h12]
      generalize valN w f = n at *
      have wn : IntKind.i64.wrap (0 - (n : Int)) = -(n : Int) := by rw [wrap_i64 (by omega) (by omega)]; omega
      by_cases hbig : 1000000000000 < n
      · have d14 : decide ((1000000000000 : Int) < (n : Int)) = true := decide_eq_true (by omega)
        have d13 : decide ((n : Int) = 0) = false := decide_eq_false (by omega)
        have d13' : decide (n = 0) = false := decide_eq_false (by omega)
        rw [d13', Bool.and_false, if_neg (by decide), if_pos hbig]
        cases neg
        · simp (config := {contextual := true, implicitDefEqProofs := false, maxSteps := 4000000}) only [go_sem, ↓reduceIte, Bool.false_eq_true, Nat.reduceEqDiff, Nat.reduceAdd, Int.reduceLE, Int.reduceLT, Int.reduceEq, Int.reduceToNat, Int.toNat_natCast, Int.cast_ofNat_Int, Int.natCast_one, Nat.reduceMod, Nat.reduceDiv, UInt8.reduceToNat, Nat.reduceLT, k1, k2, max1, k3, hw, d1, d3, k4, hff, d12, g1, g2, g3, kp, d13, d14]
        · simp (config := {contextual := true, implicitDefEqProofs := false, maxSteps := 4000000}) only [go_sem, ↓reduceIte, Bool.false_eq_true, Nat.reduceEqDiff, Nat.reduceAdd, Int.reduceLE, Int.reduceLT, Int.reduceEq, Int.reduceToNat, Int.toNat_natCast, Int.cast_ofNat_Int, Int.natCast_one, Nat.reduceMod, Nat.reduceDiv, UInt8.reduceToNat, Nat.reduceLT, k1, k2, max1, k3, hw, d1, d3, k4, hff, d12, g1, g2, g3, kp, d13, d14]
      · have d14 : decide ((1000000000000 : Int) < (n : Int)) = false := decide_eq_false (by omega)
        by_cases hn0 : n = 0
        · have d13 : decide ((n : Int) = 0) = true := decide_eq_true (by omega)
          have d13' : decide (n = 0) = true := decide_eq_true hn0
          rw [d13', Bool.and_true]
          cases neg
          · rw [if_neg (by decide), if_neg hbig]
            simp (config := {contextual := true, implicitDefEqProofs := false, maxSteps := 4000000}) only [go_sem, ↓reduceIte, Bool.false_eq_true, Nat.reduceEqDiff, Nat.reduceAdd, Int.reduceLE, Int.reduceLT, Int.reduceEq, Int.reduceToNat, Int.toNat_natCast, Int.cast_ofNat_Int, Int.natCast_one, Nat.reduceMod, Nat.reduceDiv, UInt8.reduceToNat, Nat.reduceLT, k1, k2, max1, k3, hw, d1, d3, k4, hff, d12, g1, g2, g3, kp, d13, d14]
          · rw [if_pos rfl]
            simp (config := {contextual := true, implicitDefEqProofs := false, maxSteps := 4000000}) only [go_sem, ↓reduceIte, Bool.false_eq_true, Nat.reduceEqDiff, Nat.reduceAdd, Int.reduceLE, Int.reduceLT, Int.reduceEq, Int.reduceToNat, Int.toNat_natCast, Int.cast_ofNat_Int, Int.natCast_one, Nat.reduceMod, Nat.reduceDiv, UInt8.reduceToNat, Nat.reduceLT, k1, k2, max1, k3, hw, d1, d3, k4, hff, d12, g1, g2, g3, kp, d13, d14]
        · have d13 : decide ((n : Int) = 0) = false := decide_eq_false (by omega)
          have d13' : decide (n = 0) = false := decide_eq_false hn0
          rw [d13', Bool.and_false, if_neg (by decide), if_neg hbig]
          cases neg
          · simp (config := {contextual := true, implicitDefEqProofs := false, maxSteps := 4000000}) only [go_sem, ↓reduceIte, Bool.false_eq_true, Nat.reduceEqDiff, Nat.reduceAdd, Int.reduceLE, Int.reduceLT, Int.reduceEq, Int.reduceToNat, Int.toNat_natCast, Int.cast_ofNat_Int, Int.natCast_one, Nat.reduceMod, Nat.reduceDiv, UInt8.reduceToNat, Nat.reduceLT, k1, k2, max1, k3, hw, d1, d3, k4, hff, d12, g1, g2, g3, kp, d13, d14]
          · simp (config := {contextual := true, implicitDefEqProofs := false, maxSteps := 4000000}) only [go_sem, ↓reduceIte, Bool.false_eq_true, Nat.reduceEqDiff, Nat.reduceAdd, Int.reduceLE, Int.reduceLT, Int.reduceEq, Int.reduceToNat, Int.toNat_natCast, Int.cast_ofNat_Int, Int.natCast_one, Nat.reduceMod, Nat.reduceDiv, UInt8.reduceToNat, Nat.reduceLT, k1, k2, max1, k3, hw, d1, d3, k4, hff, d12, g1, g2, g3, kp, d13, d14, wn]
/-- The token of a run that begins with a digit, - or *. -/
def figB (a : List UInt8) : List AV × Int :=
  if (clockB a).2.1 then (if (clockB a).2.2 then ([.int .i64 4, .str [], .int .i64 (clockB a).1, .int .i64 0], 0) else ([.int .i64 0, .str [], .int .i64 0, .int .i64 0], 6))
  else if (dateB a).1 then (if (dateB a).2 then ([.int .i64 5, .str a, .int .i64 0, .int .i64 0], 0) else ([.int .i64 0, .str [], .int .i64 0, .int .i64 0], 6))
  else if (numberB a).2 ≠ 0 then ([.int .i64 0, .str [], .int .i64 0, .int .i64 0], (numberB a).2) else ([.int .i64 2, .str [], .int .i64 (numberB a).1, .int .i64 0], 0)
theorem c40 (a : List UInt8) (hl : a.length ≤ 1100000) (s : St) (K : AV → St → Prop) : CallW cx 40 [.str a] s K = K (.tuple [.agg (figB a).1, .int .i64 (figB a).2]) s := by
  refine CallW.eq (CallW.fn' (fn := ir40) rfl rfl (by kernel_rfl) ir40.eq_1 ?_) K
  have k1 := fun st K => c54 a hl st K
  have k2 := fun st K => c55 a hl st K
  have k3 := fun st K => c56 a hl st K
  unfold figB
  generalize clockB a = c at *
  generalize dateB a = d at *
  generalize numberB a = n at *
  obtain ⟨c1, c2, c3⟩ := c
  obtain ⟨d1, d2⟩ := d
  obtain ⟨n1, n2⟩ := n
  simp only at k1 k2 k3 ⊢
  cases c2 with
  | true =>
    cases c3
    · simp (config := {contextual := true, implicitDefEqProofs := false, maxSteps := 4000000}) only [go_sem, ↓reduceIte, Bool.false_eq_true, Nat.reduceEqDiff, Nat.reduceAdd, Int.reduceLE, Int.reduceLT, Int.reduceEq, Int.reduceToNat, Int.toNat_natCast, Int.cast_ofNat_Int, Int.natCast_one, Nat.reduceMod, Nat.reduceDiv, UInt8.reduceToNat, Nat.reduceLT, k1]
    · simp (config := {contextual := true, implicitDefEqProofs := false, maxSteps := 4000000}) only [go_sem, ↓reduceIte, Bool.false_eq_true, Nat.reduceEqDiff, Nat.reduceAdd, Int.reduceLE, Int.reduceLT, Int.reduceEq, Int.reduceToNat, Int.toNat_natCast, Int.cast_ofNat_Int, Int.natCast_one, Nat.reduceMod, Nat.reduceDiv, UInt8.reduceToNat, Nat.reduceLT, k1]
  | false =>
    cases d1 with
    | true =>
      cases d2
      · simp (config := {contextual := true, implicitDefEqProofs := false, maxSteps := 4000000}) only [go_sem, ↓reduceIte, Bool.false_eq_true, Nat.reduceEqDiff, Nat.reduceAdd, Int.reduceLE, Int.reduceLT, Int.reduceEq, Int.reduceToNat, Int.toNat_natCast, Int.cast_ofNat_Int, Int.natCast_one, Nat.reduceMod, Nat.reduceDiv, UInt8.reduceToNat, Nat.reduceLT, k1, k2]
      · simp (config := {contextual := true, implicitDefEqProofs := false, maxSteps := 4000000}) only [go_sem, ↓reduceIte, Bool.false_eq_true, Nat.reduceEqDiff, Nat.reduceAdd, Int.reduceLE, Int.reduceLT, Int.reduceEq, Int.reduceToNat, Int.toNat_natCast, Int.cast_ofNat_Int, Int.natCast_one, Nat.reduceMod, Nat.reduceDiv, UInt8.reduceToNat, Nat.reduceLT, k1, k2]
    | false =>
      by_cases h : n2 = 0
      · have e : decide (n2 ≠ 0) = false := by simp [h]
        rw [if_neg (by decide), if_neg (by decide), if_neg (by simp [h])]
        simp (config := {contextual := true, implicitDefEqProofs := false, maxSteps := 4000000}) only [go_sem, ↓reduceIte, Bool.false_eq_true, Nat.reduceEqDiff, Nat.reduceAdd, Int.reduceLE, Int.reduceLT, Int.reduceEq, Int.reduceToNat, Int.toNat_natCast, Int.cast_ofNat_Int, Int.natCast_one, Nat.reduceMod, Nat.reduceDiv, UInt8.reduceToNat, Nat.reduceLT, k1, k2, k3, e]
      · have e : decide (n2 ≠ 0) = true := by simp [h]
        rw [if_neg (by decide), if_neg (by decide), if_pos h]
        simp (config := {contextual := true, implicitDefEqProofs := false, maxSteps := 4000000}) only [go_sem, ↓reduceIte, Bool.false_eq_true, Nat.reduceEqDiff, Nat.reduceAdd, Int.reduceLE, Int.reduceLT, Int.reduceEq, Int.reduceToNat, Int.toNat_natCast, Int.cast_ofNat_Int, Int.natCast_one, Nat.reduceMod, Nat.reduceDiv, UInt8.reduceToNat, Nat.reduceLT, k1, k2, k3, e]
end T18


/- The lexer's next token. -/
namespace T18
open Go Fw Go.Proofs
set_option maxRecDepth 100000
set_option maxHeartbeats 4000000
set_option linter.unusedSimpArgs false
set_option linter.unusedVariables false
def noT : Tok := ⟨0, [], 0, 0⟩
def figT (a : List UInt8) : Tok × Int :=
  if (clockB a).2.1 then (if (clockB a).2.2 then (⟨4, [], (clockB a).1, 0⟩, 0) else (noT, 6))
  else if (dateB a).1 then (if (dateB a).2 then (⟨5, a, 0, 0⟩, 0) else (noT, 6))
  else if (numberB a).2 ≠ 0 then (noT, (numberB a).2) else (⟨2, [], (numberB a).1, 0⟩, 0)
theorem figB_eq (a : List UInt8) : figB a = (encT (figT a).1, (figT a).2) := by
  unfold figB figT
  split
  · split <;> rfl
  split
  · split <;> rfl
  split <;> rfl
theorem is_byte (n : UInt8) (b : UInt8) : decide (((b.toNat : Nat) : Int) = ((n.toNat : Nat) : Int)) = decide (b = n) := by
  rw [Bool.eq_iff_iff, decide_eq_true_eq, decide_eq_true_eq]
  exact ⟨fun h => byte_eq h, fun h => by rw [h]⟩
def isWd (b : UInt8) : Bool := isLet b || (isD b || (decide (b = 95) || decide (b = 47)))
theorem c36 (a : List UInt8) (i : Nat) (hi : i < a.length) (C : Nat) (ty : Option TypeId) (st : St) (hlk : Fw.look C st.heap = some (.cells ty [.str a])) (K : AV → St → Prop) : CallW cx 36 [.int .i64 (i : Int), .ptr C 0] st K = K (.bool (isWd (a.getD i 0))) st := by
  refine CallW.eq (CallW.fn' (fn := ir36) rfl rfl (by kernel_rfl) ir36.eq_1 ?_) K
  have b1 : (0 : Int) ≤ (i : Int) := by omega
  have b2 : (i : Int) < (a.length : Int) := by omega
  obtain ⟨b, hb⟩ : ∃ b, a.getD i 0 = b := ⟨_, rfl⟩
  have f1 : decide (((b.toNat : Nat) : Int) = 95) = decide (b = 95) := is_byte 95 b
  have f2 : decide (((b.toNat : Nat) : Int) = 47) = decide (b = 47) := is_byte 47 b
  rw [hb]
  unfold isWd
  cases e1 : isLet b <;> cases e2 : isD b <;> cases e3 : decide (b = 95) <;>
    (rw [e3] at f1; simp (config := {contextual := true, implicitDefEqProofs := false, maxSteps := 4000000}) only [go_sem, ↓reduceIte, Bool.false_eq_true, Nat.reduceEqDiff, Nat.reduceAdd, Int.reduceLE, Int.reduceLT, Int.reduceEq, Int.reduceToNat, Int.toNat_natCast, Int.cast_ofNat_Int, Int.natCast_one, Nat.reduceMod, Nat.reduceDiv, UInt8.reduceToNat, Nat.reduceLT, hlk, b1, b2, hb, c35, c37, e1, e2, f1, f2])
/-- Whether a byte belongs to a run of figures that begins at a place. -/
def belB (a : List UInt8) (s j : Nat) : Bool := isD (a.getD j 0) || (decide (0 ≤ findByte (a.getD j 0) [45, 42, 46] 0) ||
  (decide (a.getD j 0 = 58) && (decide (s < j) && (isD (a.getD (j - 1) 0) && (decide (j + 1 < a.length) && isD (a.getD (j + 1) 0))))))
theorem c38 (a : List UInt8) (hl : a.length ≤ 4611686018427387904) (s j : Nat) (hi : j < a.length) (C D : Nat) (ty ty' : Option TypeId) (st : St) (hlk : Fw.look C st.heap = some (.cells ty [.str a])) (hlk2 : Fw.look D st.heap = some (.cells ty' [.int .i64 (s : Int)])) (K : AV → St → Prop) : CallW cx 38 [.int .i64 (j : Int), .ptr C 0, .ptr D 0] st K = K (.bool (belB a s j)) st := by
  refine CallW.eq (CallW.fn' (fn := ir38) rfl rfl (by kernel_rfl) ir38.eq_1 ?_) K
  have b1 : (0 : Int) ≤ (j : Int) := by omega
  have b2 : (j : Int) < (a.length : Int) := by omega
  obtain ⟨b, hb⟩ : ∃ b, a.getD j 0 = b := ⟨_, rfl⟩
  have f1 : decide (((b.toNat : Nat) : Int) = 58) = decide (b = 58) := is_byte 58 b
  have f2 : decide ((s : Int) < (j : Int)) = decide (s < j) := decide_eq_decide.2 (by omega)
  unfold belB
  rw [hb]
  cases e1 : isD b with
  | true => simp (config := {contextual := true, implicitDefEqProofs := false, maxSteps := 4000000}) only [go_sem, ↓reduceIte, Bool.false_eq_true, Nat.reduceEqDiff, Nat.reduceAdd, Int.reduceLE, Int.reduceLT, Int.reduceEq, Int.reduceToNat, Int.toNat_natCast, Int.cast_ofNat_Int, Int.natCast_one, Nat.reduceMod, Nat.reduceDiv, UInt8.reduceToNat, Nat.reduceLT, hlk, hlk2, b1, b2, hb, c37, e1]
  | false =>
  have e2 : ∃ q, decide (0 ≤ findByte b [45, 42, 46] 0) = q := ⟨_, rfl⟩
  obtain ⟨q, e2⟩ := e2
  rw [e2]
  cases q with
  | true => simp (config := {contextual := true, implicitDefEqProofs := false, maxSteps := 4000000}) only [go_sem, ↓reduceIte, Bool.false_eq_true, Nat.reduceEqDiff, Nat.reduceAdd, Int.reduceLE, Int.reduceLT, Int.reduceEq, Int.reduceToNat, Int.toNat_natCast, Int.cast_ofNat_Int, Int.natCast_one, Nat.reduceMod, Nat.reduceDiv, UInt8.reduceToNat, Nat.reduceLT, hlk, hlk2, b1, b2, hb, c37, e1, c39, e2]
  | false =>
  cases e3 : decide (b = 58) with
  | false =>
    rw [e3] at f1
    simp (config := {contextual := true, implicitDefEqProofs := false, maxSteps := 4000000}) only [go_sem, ↓reduceIte, Bool.false_eq_true, Nat.reduceEqDiff, Nat.reduceAdd, Int.reduceLE, Int.reduceLT, Int.reduceEq, Int.reduceToNat, Int.toNat_natCast, Int.cast_ofNat_Int, Int.natCast_one, Nat.reduceMod, Nat.reduceDiv, UInt8.reduceToNat, Nat.reduceLT, hlk, hlk2, b1, b2, hb, c37, e1, c39, e2, f1]
  | true =>
  rw [e3] at f1
  by_cases h4 : s < j
  case neg =>
    have e4 : decide (s < j) = false := decide_eq_false h4
    rw [e4] at f2 ⊢
    simp (config := {contextual := true, implicitDefEqProofs := false, maxSteps := 4000000}) only [go_sem, ↓reduceIte, Bool.false_eq_true, Nat.reduceEqDiff, Nat.reduceAdd, Int.reduceLE, Int.reduceLT, Int.reduceEq, Int.reduceToNat, Int.toNat_natCast, Int.cast_ofNat_Int, Int.natCast_one, Nat.reduceMod, Nat.reduceDiv, UInt8.reduceToNat, Nat.reduceLT, hlk, hlk2, b1, b2, hb, c37, e1, c39, e2, f1, f2]
  have e4 : decide (s < j) = true := decide_eq_true h4
  rw [e4] at f2 ⊢
  have w1 : IntKind.i64.wrap ((j : Int) - 1) = ((j - 1 : Nat) : Int) := by rw [wrap_i64 (by omega) (by omega)]; omega
  have w2 := wrap_one (i := j) (by omega)
  have b3 : (0 : Int) ≤ ((j - 1 : Nat) : Int) := by omega
  have b4 : ((j - 1 : Nat) : Int) < (a.length : Int) := by omega
  cases e5 : isD (a.getD (j - 1) 0) with
  | false => simp (config := {contextual := true, implicitDefEqProofs := false, maxSteps := 4000000}) only [go_sem, ↓reduceIte, Bool.false_eq_true, Nat.reduceEqDiff, Nat.reduceAdd, Int.reduceLE, Int.reduceLT, Int.reduceEq, Int.reduceToNat, Int.toNat_natCast, Int.cast_ofNat_Int, Int.natCast_one, Nat.reduceMod, Nat.reduceDiv, UInt8.reduceToNat, Nat.reduceLT, hlk, hlk2, b1, b2, hb, c37, e1, c39, e2, f1, f2, w1, b3, b4, e5]
  | true =>
  have f3 : decide (((j + 1 : Nat) : Int) < (a.length : Int)) = decide (j + 1 < a.length) := decide_eq_decide.2 (by omega)
  by_cases h6 : j + 1 < a.length
  case neg =>
    have e6 : decide (j + 1 < a.length) = false := decide_eq_false h6
    rw [e6] at f3 ⊢
    simp (config := {contextual := true, implicitDefEqProofs := false, maxSteps := 4000000}) only [go_sem, ↓reduceIte, Bool.false_eq_true, Nat.reduceEqDiff, Nat.reduceAdd, Int.reduceLE, Int.reduceLT, Int.reduceEq, Int.reduceToNat, Int.toNat_natCast, Int.cast_ofNat_Int, Int.natCast_one, Nat.reduceMod, Nat.reduceDiv, UInt8.reduceToNat, Nat.reduceLT, hlk, hlk2, b1, b2, hb, c37, e1, c39, e2, f1, f2, w1, b3, b4, e5, w2, f3]
  have e6 : decide (j + 1 < a.length) = true := decide_eq_true h6
  rw [e6] at f3 ⊢
  have b5 : (0 : Int) ≤ ((j + 1 : Nat) : Int) := by omega
  have b6 : ((j + 1 : Nat) : Int) < (a.length : Int) := by omega
  simp (config := {contextual := true, implicitDefEqProofs := false, maxSteps := 4000000}) only [go_sem, ↓reduceIte, Bool.false_eq_true, Nat.reduceEqDiff, Nat.reduceAdd, Int.reduceLE, Int.reduceLT, Int.reduceEq, Int.reduceToNat, Int.toNat_natCast, Int.cast_ofNat_Int, Int.natCast_one, Nat.reduceMod, Nat.reduceDiv, UInt8.reduceToNat, Nat.reduceLT, hlk, hlk2, b1, b2, hb, c37, e1, c39, e2, f1, f2, w1, b3, b4, e5, w2, f3, b5, b6]
end T18


/- The lexer's next token: the walk. -/
namespace T18
open Go Fw Go.Proofs
set_option maxRecDepth 100000
set_option maxHeartbeats 4000000
set_option linter.unusedSimpArgs false
set_option linter.unusedVariables false
def sgB : List UInt8 := [40, 41, 44, 61, 58, 60, 62]
def wordB (a : List UInt8) (i : Nat) : Tok × Nat × Int := if 49 < runB isWd a i - i then (noT, 0, 7) else (⟨1, cut a (i : Int) (runB isWd a i : Int), 0, 0⟩, runB isWd a i, 0)
def fend (a : List UInt8) (i : Nat) : Nat := runI (belB a i) (a.length - i) i
def numB (a : List UInt8) (i : Nat) : Tok × Nat × Int := ((figT (cut a (i : Int) (fend a i : Int))).1, fend a i, (figT (cut a (i : Int) (fend a i : Int))).2)
def textB (a : List UInt8) (i : Nat) : Tok × Nat × Int := match findByte 34 (a.drop (i + 1)) 0 with
  | .ofNat n => if (cut a ((i + 1 : Nat) : Int) ((i + 1 + n : Nat) : Int)).all isPl then (if labB (cut a ((i + 1 : Nat) : Int) ((i + 1 + n : Nat) : Int)) then (⟨3, cut a ((i + 1 : Nat) : Int) ((i + 1 + n : Nat) : Int), 0, 0⟩, i + n + 2, 0) else (noT, 0, 4)) else (noT, 0, 2)
  | .negSucc _ => (noT, 0, 2)
def nextB (a : List UInt8) (i : Nat) : Tok × Nat × Int :=
  if isLet (a.getD i 0) then wordB a i else if isD (a.getD i 0) || (decide (a.getD i 0 = 45) || decide (a.getD i 0 = 42)) then numB a i
  else if decide (a.getD i 0 = 34) then textB a i else if decide (0 ≤ findByte (a.getD i 0) sgB 0) then (⟨6, cut a (i : Int) ((i + 1 : Nat) : Int), 0, 0⟩, i + 1, 0) else (noT, 0, 2)
abbrev nxo (x : Tok × Nat × Int) : AV := .tuple [.agg [.int .i64 x.1.k, .str x.1.t, .int .i64 x.1.n, .int .i64 x.1.p], .int .i64 ((x.2.1 : Nat) : Int), .int .i64 x.2.2]
theorem cut_le (a : List UInt8) (x y : Int) : (cut a x y).length ≤ a.length := by unfold cut; rw [List.length_take, List.length_drop]; omega
theorem c30 (a : List UInt8) (hl : a.length ≤ 1100000) (i : Nat) (hi : i < a.length) (s : St) (K : AV → St → Prop) : CallW cx 30 [.str a, .int .i64 (i : Int)] s K = K (nxo (nextB a i)) s := by
  refine CallW.eq (CallW.fn' (fn := ir30) rfl rfl (by kernel_rfl) ir30.eq_1 ?_) K
  have b1 : (0 : Int) ≤ (i : Int) := by omega
  have b2 : (i : Int) < (a.length : Int) := by omega
  have z0 : decide (s.next + 1 ≠ s.next + 2) = true := decide_eq_true (by omega)
  obtain ⟨b, hb⟩ : ∃ b, a.getD i 0 = b := ⟨_, rfl⟩
  unfold nextB
  rw [hb]
  cases e1 : isLet b with
  | true =>
    have k := fun l K => c28 a (by omega) i (by omega) 36 [.ptr s.next 0] (fun j => isWd (a.getD j 0)) ((s.next + 2, .cells (some 52) [.int .i64 0, .str [], .int .i64 0, .int .i64 0]) :: (s.next + 1, .cells (some 3) [.int .i64 (i : Int)]) :: (s.next, .cells (some 9) [.str a]) :: s.heap) (s.next + 3) l (fun j K hj => c36 a j hj s.next (some 9) _ (by simp [Fw.look]) K) K
    rw [show runI (fun j => isWd (a.getD j 0)) (a.length - i) i = runB isWd a i from rfl] at k
    have hr := runI_le (fun j => isWd (a.getD j 0)) (a.length - i) i
    rw [show runI (fun j => isWd (a.getD j 0)) (a.length - i) i = runB isWd a i from rfl] at hr
    rw [if_pos rfl]
    unfold wordB
    generalize runB isWd a i = r at *
    have w1 : IntKind.i64.wrap ((r : Int) - (i : Int)) = ((r - i : Nat) : Int) := by rw [wrap_i64 (by omega) (by omega)]; omega
    have g1 : slOk a.length (i : Int) (r : Int) := ⟨by omega, by omega, by omega⟩
    by_cases h49 : 49 < r - i
    · have d1 : decide ((49 : Int) < ((r - i : Nat) : Int)) = true := decide_eq_true (by omega)
      rw [if_pos h49]
      simp (config := {contextual := true, implicitDefEqProofs := false, maxSteps := 4000000}) only [go_sem, ↓reduceIte, Bool.false_eq_true, Nat.reduceEqDiff, Nat.reduceAdd, Int.reduceLE, Int.reduceLT, Int.reduceEq, Int.reduceToNat, Int.toNat_natCast, Int.cast_ofNat_Int, Int.natCast_one, Nat.reduceMod, Nat.reduceDiv, UInt8.reduceToNat, Nat.reduceLT, b1, b2, hb, c35, e1, k, w1, d1]
      rfl
    · have d1 : decide ((49 : Int) < ((r - i : Nat) : Int)) = false := decide_eq_false (by omega)
      rw [if_neg h49]
      simp (config := {contextual := true, implicitDefEqProofs := false, maxSteps := 4000000}) only [go_sem, ↓reduceIte, Bool.false_eq_true, Nat.reduceEqDiff, Nat.reduceAdd, Int.reduceLE, Int.reduceLT, Int.reduceEq, Int.reduceToNat, Int.toNat_natCast, Int.cast_ofNat_Int, Int.natCast_one, Nat.reduceMod, Nat.reduceDiv, UInt8.reduceToNat, Nat.reduceLT, b1, b2, hb, c35, e1, k, w1, d1, g1]
  | false =>
  rw [if_neg (by decide)]
  have f1 : decide (((b.toNat : Nat) : Int) = 45) = decide (b = 45) := is_byte 45 b
  have f2 : decide (((b.toNat : Nat) : Int) = 42) = decide (b = 42) := is_byte 42 b
  by_cases e2 : (isD b || (decide (b = 45) || decide (b = 42))) = true
  case pos =>
    rw [if_pos e2]
    have k := fun l K => c28 a (by omega) i (by omega) 38 [.ptr s.next 0, .ptr (s.next + 1) 0] (belB a i) ((s.next + 2, .cells (some 52) [.int .i64 0, .str [], .int .i64 0, .int .i64 0]) :: (s.next + 1, .cells (some 3) [.int .i64 (i : Int)]) :: (s.next, .cells (some 9) [.str a]) :: s.heap) (s.next + 3) l (fun j K hj => c38 a (by omega) i j hj s.next (s.next + 1) (some 9) (some 3) _ (by simp [Fw.look]) (by simp [Fw.look]) K) K
    rw [show runI (belB a i) (a.length - i) i = fend a i from rfl] at k
    have hr := runI_le (belB a i) (a.length - i) i
    rw [show runI (belB a i) (a.length - i) i = fend a i from rfl] at hr
    unfold numB
    generalize fend a i = r at *
    have g1 : slOk a.length (i : Int) (r : Int) := ⟨by omega, by omega, by omega⟩
    have kf := fun st K => c40 (cut a (i : Int) (r : Int)) (Nat.le_trans (cut_le _ _ _) hl) st K
    rw [figB_eq] at kf
    generalize figT (cut a (i : Int) (r : Int)) = x at *
    obtain ⟨⟨x1, x2, x3, x4⟩, x5⟩ := x
    simp only [encT] at kf ⊢
    cases h1 : isD b with
    | true => simp (config := {contextual := true, implicitDefEqProofs := false, maxSteps := 4000000}) only [go_sem, ↓reduceIte, Bool.false_eq_true, Nat.reduceEqDiff, Nat.reduceAdd, Int.reduceLE, Int.reduceLT, Int.reduceEq, Int.reduceToNat, Int.toNat_natCast, Int.cast_ofNat_Int, Int.natCast_one, Nat.reduceMod, Nat.reduceDiv, UInt8.reduceToNat, Nat.reduceLT, b1, b2, hb, c35, e1, c37, h1, k, g1, kf]
    | false =>
    cases h2 : decide (b = 45) with
    | true =>
      rw [h2] at f1
      simp (config := {contextual := true, implicitDefEqProofs := false, maxSteps := 4000000}) only [go_sem, ↓reduceIte, Bool.false_eq_true, Nat.reduceEqDiff, Nat.reduceAdd, Int.reduceLE, Int.reduceLT, Int.reduceEq, Int.reduceToNat, Int.toNat_natCast, Int.cast_ofNat_Int, Int.natCast_one, Nat.reduceMod, Nat.reduceDiv, UInt8.reduceToNat, Nat.reduceLT, b1, b2, hb, c35, e1, c37, h1, f1, k, g1, kf]
    | false =>
      rw [h1, h2, Bool.false_or, Bool.false_or] at e2
      rw [h2] at f1
      rw [e2] at f2
      simp (config := {contextual := true, implicitDefEqProofs := false, maxSteps := 4000000}) only [go_sem, ↓reduceIte, Bool.false_eq_true, Nat.reduceEqDiff, Nat.reduceAdd, Int.reduceLE, Int.reduceLT, Int.reduceEq, Int.reduceToNat, Int.toNat_natCast, Int.cast_ofNat_Int, Int.natCast_one, Nat.reduceMod, Nat.reduceDiv, UInt8.reduceToNat, Nat.reduceLT, b1, b2, hb, c35, e1, c37, h1, f1, f2, k, g1, kf]
  rw [if_neg e2]
  have e2 := Bool.eq_false_iff.2 e2
  simp only [Bool.or_eq_false_iff] at e2
  obtain ⟨h1, h2, h3⟩ := e2
  rw [h2] at f1
  rw [h3] at f2
  have f3 : decide (((b.toNat : Nat) : Int) = 34) = decide (b = 34) := is_byte 34 b
  cases e3 : decide (b = 34) with
  | true =>
    rw [e3] at f3
    rw [if_pos rfl]
    unfold textB
    have w1 := wrap_one (i := i) (by omega)
    have g1 : (0 : Int) ≤ ((i + 1 : Nat) : Int) ∧ ((i + 1 : Nat) : Int) ≤ (a.length : Int) := by omega
    have ki : ∀ (st : St) (K : AV → St → Prop), CallW cx 39 [.str (a.drop (i + 1)), .int .u8 34] st K = K (.int .i64 (findByte 34 (a.drop (i + 1)) 0)) st := fun st K => c39 (a.drop (i + 1)) 34 st K
    have hdl : (a.drop (i + 1)).length = a.length - (i + 1) := by rw [List.length_drop]
    rcases findByte_spec 34 (a.drop (i + 1)) 0 with h | ⟨n, h, _, hn⟩
    · rw [h] at ki ⊢
      simp (config := {contextual := true, implicitDefEqProofs := false, maxSteps := 4000000}) only [go_sem, ↓reduceIte, Bool.false_eq_true, Nat.reduceEqDiff, Nat.reduceAdd, Int.reduceLE, Int.reduceLT, Int.reduceEq, Int.reduceToNat, Int.toNat_natCast, Int.cast_ofNat_Int, Int.natCast_one, Nat.reduceMod, Nat.reduceDiv, UInt8.reduceToNat, Nat.reduceLT, b1, b2, hb, c35, e1, c37, h1, f1, f2, f3, w1, g1, ki]
      rfl
    · rw [h] at ki ⊢
      rw [hdl, Nat.zero_add] at hn
      have d1 : decide ((n : Int) < 0) = false := decide_eq_false (by omega)
      simp only
      obtain ⟨m, hm⟩ : ∃ m, i + 1 + n = m := ⟨_, rfl⟩
      obtain ⟨m2, hm2⟩ : ∃ m, i + n + 2 = m := ⟨_, rfl⟩
      rw [hm, hm2]
      have w2 : IntKind.i64.wrap (((i + 1 : Nat) : Int) + (n : Int)) = (m : Int) := by rw [wrap_i64 (by omega) (by omega)]; omega
      have g2 : slOk a.length ((i + 1 : Nat) : Int) (m : Int) := ⟨by omega, by omega, by omega⟩
      have hcl := cut_le a ((i + 1 : Nat) : Int) (m : Int)
      have kp := fun st K => c41 (cut a ((i + 1 : Nat) : Int) (m : Int)) (by omega) st K
      have kl := fun st K => c42 (cut a ((i + 1 : Nat) : Int) (m : Int)) (by omega) st K
      have w3 : IntKind.i64.wrap ((i : Int) + (n : Int)) = ((i + n : Nat) : Int) := by rw [wrap_i64 (by omega) (by omega)]; rfl
      have w4 : IntKind.i64.wrap (((i + n : Nat) : Int) + 2) = (m2 : Int) := by rw [wrap_i64 (by omega) (by omega)]; omega
      obtain ⟨x, hx⟩ : ∃ x, cut a ((i + 1 : Nat) : Int) (m : Int) = x := ⟨_, rfl⟩
      rw [hx] at kp kl ⊢
      cases h4 : x.all isPl with
      | false =>
        rw [h4] at kp
        simp (config := {contextual := true, implicitDefEqProofs := false, maxSteps := 4000000}) only [go_sem, ↓reduceIte, Bool.false_eq_true, Nat.reduceEqDiff, Nat.reduceAdd, Int.reduceLE, Int.reduceLT, Int.reduceEq, Int.reduceToNat, Int.toNat_natCast, Int.cast_ofNat_Int, Int.natCast_one, Nat.reduceMod, Nat.reduceDiv, UInt8.reduceToNat, Nat.reduceLT, b1, b2, hb, c35, e1, c37, h1, f1, f2, f3, w1, g1, ki, d1, w2, g2, hx, kp]
        rfl
      | true =>
      rw [h4] at kp
      cases h5 : labB x with
      | false =>
        rw [h5] at kl
        simp (config := {contextual := true, implicitDefEqProofs := false, maxSteps := 4000000}) only [go_sem, ↓reduceIte, Bool.false_eq_true, Nat.reduceEqDiff, Nat.reduceAdd, Int.reduceLE, Int.reduceLT, Int.reduceEq, Int.reduceToNat, Int.toNat_natCast, Int.cast_ofNat_Int, Int.natCast_one, Nat.reduceMod, Nat.reduceDiv, UInt8.reduceToNat, Nat.reduceLT, b1, b2, hb, c35, e1, c37, h1, f1, f2, f3, w1, g1, ki, d1, w2, g2, hx, kp, kl]
        rfl
      | true =>
        rw [h5] at kl
        simp (config := {contextual := true, implicitDefEqProofs := false, maxSteps := 4000000}) only [go_sem, ↓reduceIte, Bool.false_eq_true, Nat.reduceEqDiff, Nat.reduceAdd, Int.reduceLE, Int.reduceLT, Int.reduceEq, Int.reduceToNat, Int.toNat_natCast, Int.cast_ofNat_Int, Int.natCast_one, Nat.reduceMod, Nat.reduceDiv, UInt8.reduceToNat, Nat.reduceLT, b1, b2, hb, c35, e1, c37, h1, f1, f2, f3, w1, g1, ki, d1, w2, g2, hx, kp, kl, w3, w4, z0]
  | false =>
    rw [e3] at f3
    rw [if_neg (by decide)]
    have ks : ∀ (st : St) (K : AV → St → Prop), CallW cx 39 [.str [40, 41, 44, 61, 58, 60, 62], .int .u8 ((b.toNat : Nat) : Int)] st K = K (.int .i64 (findByte b sgB 0)) st := fun st K => c39 sgB b st K
    have w1 := wrap_one (i := i) (by omega)
    have g2 : slOk a.length (i : Int) ((i + 1 : Nat) : Int) := ⟨by omega, by omega, by omega⟩
    cases e4 : decide (0 ≤ findByte b sgB 0) with
    | true =>
      rw [if_pos rfl]
      simp (config := {contextual := true, implicitDefEqProofs := false, maxSteps := 4000000}) only [go_sem, ↓reduceIte, Bool.false_eq_true, Nat.reduceEqDiff, Nat.reduceAdd, Int.reduceLE, Int.reduceLT, Int.reduceEq, Int.reduceToNat, Int.toNat_natCast, Int.cast_ofNat_Int, Int.natCast_one, Nat.reduceMod, Nat.reduceDiv, UInt8.reduceToNat, Nat.reduceLT, b1, b2, hb, c35, e1, c37, h1, f1, f2, f3, ks, e4, w1, g2, z0]
    | false =>
      rw [if_neg (by decide)]
      simp (config := {contextual := true, implicitDefEqProofs := false, maxSteps := 4000000}) only [go_sem, ↓reduceIte, Bool.false_eq_true, Nat.reduceEqDiff, Nat.reduceAdd, Int.reduceLE, Int.reduceLT, Int.reduceEq, Int.reduceToNat, Int.toNat_natCast, Int.cast_ofNat_Int, Int.natCast_one, Nat.reduceMod, Nat.reduceDiv, UInt8.reduceToNat, Nat.reduceLT, b1, b2, hb, c35, e1, c37, h1, f1, f2, f3, ks, e4]
      rfl
end T18


/- Scan: a line's tokens. -/
namespace T18
open Go Fw Go.Proofs
set_option maxRecDepth 100000
set_option maxHeartbeats 4000000
set_option linter.unusedSimpArgs false
set_option linter.unusedVariables false
theorem nextB_end (a : List UInt8) (i : Nat) (hi : i < a.length) (h : (nextB a i).2.2 = 0) : i < (nextB a i).2.1 ∧ (nextB a i).2.1 ≤ a.length := by
  unfold nextB at h ⊢
  by_cases e1 : isLet (a.getD i 0) = true
  · rw [if_pos e1] at h ⊢
    unfold wordB at h ⊢
    have hr := runI_le (fun j => isWd (a.getD j 0)) (a.length - i) i
    have hs : i < runB isWd a i := by
      unfold runB
      obtain ⟨n, hn⟩ : ∃ n, a.length - i = n + 1 := ⟨a.length - i - 1, by omega⟩
      rw [hn]
      simp only [runI]
      have hw : isWd (a.getD i 0) = true := by unfold isWd; rw [e1]; rfl
      rw [if_pos hw]
      have := runI_le (fun j => isWd (a.getD j 0)) n (i + 1)
      omega
    have hr2 : runB isWd a i ≤ a.length := by unfold runB; omega
    split at h
    · simp at h
    · rename_i h9
      rw [if_neg h9]
      exact ⟨hs, hr2⟩
  rw [if_neg e1] at h ⊢
  by_cases e2 : (isD (a.getD i 0) || (decide (a.getD i 0 = 45) || decide (a.getD i 0 = 42))) = true
  · rw [if_pos e2]
    unfold numB fend
    have hr := runI_le (belB a i) (a.length - i) i
    refine ⟨?_, by simp only; omega⟩
    obtain ⟨n, hn⟩ : ∃ n, a.length - i = n + 1 := ⟨a.length - i - 1, by omega⟩
    rw [hn]
    simp only [runI]
    have hw : belB a i i = true := by
      unfold belB
      simp only [Bool.or_eq_true, decide_eq_true_eq] at e2
      rcases e2 with h | h | h
      · rw [h]; rfl
      · rw [h]; rfl
      · rw [h]; rfl
    rw [if_pos hw]
    have := runI_le (belB a i) n (i + 1)
    omega
  rw [if_neg e2] at h ⊢
  by_cases e3 : decide (a.getD i 0 = 34) = true
  · rw [if_pos e3] at h ⊢
    unfold textB at h ⊢
    rcases findByte_spec 34 (a.drop (i + 1)) 0 with hf | ⟨n, hf, _, hn⟩
    · rw [hf] at h; cases h
    · rw [hf] at h ⊢
      rw [List.length_drop] at hn
      simp only at h ⊢
      split at h
      · rename_i p1
        rw [if_pos p1]
        split at h
        · rename_i p2
          rw [if_pos p2]
          simp only
          omega
        · cases h
      · cases h
  rw [if_neg e3] at h ⊢
  split at h
  · rename_i p1
    rw [if_pos p1]
    simp only
    omega
  · cases h
def blk (a : List UInt8) (i : Nat) : Nat := runB (fun b => decide (b = 32)) a i
theorem blk_le (a : List UInt8) (i : Nat) (h : i ≤ a.length) : i ≤ blk a i ∧ blk a i ≤ a.length := by
  have := runI_le (fun j => (fun b => decide (b = 32)) (a.getD j 0)) (a.length - i) i
  unfold blk runB
  omega
/-- The tokens from a place on (that is no blank) and the comment, or the first fault: its code and place. -/
def scanL (a : List UInt8) : Nat → Nat → List Tok → (List Tok × List UInt8) ⊕ (Int × Nat)
  | 0, i, ts => .inl (ts, [])
  | k + 1, i, ts => if a.length ≤ i then .inl (ts, []) else if a.getD i 0 = 35 then .inl (ts, a.drop (i + 1)) else if ts.length = 64 then .inr (7, i)
    else if (nextB a i).2.2 ≠ 0 then .inr ((nextB a i).2.2, i) else scanL a k (blk a (nextB a i).2.1) (ts ++ [{ (nextB a i).1 with p := ((i + 1 : Nat) : Int) }])
theorem c27 (a : List UInt8) (i : Nat) (hi : i < a.length) (C : Nat) (ty : Option TypeId) (st : St) (hlk : Fw.look C st.heap = some (.cells ty [.str a])) (K : AV → St → Prop) : CallW cx 27 [.int .i64 (i : Int), .ptr C 0] st K = K (.bool (decide (a.getD i 0 = 32))) st := by
  refine CallW.eq (CallW.fn' (fn := ir27) rfl rfl (by kernel_rfl) ir27.eq_1 ?_) K
  have b1 : (0 : Int) ≤ (i : Int) := by omega
  have b2 : (i : Int) < (a.length : Int) := by omega
  obtain ⟨b, hb⟩ : ∃ b, a.getD i 0 = b := ⟨_, rfl⟩
  have f1 : decide (((b.toNat : Nat) : Int) = 32) = decide (b = 32) := is_byte 32 b
  rw [hb]
  simp (config := {contextual := true, implicitDefEqProofs := false, maxSteps := 4000000}) only [go_sem, ↓reduceIte, Bool.false_eq_true, Nat.reduceEqDiff, Nat.reduceAdd, Int.reduceLE, Int.reduceLT, Int.reduceEq, Int.reduceToNat, Int.toNat_natCast, Int.cast_ofNat_Int, Int.natCast_one, Nat.reduceMod, Nat.reduceDiv, UInt8.reduceToNat, Nat.reduceLT, hlk, b1, b2, hb, f1]
theorem c26 (e : Int) (i : Nat) (hi : i ≤ 1000000) (s : St) (K : AV → St → Prop) : CallW cx 26 [.int .i64 e, .int .i64 (i : Int)] s K = K (.tuple [.agg [.int .i64 0, .nilslice, .bool false, .str []], .agg [.int .i64 e, .int .i64 0, .int .i64 ((i + 1 : Nat) : Int)]]) s := by
  refine CallW.eq (CallW.fn' (fn := ir26) rfl rfl (by kernel_rfl) ir26.eq_1 ?_) K
  have w1 := wrap_one (i := i) (by omega)
  simp (config := {contextual := true, implicitDefEqProofs := false, maxSteps := 4000000}) only [go_sem, ↓reduceIte, Bool.false_eq_true, Nat.reduceEqDiff, Nat.reduceAdd, Int.reduceLE, Int.reduceLT, Int.reduceEq, Int.reduceToNat, Int.toNat_natCast, Int.cast_ofNat_Int, Int.natCast_one, Nat.reduceMod, Nat.reduceDiv, UInt8.reduceToNat, Nat.reduceLT, w1]
/-- The steps of an indentation, or an error. -/
def indB (i : Nat) : Int × Int := if i % 2 ≠ 0 then (0, 2) else if 12 < i then (0, 7) else (((i / 2 : Nat) : Int), 0)
theorem c29 (i : Nat) (hi : i ≤ 1000000) (s : St) (K : AV → St → Prop) : CallW cx 29 [.int .i64 (i : Int)] s K = K (.tuple [.int .i64 (indB i).1, .int .i64 (indB i).2]) s := by
  refine CallW.eq (CallW.fn' (fn := ir29) rfl rfl (by kernel_rfl) ir29.eq_1 ?_) K
  unfold indB
  have m1 : Int.tmod (i : Int) 2 = ((i % 2 : Nat) : Int) := by rw [Int.tmod_eq_emod_of_nonneg (by omega)]; rfl
  have m2 : Int.tdiv (i : Int) 2 = ((i / 2 : Nat) : Int) := by rw [Int.tdiv_eq_ediv_of_nonneg (by omega)]; rfl
  have m3 : IntKind.i64.wrap ((i / 2 : Nat) : Int) = ((i / 2 : Nat) : Int) := wrap_i64 (by omega) (by omega)
  have m4 : IntKind.i64.wrap ((i % 2 : Nat) : Int) = ((i % 2 : Nat) : Int) := wrap_i64 (by omega) (by omega)
  have d0 : decide (((i % 2 : Nat) : Int) ≠ 0) = decide (i % 2 ≠ 0) := decide_eq_decide.2 (by omega)
  by_cases h1 : i % 2 ≠ 0
  · rw [decide_eq_true h1] at d0
    rw [if_pos h1]
    simp (config := {contextual := true, implicitDefEqProofs := false, maxSteps := 4000000}) only [go_sem, ↓reduceIte, Bool.false_eq_true, Nat.reduceEqDiff, Nat.reduceAdd, Int.reduceLE, Int.reduceLT, Int.reduceEq, Int.reduceToNat, Int.toNat_natCast, Int.cast_ofNat_Int, Int.natCast_one, Nat.reduceMod, Nat.reduceDiv, UInt8.reduceToNat, Nat.reduceLT, m1, m2, m3, m4, d0]
  rw [decide_eq_false h1] at d0
  rw [if_neg h1]
  by_cases h2 : 12 < i
  · have d1 : decide ((12 : Int) < (i : Int)) = true := decide_eq_true (by omega)
    rw [if_pos h2]
    simp (config := {contextual := true, implicitDefEqProofs := false, maxSteps := 4000000}) only [go_sem, ↓reduceIte, Bool.false_eq_true, Nat.reduceEqDiff, Nat.reduceAdd, Int.reduceLE, Int.reduceLT, Int.reduceEq, Int.reduceToNat, Int.toNat_natCast, Int.cast_ofNat_Int, Int.natCast_one, Nat.reduceMod, Nat.reduceDiv, UInt8.reduceToNat, Nat.reduceLT, m1, m2, m3, m4, d0, d1]
  · have d1 : decide ((12 : Int) < (i : Int)) = false := decide_eq_false (by omega)
    rw [if_neg h2]
    simp (config := {contextual := true, implicitDefEqProofs := false, maxSteps := 4000000}) only [go_sem, ↓reduceIte, Bool.false_eq_true, Nat.reduceEqDiff, Nat.reduceAdd, Int.reduceLE, Int.reduceLT, Int.reduceEq, Int.reduceToNat, Int.toNat_natCast, Int.cast_ofNat_Int, Int.natCast_one, Nat.reduceMod, Nat.reduceDiv, UInt8.reduceToNat, Nat.reduceLT, m1, m2, m3, m4, d0, d1]
end T18


/- Scan: the loop over a line's tokens. -/
namespace T18
open Go Fw Go.Proofs
set_option maxRecDepth 100000
set_option maxHeartbeats 4000000
set_option linter.unusedSimpArgs false
set_option linter.unusedVariables false
abbrev sctC (n : Int) (v : AV) (h : Bool) (c : List UInt8) : AObj := .cells (some 46) [.int .i64 n, v, .bool h, .str c]
abbrev fltC (e : Int) (c : Int) : AObj := .cells (some 26) [.int .i64 e, .int .i64 0, .int .i64 c]
/-- The state of a scan: the line at N, the results at N + 1 and N + 2, what is read at N + 3. -/
structure SI (a : List UInt8) (N : Nat) (n : Int) (v : AV) (ts : List Tok) (c : List UInt8) (st : St) : Prop where
  gr : Gr 52 4 st v (encTs ts) ts.length
  lc : Fw.look N st.heap = some (.cells (some 9) [.str a])
  la : Fw.look (N + 1) st.heap = some (sctC 0 .nilslice false [])
  lb : Fw.look (N + 2) st.heap = some (fltC 0 0)
  ld : Fw.look (N + 3) st.heap = some (sctC n v false c)
  tk : ∀ t, tokOf v = some t → N + 3 < t
  sh : if ts = [] then v = .nilslice else ∃ t, tokOf v = some t
  lw : N ≤ st.low
  nx : N + 3 < st.next
theorem oneT (st : St) (t : Tok) : cellsOf st 4 (.slice [.int .i64 t.k, .str t.t, .int .i64 t.n, .int .i64 t.p] 1 .full) = some (encT t) := by simp [cellsOf, encT]
/-- A token more. -/
theorem SI.app {a : List UInt8} {N : Nat} {n : Int} {v : AV} {ts : List Tok} {c : List UInt8} {st : St} (h : SI a N n v ts c st) (t : Tok) (hl : ts.length < 64) (lo : Nat) (hlo : N ≤ lo) (hlo2 : lo ≤ st.next + 1) :
    ∃ v' st', appendA { heap := (st.next, .cells (some 52) [.int .i64 t.k, .str t.t, .int .i64 t.n, .int .i64 t.p]) :: st.heap, next := st.next + 1, low := lo } 52 4 40 v (.slice [.int .i64 t.k, .str t.t, .int .i64 t.n, .int .i64 t.p] 1 .full) = some (v', st') ∧
      Fw.look (N + 3) st'.heap = some (sctC n v false c) ∧ SI a N n v' (ts ++ [t]) c { heap := put (N + 3) (sctC n v' false c) st'.heap, next := st'.next, low := min st'.low (N + 3) } := by
  have hnx := h.nx
  have hk1 : Keeps (fun i => i < st.next) st { heap := (st.next, .cells (some 52) [.int .i64 t.k, .str t.t, .int .i64 t.n, .int .i64 t.p]) :: st.heap, next := st.next + 1, low := lo } := by
    refine ⟨by simp, fun i hi _ => ?_⟩
    simp only [Fw.look]
    rw [if_neg (by omega)]
  have g1 := h.gr.keep (st' := { heap := (st.next, .cells (some 52) [.int .i64 t.k, .str t.t, .int .i64 t.n, .int .i64 t.p]) :: st.heap, next := st.next + 1, low := lo }) ⟨hk1.1, fun i hi _ => hk1.2 i hi hi⟩
  obtain ⟨v', st', ap, G', hk, tk', lw', _, _⟩ := g1.app (bytes := 40) (y := .slice [.int .i64 t.k, .str t.t, .int .i64 t.n, .int .i64 t.p] 1 .full) (new := encT t) (m := 1) (oneT _ t) rfl rfl rfl (Nat.le_trans (show (ts.length + 1) * 40 ≤ 2600 by omega) (by decide))
  have hs : (encT t).map AV.strip = encT t := rfl
  rw [hs, show encTs ts ++ encT t = encTs (ts ++ [t]) by rw [encTs_append]; simp [encTs]] at G'
  have hlen : (ts ++ [t]).length = ts.length + 1 := by simp
  have old : ∀ i, i < N + 4 → Fw.look i st'.heap = Fw.look i st.heap := by
    intro i hi
    rw [hk.2 i (by simp only; omega) (fun e => by have := h.tk i e; omega)]
    exact hk1.2 i (by omega) (by omega)
  have hnx' : st.next + 1 ≤ st'.next := hk.1
  refine ⟨v', st', ap, by rw [old _ (by omega)]; exact h.ld, ?_⟩
  have tk2 : ∀ u, tokOf v' = some u → N + 3 < u := by
    intro u hu
    rcases tk' u hu with h1 | h1
    · exact h.tk u h1
    · simp only at h1; omega
  have hld : Fw.look (N + 3) st'.heap = some (sctC n v false c) := by rw [old _ (by omega)]; exact h.ld
  have shp : ∃ u, tokOf v' = some u := by
    have hG : G2 52 4 52 4 0 { heap := (st.next, .cells (some 52) [.int .i64 t.k, .str t.t, .int .i64 t.n, .int .i64 t.p]) :: st.heap, next := st.next + 1, low := lo } v .nilslice (encTs ts) ts.length [] 0 :=
      ⟨g1, Gr.nil, fun t _ h => (by cases h), fun t h => Nat.zero_le _, fun t h => (by cases h), Nat.zero_le _, hlo2⟩
    obtain ⟨v2, st2, ap2, _, _, _, _, tk3, _⟩ := hG.app1 (bytes := 40) (y := .slice [.int .i64 t.k, .str t.t, .int .i64 t.n, .int .i64 t.p] 1 .full) (new := encT t) (k := 1) (oneT _ t) rfl rfl rfl (Nat.le_trans (show (ts.length + 1) * 40 ≤ 2600 by omega) (by decide))
    rw [ap] at ap2
    obtain ⟨u, hu⟩ := tk3 (by decide)
    cases ap2
    exact ⟨u, hu⟩
  refine ⟨?_, ?_, ?_, ?_, look_put_self hld, tk2, (by rw [if_neg (by simp)]; exact shp), ?_, ?_⟩
  · rw [hlen]
    refine G'.keep ⟨Nat.le_refl _, fun i hi hp => ?_⟩
    exact look_put_ne (fun e => by have := tk2 i hp; omega)
  · simp only; rw [look_put_ne (by omega), old _ (by omega)]; exact h.lc
  · simp only; rw [look_put_ne (by omega), old _ (by omega)]; exact h.la
  · simp only; rw [look_put_ne (by omega), old _ (by omega)]; exact h.lb
  · have := lw' N hlo (fun u hu => by have := h.tk u hu; omega)
    simp only; omega
  · simp only; omega
/-- A comment. -/
theorem SI.com {a : List UInt8} {N : Nat} {n : Int} {v : AV} {ts : List Tok} {c : List UInt8} {st : St} (h : SI a N n v ts c st) (x : List UInt8) :
    SI a N n v ts x { heap := put (N + 3) (sctC n v false x) st.heap, next := st.next, low := min st.low (N + 3) } := by
  refine ⟨?_, ?_, ?_, ?_, look_put_self h.ld, h.tk, h.sh, ?_, h.nx⟩
  · refine h.gr.keep ⟨Nat.le_refl _, fun i hi hp => ?_⟩
    exact look_put_ne (fun e => by have := h.tk i hp; omega)
  · simp only; rw [look_put_ne (by omega)]; exact h.lc
  · simp only; rw [look_put_ne (by omega)]; exact h.la
  · simp only; rw [look_put_ne (by omega)]; exact h.lb
  · have := h.lw; simp only; omega
theorem gr_cells {ty z : Nat} {st : St} {v : AV} {cs : List AV} {n : Nat} (h : Gr ty z st v cs n) : v.cells = [v] ∧ v.one = true := by
  rcases h with ⟨rfl, _, _⟩ | ⟨rfl, _⟩ | ⟨t, rfl, _⟩ <;> exact ⟨rfl, rfl⟩
theorem SI.flt {a : List UInt8} {N : Nat} {n : Int} {v : AV} {ts : List Tok} {c : List UInt8} {st : St} (h : SI a N n v ts c st) (x : AObj) (hx : x = sctC 0 .nilslice false []) (er k : Int) :
    Fw.look (N + 1) (put (N + 2) (fltC er k) (put (N + 1) x st.heap)) = some (sctC 0 .nilslice false []) ∧ Fw.look (N + 2) (put (N + 2) (fltC er k) (put (N + 1) x st.heap)) = some (fltC er k) ∧ N ≤ min (min st.low (N + 1)) (N + 2) := by
  subst hx
  have := h.lw
  refine ⟨?_, ?_, by omega⟩
  · rw [look_put_ne (by omega)]; exact look_put_self h.la
  · exact look_put_self (by rw [look_put_ne (by omega)]; exact h.lb)
theorem l15 (a : List UInt8) (hl : a.length ≤ 1000) (N : Nat) (m : Int) (Q : Sig → FE → St → Prop) : ∀ (n i : Nat) (e : FE) (st : St) (v : AV) (ts : List Tok), a.length - i < n → i ≤ a.length → ts.length ≤ 64 → SI a N m v ts [] st →
    e 1 = .ptr N 0 → e 2 = .ptr (N + 1) 0 → e 3 = .ptr (N + 2) 0 → e 4 = .func 26 [] [] → e 5 = .func 27 [] [.ptr N 0] → e 6 = .int .i64 (i : Int) → e 7 = .ptr (N + 3) 0 →
    (∀ us c, scanL a n i ts = .inl (us, c) → ∀ e' st' v', us.length ≤ 64 → SI a N m v' us c st' → e' 1 = .ptr N 0 → e' 2 = .ptr (N + 1) 0 → e' 3 = .ptr (N + 2) 0 → e' 4 = .func 26 [] [] → e' 7 = .ptr (N + 3) 0 → Q (.exit 0) e' st') →
    (∀ er j, scanL a n i ts = .inr (er, j) → ∀ e' st', e' 2 = .ptr (N + 1) 0 → e' 3 = .ptr (N + 2) 0 → Fw.look (N + 1) st'.heap = some (sctC 0 .nilslice false []) → Fw.look (N + 2) st'.heap = some (fltC er ((j + 1 : Nat) : Int)) → N ≤ st'.low → Q .ret e' st') → WLoop cx ir15L0 e st Q
  | 0, i, e, st, v, ts, hn, _, _, _, _, _, _, _, _, _, _, _, _ => by omega
  | n + 1, i, e, st, v, ts, hn, hi, h64, hS, h1, h2, h3, h4, h5, h6, h7, hA, hB => by
    refine WLoop.rnd (c := _) ir15L0.eq_1 ?_
    have lc := hS.lc
    have la := hS.la
    have lb := hS.lb
    have ld := hS.ld
    simp only [scanL] at hA hB
    by_cases hd : a.length ≤ i
    · have d1 : decide ((i : Int) < (a.length : Int)) = false := decide_eq_false (by omega)
      rw [if_pos hd] at hA
      simp (config := {contextual := true, implicitDefEqProofs := false, maxSteps := 4000000}) only [go_sem, ↓reduceIte, Bool.false_eq_true, Nat.reduceEqDiff, Nat.reduceAdd, Int.reduceLE, Int.reduceLT, Int.reduceEq, Int.reduceToNat, Int.toNat_natCast, Int.cast_ofNat_Int, Int.natCast_one, Nat.reduceMod, Nat.reduceDiv, UInt8.reduceToNat, Nat.reduceLT, h1, h2, h3, h4, h5, h6, h7, lc, d1]
      exact hA ts [] rfl _ _ v h64 hS h1 h2 h3 h4 h7
    rw [if_neg hd] at hA hB
    have d1 : decide ((i : Int) < (a.length : Int)) = true := decide_eq_true (by omega)
    have b1 : (0 : Int) ≤ (i : Int) := by omega
    have b2 : (i : Int) < (a.length : Int) := by omega
    have w1 := wrap_one (i := i) (by omega)
    obtain ⟨b, hb⟩ : ∃ b, a.getD i 0 = b := ⟨_, rfl⟩
    rw [hb] at hA hB
    have f1 : decide (((b.toNat : Nat) : Int) = 35) = decide (b = 35) := is_byte 35 b
    by_cases hc : b = 35
    · rw [decide_eq_true hc] at f1
      rw [if_pos hc] at hA
      have g1 : (0 : Int) ≤ ((i + 1 : Nat) : Int) ∧ ((i + 1 : Nat) : Int) ≤ (a.length : Int) := by omega
      simp (config := {contextual := true, implicitDefEqProofs := false, maxSteps := 4000000}) only [go_sem, ↓reduceIte, Bool.false_eq_true, Nat.reduceEqDiff, Nat.reduceAdd, Int.reduceLE, Int.reduceLT, Int.reduceEq, Int.reduceToNat, Int.toNat_natCast, Int.cast_ofNat_Int, Int.natCast_one, Nat.reduceMod, Nat.reduceDiv, UInt8.reduceToNat, Nat.reduceLT, h1, h2, h3, h4, h5, h6, h7, lc, d1, b1, b2, hb, f1, w1, g1, ld]
      exact hA ts _ rfl _ _ v h64 (hS.com _) h1 h2 h3 h4 h7
    rw [decide_eq_false hc] at f1
    rw [if_neg hc] at hA hB
    have hv := hS.gr.lenv
    have nab : ¬ N + 1 = N + 2 := by omega
    have nba : ¬ N + 2 = N + 1 := by omega
    by_cases h6t : ts.length = 64
    · rw [if_pos h6t] at hB
      have d2 : decide ((ts.length : Int) = 64) = true := decide_eq_true (by omega)
      have ks := fun (er : Int) st K => c26 er i (by omega) st K
      obtain ⟨q1, q2, q3⟩ := hS.flt _ rfl 7 ((i + 1 : Nat) : Int)
      simp (config := {contextual := true, implicitDefEqProofs := false, maxSteps := 4000000}) only [go_sem, ↓reduceIte, Bool.false_eq_true, Nat.reduceEqDiff, Nat.reduceAdd, Int.reduceLE, Int.reduceLT, Int.reduceEq, Int.reduceToNat, Int.toNat_natCast, Int.cast_ofNat_Int, Int.natCast_one, Nat.reduceMod, Nat.reduceDiv, UInt8.reduceToNat, Nat.reduceLT, h1, h2, h3, h4, h5, h6, h7, lc, d1, b1, b2, hb, f1, ld, hv, d2, ks, la, lb, look_put_ne nab, look_put_ne nba]
      exact hB 7 i rfl _ _ h2 h3 q1 q2 q3
    rw [if_neg h6t] at hA hB
    have d2 : decide ((ts.length : Int) = 64) = false := decide_eq_false (by omega)
    have kx := fun st K => c30 a (by omega) i (by omega) st K
    have hend := nextB_end a i (by omega)
    generalize nextB a i = x at *
    obtain ⟨⟨x1, x2, x3, x4⟩, x5, x6⟩ := x
    simp only [nxo] at kx hA hB hend
    have hlt := hS.nx
    have n0 : ¬ st.next = N := by omega
    have n1 : ¬ st.next = N + 1 := by omega
    have n2 : ¬ st.next = N + 2 := by omega
    have n3 : ¬ st.next = N + 3 := by omega
    by_cases her : x6 = 0
    case neg =>
      have d3 : decide (x6 ≠ 0) = true := decide_eq_true her
      rw [if_pos her] at hB
      have ks := fun (er : Int) st K => c26 er i (by omega) st K
      obtain ⟨q1, q2, q3⟩ := hS.flt _ rfl x6 ((i + 1 : Nat) : Int)
      simp (config := {contextual := true, implicitDefEqProofs := false, maxSteps := 4000000}) only [go_sem, ↓reduceIte, Bool.false_eq_true, Nat.reduceEqDiff, Nat.reduceAdd, Int.reduceLE, Int.reduceLT, Int.reduceEq, Int.reduceToNat, Int.toNat_natCast, Int.cast_ofNat_Int, Int.natCast_one, Nat.reduceMod, Nat.reduceDiv, UInt8.reduceToNat, Nat.reduceLT, h1, h2, h3, h4, h5, h6, h7, lc, d1, b1, b2, hb, f1, ld, hv, d2, kx, d3, n0, n1, n2, n3, ks, la, lb, look_put_ne nab, look_put_ne nba]
      refine hB x6 i rfl _ _ h2 h3 ?_ ?_ (by have := hS.lw; simp only; omega)
      · simp only [Fw.look]; rw [if_neg n1]; exact q1
      · simp only [Fw.look]; rw [if_neg n2]; exact q2
    subst her
    rw [if_neg (by decide)] at hA hB
    obtain ⟨he1, he2⟩ := hend rfl
    have d3 : decide ((0 : Int) ≠ 0) = false := rfl
    obtain ⟨v', st', ap, ld', hS'⟩ := hS.app ⟨x1, x2, x3, ((i + 1 : Nat) : Int)⟩ (by omega) (min (min st.low st.next) st.next) (by have := hS.lw; omega) (by omega)
    simp only at ap
    have lc' := hS'.lc
    simp only at lc'
    have kr := fun l K => c28 a (by omega) x5 he2 27 [.ptr N 0] (fun j => decide (a.getD j 0 = 32)) (put (N + 3) (sctC m v' false []) st'.heap) st'.next l (fun j K hj => c27 a j hj N (some 9) _ lc' K) K
    rw [show runI (fun j => decide (a.getD j 0 = 32)) (a.length - x5) x5 = blk a x5 from rfl] at kr
    obtain ⟨r1, r2⟩ := blk_le a x5 he2
    obtain ⟨c1, c2⟩ := gr_cells hS'.gr
    simp (config := {contextual := true, implicitDefEqProofs := false, maxSteps := 4000000}) only [go_sem, ↓reduceIte, Bool.false_eq_true, Nat.reduceEqDiff, Nat.reduceAdd, Int.reduceLE, Int.reduceLT, Int.reduceEq, Int.reduceToNat, Int.toNat_natCast, Int.cast_ofNat_Int, Int.natCast_one, Nat.reduceMod, Nat.reduceDiv, UInt8.reduceToNat, Nat.reduceLT, h1, h2, h3, h4, h5, h6, h7, lc, d1, b1, b2, hb, f1, ld, hv, d2, kx, d3, n0, n1, n2, n3, w1, ap, ld', c1, c2, lc', kr]
    refine l15 a hl N m Q n (blk a x5) _ _ v' (ts ++ [⟨x1, x2, x3, ((i + 1 : Nat) : Int)⟩]) (by omega) r2 (by simp; omega) ?_ h1 h2 h3 h4 h5 rfl h7 hA hB
    exact hS'
end T18


/- Scan: the walk. -/
namespace T18
open Go Fw Go.Proofs
set_option maxRecDepth 100000
set_option maxHeartbeats 4000000
set_option linter.unusedSimpArgs false
set_option linter.unusedVariables false
/-- A line that was read. -/
structure Sc where
  ind : Int
  ts : List Tok
  head : Bool
  com : List UInt8
def noS : Sc := ⟨0, [], false, []⟩
def isColon (t : Tok) : Bool := decide (t.k = 6) && decide (t.t = [58])
/-- The end of a scan: a colon behind the tokens. -/
def endB (n : Int) (ts : List Tok) (c : List UInt8) : Sc × Int × Int :=
  if ts ≠ [] ∧ isColon (ts.getLastD noT) = true then (if ts.length = 1 then (noS, 2, (ts.getLastD noT).p) else (⟨n, ts.dropLast, true, c⟩, 0, 0)) else (⟨n, ts, false, c⟩, 0, 0)
def firstI (a : List UInt8) : Int × Int := if blk a 0 < a.length ∧ a.getD (blk a 0) 0 ≠ 35 then indB (blk a 0) else (0, 0)
def scanB (a : List UInt8) : Sc × Int × Int :=
  if 1000 < a.length then (noS, 7, 1001) else if (firstI a).2 ≠ 0 then (noS, (firstI a).2, ((blk a 0 + 1 : Nat) : Int)) else
    match scanL a (a.length + 1) (blk a (blk a 0)) [] with
    | .inr (er, j) => (noS, er, ((j + 1 : Nat) : Int))
    | .inl (us, c) => endB (firstI a).1 us c
abbrev scO (x : Sc × Int × Int) : AV := .tuple [.agg [.int .i64 x.1.ind, slt (true, false) x.1.ts.length (encTs x.1.ts), .bool x.1.head, .str x.1.com], .agg [.int .i64 x.2.1, .int .i64 0, .int .i64 x.2.2]]
theorem scanL_all (a : List UInt8) (P : Tok → Prop) (hP : ∀ (t : Tok) (i : Nat), i ≤ a.length → P { t with p := ((i + 1 : Nat) : Int) }) : ∀ (n i : Nat) (ts us : List Tok) (c : List UInt8), i ≤ a.length → (∀ t ∈ ts, P t) → scanL a n i ts = .inl (us, c) → ∀ t ∈ us, P t
  | 0, i, ts, us, c, hi, ht, h => by cases h; exact ht
  | n + 1, i, ts, us, c, hi, ht, h => by
    simp only [scanL] at h
    split at h
    · cases h; exact ht
    rename_i hlt
    split at h
    · cases h; exact ht
    split at h
    · cases h
    split at h
    · cases h
    rename_i h0
    have he := nextB_end a i (by omega) (by simpa using h0)
    refine scanL_all a P hP n _ _ us c (blk_le a _ he.2).2 ?_ h
    intro t h1
    rw [List.mem_append, List.mem_singleton] at h1
    rcases h1 with h1 | h1
    · exact ht t h1
    · rw [h1]; exact hP _ i hi
theorem gr_dr {N : Nat} {n : Int} {a c : List UInt8} {v : AV} {ts : List Tok} {st : St} (h : SI a N n v ts c st) : v.dr = slt (true, false) ts.length (encTs ts) ∧ v.free0 N = true := by
  refine ⟨?_, h.gr.free0 (fun t ht => by have := h.tk t ht; omega) (encTs_al ts)⟩
  have hsh := h.sh
  by_cases h0 : ts = []
  · rw [if_pos h0] at hsh
    rw [hsh, h0]; rfl
  · rw [if_neg h0] at hsh
    obtain ⟨t, ht⟩ := hsh
    rw [tok_shape h.gr ht]
    simp only [AV.dr]
    unfold slt
    rw [if_neg (fun hh => h0 (List.eq_nil_of_length_eq_zero hh.2))]
    rfl
theorem c15 (a : List UInt8) (s : St) (K : AV → St → Prop) : CallW cx 15 [.str a] s K = K (scO (scanB a)) s := by
  refine CallW.eq (CallW.fn' (fn := ir15) rfl rfl (by kernel_rfl) ir15.eq_1 ?_) K
  unfold scanB
  by_cases h1 : 1000 < a.length
  · have d1 : decide ((1000 : Int) < (a.length : Int)) = true := decide_eq_true (by omega)
    have ks : ∀ (er : Int) st K, CallW cx 26 [.int .i64 er, .int .i64 1000] st K = K (.tuple [.agg [.int .i64 0, .nilslice, .bool false, .str []], .agg [.int .i64 er, .int .i64 0, .int .i64 1001]]) st := fun (er : Int) st K => c26 er 1000 (by omega) st K
    rw [if_pos h1]
    simp (config := {contextual := true, implicitDefEqProofs := false, maxSteps := 4000000}) only [go_sem, ↓reduceIte, Bool.false_eq_true, Nat.reduceEqDiff, Nat.reduceAdd, Int.reduceLE, Int.reduceLT, Int.reduceEq, Int.reduceToNat, Int.toNat_natCast, Int.cast_ofNat_Int, Int.natCast_one, Nat.reduceMod, Nat.reduceDiv, UInt8.reduceToNat, Nat.reduceLT, d1, ks]
    rfl
  rw [if_neg h1]
  have d1 : decide ((1000 : Int) < (a.length : Int)) = false := decide_eq_false (by omega)
  unfold firstI
  have kr := fun (i : Nat) (hi : i ≤ a.length) (h : List (Nat × AObj)) (M l : Nat) (hlk : Fw.look s.next h = some (.cells (some 9) [.str a])) (K : AV → St → Prop) => c28 a (by omega) i hi 27 [.ptr s.next 0] (fun j => decide (a.getD j 0 = 32)) h M l (fun j K hj => c27 a j hj s.next (some 9) _ hlk K) K
  have k0 := fun l K => kr 0 (Nat.zero_le _) ((s.next + 2, fltC 0 0) :: (s.next + 1, sctC 0 .nilslice false []) :: (s.next, .cells (some 9) [.str a]) :: s.heap) (s.next + 3) l (by simp [Fw.look]) K
  rw [show runI (fun j => decide (a.getD j 0 = 32)) (a.length - 0) 0 = blk a 0 from rfl] at k0
  simp only [Int.cast_ofNat_Int] at k0
  obtain ⟨_, r1⟩ := blk_le a 0 (Nat.zero_le _)
  generalize blk a 0 = i at *
  have k1 := fun n l K => kr i r1 ((s.next + 3, sctC n .nilslice false []) :: (s.next + 2, fltC 0 0) :: (s.next + 1, sctC 0 .nilslice false []) :: (s.next, .cells (some 9) [.str a]) :: s.heap) (s.next + 4) l (by simp [Fw.look]) K
  rw [show runI (fun j => decide (a.getD j 0 = 32)) (a.length - i) i = blk a i from rfl] at k1
  obtain ⟨_, r2⟩ := blk_le a i r1
  generalize blk a i = j at *
  have hSI : ∀ n : Int, SI a s.next n .nilslice [] [] { heap := (s.next + 3, sctC n .nilslice false []) :: (s.next + 2, fltC 0 0) :: (s.next + 1, sctC 0 .nilslice false []) :: (s.next, .cells (some 9) [.str a]) :: s.heap, next := s.next + 4, low := s.next } := by
    intro n
    refine ⟨Gr.nil, by simp [Fw.look], by simp [Fw.look], by simp [Fw.look], by simp [Fw.look], fun t h => (by cases h), rfl, Nat.le_refl _, by simp⟩
  obtain ⟨b, hb⟩ : ∃ b, a.getD i 0 = b := ⟨_, rfl⟩
  rw [hb]
  have f1 : decide (((b.toNat : Nat) : Int) ≠ 35) = !decide (b = 35) := by rw [← is_byte 35 b]; simp
  have b1 : (0 : Int) ≤ (i : Int) := by omega
  by_cases hA : i < a.length ∧ b ≠ 35
  case pos =>
    rw [if_pos hA]
    have d2 : decide ((i : Int) < (a.length : Int)) = true := decide_eq_true (by omega)
    have b2 : (i : Int) < (a.length : Int) := by omega
    rw [decide_eq_false hA.2] at f1
    have ki := fun st K => c29 i (by omega) st K
    have ks := fun (er : Int) st K => c26 er i (by omega) st K
    generalize indB i = x at *
    obtain ⟨n, er⟩ := x
    simp only at ki ⊢
    by_cases her : er ≠ 0
    case pos =>
      have d3 : decide (er ≠ 0) = true := decide_eq_true her
      rw [if_pos her]
      simp (config := {contextual := true, implicitDefEqProofs := false, maxSteps := 4000000}) only [go_sem, ↓reduceIte, Bool.false_eq_true, Nat.reduceEqDiff, Nat.reduceAdd, Int.reduceLE, Int.reduceLT, Int.reduceEq, Int.reduceToNat, Int.toNat_natCast, Int.cast_ofNat_Int, Int.natCast_one, Nat.reduceMod, Nat.reduceDiv, UInt8.reduceToNat, Nat.reduceLT, d1, k0, d2, b1, b2, hb, f1, ki, d3, ks]
      rfl
    have d3 : decide (er ≠ 0) = false := decide_eq_false her
    rw [if_neg her]
    simp (config := {contextual := true, implicitDefEqProofs := false, maxSteps := 4000000}) only [go_sem, ↓reduceIte, Bool.false_eq_true, Nat.reduceEqDiff, Nat.reduceAdd, Int.reduceLE, Int.reduceLT, Int.reduceEq, Int.reduceToNat, Int.toNat_natCast, Int.cast_ofNat_Int, Int.natCast_one, Nat.reduceMod, Nat.reduceDiv, UInt8.reduceToNat, Nat.reduceLT, d1, k0, d2, b1, b2, hb, f1, ki, d3, ks, k1]
    refine l15 a (by omega) s.next n _ (a.length + 1) j _ _ .nilslice [] (by omega) r2 (by simp) (hSI n) rfl rfl rfl rfl rfl rfl rfl ?_ ?_
    · intro us c hus e' st' v' h64 hS e1 e2 e3 e4 e7
      rw [hus]
      have la := hS.la
      have lb := hS.lb
      have ld := hS.ld
      have hv := hS.gr.lenv
      obtain ⟨c1, c2⟩ := gr_cells hS.gr
      obtain ⟨dr, fr⟩ := gr_dr hS
      have nab : ¬ s.next + 1 = s.next + 2 := by omega
      have nba : ¬ s.next + 2 = s.next + 1 := by omega
      have nad : ¬ s.next + 1 = s.next + 3 := by omega
      have nbd : ¬ s.next + 2 = s.next + 3 := by omega
      have ldp : ∀ x, Fw.look (s.next + 3) (put (s.next + 3) x st'.heap) = some x := fun x => look_put_self ld
      have ldq : ∀ x y, Fw.look (s.next + 3) (put (s.next + 3) y (put (s.next + 3) x st'.heap)) = some y := fun x y => look_put_self (look_put_self ld)
      have lpa : ∀ x, Fw.look (s.next + 1) (put (s.next + 1) x st'.heap) = some x := fun x => look_put_self la
      have lpb : ∀ x y, Fw.look (s.next + 2) (put (s.next + 2) y (put (s.next + 1) x st'.heap)) = some y := fun x y => look_put_self (by rw [look_put_ne nba]; exact lb)
      have lqa : ∀ z z' x, Fw.look (s.next + 1) (put (s.next + 1) x (put (s.next + 3) z (put (s.next + 3) z' st'.heap))) = some x := fun z z' x => look_put_self (by rw [look_put_ne nad, look_put_ne nad]; exact la)
      have lqb : ∀ z z' x y, Fw.look (s.next + 2) (put (s.next + 2) y (put (s.next + 1) x (put (s.next + 3) z (put (s.next + 3) z' st'.heap)))) = some y := fun z z' x y => look_put_self (by rw [look_put_ne nba, look_put_ne nbd, look_put_ne nbd]; exact lb)
      have hlw := hS.lw
      have m1 : s.next ≤ min (min st'.low (s.next + 1)) (s.next + 2) := by omega
      have m2 : s.next ≤ min (min (min (min st'.low (s.next + 3)) (s.next + 3)) (s.next + 1)) (s.next + 2) := by omega
      simp only
      by_cases h0 : us = []
      · have hn : v' = .nilslice := by have := hS.sh; rw [if_pos h0] at this; exact this
        subst h0
        subst hn
        have hl := fun H X l (hh : s.next ≤ l) K => LeaveW_tfreeA (s := s) (s' := { heap := H, next := X, low := l }) (vs := [.agg [.int .i64 n, .nilslice, .bool false, .str c], .agg [.int .i64 0, .int .i64 0, .int .i64 0]]) rfl hh K
        simp (config := {contextual := true, implicitDefEqProofs := false, maxSteps := 4000000}) only [go_sem, ↓reduceIte, Bool.false_eq_true, Nat.reduceEqDiff, Nat.reduceAdd, Int.reduceLE, Int.reduceLT, Int.reduceEq, Int.reduceToNat, Int.toNat_natCast, Int.cast_ofNat_Int, Int.natCast_one, Nat.reduceMod, Nat.reduceDiv, UInt8.reduceToNat, Nat.reduceLT, e1, e2, e3, e4, e7, la, lb, ld, look_put_ne nab, look_put_ne nba, lpa, lpb, show IntKind.i64.wrap (0 - 1) = -1 from rfl, show decide ((0 : Int) ≤ -1) = false from rfl, m1, hl]
        rfl
      obtain ⟨l, t, hlt⟩ : ∃ l t, us = l ++ [t] := by
        rcases List.eq_nil_or_concat us with h | ⟨l, t, h⟩
        · exact absurd h h0
        · exact ⟨l, t, by simpa using h⟩
      have hPt : ∃ q : Nat, q ≤ 1000 ∧ t.p = ((q + 1 : Nat) : Int) := scanL_all a (fun t => ∃ q : Nat, q ≤ 1000 ∧ t.p = ((q + 1 : Nat) : Int)) (fun t q hq => ⟨q, by omega, rfl⟩) _ _ _ _ _ r2 (fun t h => by cases h) hus t (by rw [hlt]; simp)
      obtain ⟨u, hu⟩ : ∃ u, tokOf v' = some u := by have := hS.sh; rw [if_neg h0] at this; exact this
      have hvs := tok_shape hS.gr hu
      have hlen : us.length = l.length + 1 := by rw [hlt]; simp
      have ga : us.getLastD noT = t := by rw [hlt]; simp
      have gb : us.dropLast = l := by rw [hlt]; simp
      rw [hlen] at hvs
      have s1 : sub (encTs us) (l.length * 4) 1 = some [.int .i64 t.k] := by
        subst hlt
        have := sub_tk (ts := l ++ [t]) (i := l.length) (by simp)
        simpa using this
      have s2 : sub (encTs us) (l.length * 4 + 1) 1 = some [.str t.t] := by
        subst hlt
        have := sub_tt (ts := l ++ [t]) (i := l.length) (by simp)
        simpa using this
      have hsl : sliceA 4 (.slice (encTs us) (l.length + 1) (.tok u (l.length + 1))) none (some (.int .i64 (l.length : Int))) none = some (.slice (encTs l) l.length .no) := by
        have hb : bounds (l.length + 1) none (some (.int .i64 (l.length : Int))) = some (0, l.length) := by
          simp only [bounds]
          rw [if_pos (by omega)]
          simp
        have h5 : (encTs us).take (l.length * 4) = encTs l := by
          rw [hlt, encTs_append, List.take_left' (encTs_length l)]
        simp only [sliceA]
        rw [if_pos (by rw [encTs_length, hlen]), hb]
        simp only [Option.bind_some, Nat.zero_mul, List.drop_zero, Nat.sub_zero, h5]
        rw [if_neg (by omega)]
      have h3 : l = [] → sub (encTs us) 3 1 = some [.int .i64 t.p] := by
        intro h
        subst h
        subst hlt
        rfl
      have fr' := fr
      unfold endB
      have hz : slt (true, false) us.length (encTs us) = .slice (encTs us) (l.length + 1) .no := by
        unfold slt
        rw [if_neg (fun hh => h0 (List.eq_nil_of_length_eq_zero hh.2)), hlen]
        rfl
      have hz2 : l ≠ [] → slt (true, false) l.length (encTs l) = .slice (encTs l) l.length .no := by
        intro h
        unfold slt
        rw [if_neg (fun hh => h (List.eq_nil_of_length_eq_zero hh.2))]
        rfl
      rw [ga, gb, hlen]
      obtain ⟨cs, hcs⟩ : ∃ cs, encTs us = cs := ⟨_, rfl⟩
      rw [hcs] at hvs s1 s2 hsl h3 hz
      subst hvs
      have w0 : IntKind.i64.wrap (((l.length + 1 : Nat) : Int) - 1) = (l.length : Int) := by rw [wrap_i64 (by omega) (by omega)]; omega
      have x0 : decide ((0 : Int) ≤ (l.length : Int)) = true := decide_eq_true (by omega)
      have x1 : (0 : Int) ≤ (l.length : Int) ∧ (l.length : Int) < ((l.length + 1 : Nat) : Int) := by omega
      by_cases hcol : isColon t = true
      case neg =>
        rw [if_neg (fun h => hcol h.2)]
        have hl := fun H X lo (hh : s.next ≤ lo) K => LeaveW_tfreeA (s := s) (s' := { heap := H, next := X, low := lo }) (vs := [.agg [.int .i64 n, .slice cs (l.length + 1) (.tok u (l.length + 1)), .bool false, .str c], .agg [.int .i64 0, .int .i64 0, .int .i64 0]]) (by simp only [List.all_cons, List.all_nil, AV.freeA, fr]; rfl) hh K
        unfold isColon at hcol
        cases hk : decide (t.k = 6) with
        | false =>
          simp (config := {contextual := true, implicitDefEqProofs := false, maxSteps := 4000000}) only [go_sem, ↓reduceIte, Bool.false_eq_true, Nat.reduceEqDiff, Nat.reduceAdd, Int.reduceLE, Int.reduceLT, Int.reduceEq, Int.reduceToNat, Int.toNat_natCast, Int.cast_ofNat_Int, Int.natCast_one, Nat.reduceMod, Nat.reduceDiv, UInt8.reduceToNat, Nat.reduceLT, e1, e2, e3, e4, e7, la, lb, ld, c1, c2, look_put_ne nab, look_put_ne nba, lpa, lpb, w0, x0, x1, s1, s2, hk, m1, hl]
          simp only [scO]
          rw [hcs, hz]; rfl
        | true =>
          have ht : decide (t.t = [58]) = false := by rw [hk] at hcol; simpa using hcol
          simp (config := {contextual := true, implicitDefEqProofs := false, maxSteps := 4000000}) only [go_sem, ↓reduceIte, Bool.false_eq_true, Nat.reduceEqDiff, Nat.reduceAdd, Int.reduceLE, Int.reduceLT, Int.reduceEq, Int.reduceToNat, Int.toNat_natCast, Int.cast_ofNat_Int, Int.natCast_one, Nat.reduceMod, Nat.reduceDiv, UInt8.reduceToNat, Nat.reduceLT, e1, e2, e3, e4, e7, la, lb, ld, c1, c2, look_put_ne nab, look_put_ne nba, lpa, lpb, w0, x0, x1, s1, s2, hk, ht, m1, hl]
          simp only [scO]
          rw [hcs, hz]; rfl
      unfold isColon at hcol
      have hk : decide (t.k = 6) = true := by simp only [Bool.and_eq_true] at hcol; exact hcol.1
      have ht : decide (t.t = [58]) = true := by simp only [Bool.and_eq_true] at hcol; exact hcol.2
      rw [if_pos ⟨h0, by unfold isColon; rw [hk, ht]; rfl⟩]
      by_cases hl0 : l = []
      · have x2 : decide ((l.length : Int) = 0) = true := by rw [hl0]; rfl
        have x4 : (0 : Int) < ((l.length + 1 : Nat) : Int) := by omega
        rw [if_pos (by rw [hl0]; rfl)]
        obtain ⟨q, hq1, hq2⟩ := hPt
        have h3 := h3 hl0
        rw [hq2] at h3 ⊢
        have w5 : IntKind.i64.wrap (((q + 1 : Nat) : Int) - 1) = (q : Int) := by rw [wrap_i64 (by omega) (by omega)]; omega
        have kq := fun (er : Int) st K => c26 er q (by omega) st K
        have hl := fun H X lo (hh : s.next ≤ lo) K => LeaveW_tfreeA (s := s) (s' := { heap := H, next := X, low := lo }) (vs := [.agg [.int .i64 0, .nilslice, .bool false, .str []], .agg [.int .i64 2, .int .i64 0, .int .i64 ((q + 1 : Nat) : Int)]]) rfl hh K
        simp (config := {contextual := true, implicitDefEqProofs := false, maxSteps := 4000000}) only [go_sem, ↓reduceIte, Bool.false_eq_true, Nat.reduceEqDiff, Nat.reduceAdd, Int.reduceLE, Int.reduceLT, Int.reduceEq, Int.reduceToNat, Int.toNat_natCast, Int.cast_ofNat_Int, Int.natCast_one, Nat.reduceMod, Nat.reduceDiv, UInt8.reduceToNat, Nat.reduceLT, e1, e2, e3, e4, e7, la, lb, ld, c1, c2, look_put_ne nab, look_put_ne nba, lpa, lpb, w0, x0, x1, s1, s2, hk, ht, x2, x4, Nat.zero_mul, Nat.zero_add, h3, w5, kq, m1, hl]
        rfl
      · have x2 : decide ((l.length : Int) = 0) = false := decide_eq_false (fun h => hl0 (List.eq_nil_of_length_eq_zero (by omega)))
        rw [if_neg (fun h => hl0 (List.eq_nil_of_length_eq_zero (by omega)))]
        have hl := fun H X lo (hh : s.next ≤ lo) K => LeaveW_tfreeA (s := s) (s' := { heap := H, next := X, low := lo }) (vs := [.agg [.int .i64 n, .slice (encTs l) l.length .no, .bool true, .str c], .agg [.int .i64 0, .int .i64 0, .int .i64 0]]) (by simp [AV.freeA, AV.free0, Own.free, encTs_al, AV.al]) hh K
        simp (config := {contextual := true, implicitDefEqProofs := false, maxSteps := 4000000}) only [go_sem, ↓reduceIte, Bool.false_eq_true, Nat.reduceEqDiff, Nat.reduceAdd, Int.reduceLE, Int.reduceLT, Int.reduceEq, Int.reduceToNat, Int.toNat_natCast, Int.cast_ofNat_Int, Int.natCast_one, Nat.reduceMod, Nat.reduceDiv, UInt8.reduceToNat, Nat.reduceLT, e1, e2, e3, e4, e7, la, lb, ld, c1, c2, look_put_ne nab, look_put_ne nba, look_put_ne nad, look_put_ne nbd, lpa, lpb, ldp, ldq, lqa, lqb, w0, x0, x1, s1, s2, hk, ht, x2, hsl, m1, m2, hl]
        simp only [scO]
        rw [hz2 hl0]; rfl
    · intro er k hus e' st' e2 e3 q1 q2 q3
      rw [hus]
      have hl := fun K => LeaveW_tfreeA (s := s) (s' := st') (vs := [.agg [.int .i64 0, .nilslice, .bool false, .str []], .agg [.int .i64 er, .int .i64 0, .int .i64 ((k + 1 : Nat) : Int)]]) rfl q3 K
      simp (config := {contextual := true, implicitDefEqProofs := false, maxSteps := 4000000}) only [go_sem, ↓reduceIte, Bool.false_eq_true, Nat.reduceEqDiff, Nat.reduceAdd, Int.reduceLE, Int.reduceLT, Int.reduceEq, Int.reduceToNat, Int.toNat_natCast, Int.cast_ofNat_Int, Int.natCast_one, Nat.reduceMod, Nat.reduceDiv, UInt8.reduceToNat, Nat.reduceLT, e2, e3, q1, q2, hl]
      rfl
  case neg =>
    rw [if_neg hA]
    rw [if_neg (by decide)]
    by_cases hi : i < a.length
    case pos =>
      have d2 : decide ((i : Int) < (a.length : Int)) = true := decide_eq_true (by omega)
      have b2 : (i : Int) < (a.length : Int) := by omega
      have hb35 : b = 35 := Decidable.byContradiction fun h => hA ⟨hi, h⟩
      rw [decide_eq_true hb35] at f1
      simp (config := {contextual := true, implicitDefEqProofs := false, maxSteps := 4000000}) only [go_sem, ↓reduceIte, Bool.false_eq_true, Nat.reduceEqDiff, Nat.reduceAdd, Int.reduceLE, Int.reduceLT, Int.reduceEq, Int.reduceToNat, Int.toNat_natCast, Int.cast_ofNat_Int, Int.natCast_one, Nat.reduceMod, Nat.reduceDiv, UInt8.reduceToNat, Nat.reduceLT, d1, k0, d2, b1, b2, hb, f1, k1]
      refine l15 a (by omega) s.next 0 _ (a.length + 1) j _ _ .nilslice [] (by omega) r2 (by simp) (hSI 0) rfl rfl rfl rfl rfl rfl rfl ?_ ?_
      · intro us c hus e' st' v' h64 hS e1 e2 e3 e4 e7
        rw [hus]
        have la := hS.la
        have lb := hS.lb
        have ld := hS.ld
        have hv := hS.gr.lenv
        obtain ⟨c1, c2⟩ := gr_cells hS.gr
        obtain ⟨dr, fr⟩ := gr_dr hS
        have nab : ¬ s.next + 1 = s.next + 2 := by omega
        have nba : ¬ s.next + 2 = s.next + 1 := by omega
        have nad : ¬ s.next + 1 = s.next + 3 := by omega
        have nbd : ¬ s.next + 2 = s.next + 3 := by omega
        have ldp : ∀ x, Fw.look (s.next + 3) (put (s.next + 3) x st'.heap) = some x := fun x => look_put_self ld
        have ldq : ∀ x y, Fw.look (s.next + 3) (put (s.next + 3) y (put (s.next + 3) x st'.heap)) = some y := fun x y => look_put_self (look_put_self ld)
        have lpa : ∀ x, Fw.look (s.next + 1) (put (s.next + 1) x st'.heap) = some x := fun x => look_put_self la
        have lpb : ∀ x y, Fw.look (s.next + 2) (put (s.next + 2) y (put (s.next + 1) x st'.heap)) = some y := fun x y => look_put_self (by rw [look_put_ne nba]; exact lb)
        have lqa : ∀ z z' x, Fw.look (s.next + 1) (put (s.next + 1) x (put (s.next + 3) z (put (s.next + 3) z' st'.heap))) = some x := fun z z' x => look_put_self (by rw [look_put_ne nad, look_put_ne nad]; exact la)
        have lqb : ∀ z z' x y, Fw.look (s.next + 2) (put (s.next + 2) y (put (s.next + 1) x (put (s.next + 3) z (put (s.next + 3) z' st'.heap)))) = some y := fun z z' x y => look_put_self (by rw [look_put_ne nba, look_put_ne nbd, look_put_ne nbd]; exact lb)
        have hlw := hS.lw
        have m1 : s.next ≤ min (min st'.low (s.next + 1)) (s.next + 2) := by omega
        have m2 : s.next ≤ min (min (min (min st'.low (s.next + 3)) (s.next + 3)) (s.next + 1)) (s.next + 2) := by omega
        simp only
        by_cases h0 : us = []
        · have hn : v' = .nilslice := by have := hS.sh; rw [if_pos h0] at this; exact this
          subst h0
          subst hn
          have hl := fun H X l (hh : s.next ≤ l) K => LeaveW_tfreeA (s := s) (s' := { heap := H, next := X, low := l }) (vs := [.agg [.int .i64 0, .nilslice, .bool false, .str c], .agg [.int .i64 0, .int .i64 0, .int .i64 0]]) rfl hh K
          simp (config := {contextual := true, implicitDefEqProofs := false, maxSteps := 4000000}) only [go_sem, ↓reduceIte, Bool.false_eq_true, Nat.reduceEqDiff, Nat.reduceAdd, Int.reduceLE, Int.reduceLT, Int.reduceEq, Int.reduceToNat, Int.toNat_natCast, Int.cast_ofNat_Int, Int.natCast_one, Nat.reduceMod, Nat.reduceDiv, UInt8.reduceToNat, Nat.reduceLT, e1, e2, e3, e4, e7, la, lb, ld, look_put_ne nab, look_put_ne nba, lpa, lpb, show IntKind.i64.wrap (0 - 1) = -1 from rfl, show decide ((0 : Int) ≤ -1) = false from rfl, m1, hl]
          rfl
        obtain ⟨l, t, hlt⟩ : ∃ l t, us = l ++ [t] := by
          rcases List.eq_nil_or_concat us with h | ⟨l, t, h⟩
          · exact absurd h h0
          · exact ⟨l, t, by simpa using h⟩
        have hPt : ∃ q : Nat, q ≤ 1000 ∧ t.p = ((q + 1 : Nat) : Int) := scanL_all a (fun t => ∃ q : Nat, q ≤ 1000 ∧ t.p = ((q + 1 : Nat) : Int)) (fun t q hq => ⟨q, by omega, rfl⟩) _ _ _ _ _ r2 (fun t h => by cases h) hus t (by rw [hlt]; simp)
        obtain ⟨u, hu⟩ : ∃ u, tokOf v' = some u := by have := hS.sh; rw [if_neg h0] at this; exact this
        have hvs := tok_shape hS.gr hu
        have hlen : us.length = l.length + 1 := by rw [hlt]; simp
        have ga : us.getLastD noT = t := by rw [hlt]; simp
        have gb : us.dropLast = l := by rw [hlt]; simp
        rw [hlen] at hvs
        have s1 : sub (encTs us) (l.length * 4) 1 = some [.int .i64 t.k] := by
          subst hlt
          have := sub_tk (ts := l ++ [t]) (i := l.length) (by simp)
          simpa using this
        have s2 : sub (encTs us) (l.length * 4 + 1) 1 = some [.str t.t] := by
          subst hlt
          have := sub_tt (ts := l ++ [t]) (i := l.length) (by simp)
          simpa using this
        have hsl : sliceA 4 (.slice (encTs us) (l.length + 1) (.tok u (l.length + 1))) none (some (.int .i64 (l.length : Int))) none = some (.slice (encTs l) l.length .no) := by
          have hb : bounds (l.length + 1) none (some (.int .i64 (l.length : Int))) = some (0, l.length) := by
            simp only [bounds]
            rw [if_pos (by omega)]
            simp
          have h5 : (encTs us).take (l.length * 4) = encTs l := by
            rw [hlt, encTs_append, List.take_left' (encTs_length l)]
          simp only [sliceA]
          rw [if_pos (by rw [encTs_length, hlen]), hb]
          simp only [Option.bind_some, Nat.zero_mul, List.drop_zero, Nat.sub_zero, h5]
          rw [if_neg (by omega)]
        have h3 : l = [] → sub (encTs us) 3 1 = some [.int .i64 t.p] := by
          intro h
          subst h
          subst hlt
          rfl
        have fr' := fr
        unfold endB
        have hz : slt (true, false) us.length (encTs us) = .slice (encTs us) (l.length + 1) .no := by
          unfold slt
          rw [if_neg (fun hh => h0 (List.eq_nil_of_length_eq_zero hh.2)), hlen]
          rfl
        have hz2 : l ≠ [] → slt (true, false) l.length (encTs l) = .slice (encTs l) l.length .no := by
          intro h
          unfold slt
          rw [if_neg (fun hh => h (List.eq_nil_of_length_eq_zero hh.2))]
          rfl
        rw [ga, gb, hlen]
        obtain ⟨cs, hcs⟩ : ∃ cs, encTs us = cs := ⟨_, rfl⟩
        rw [hcs] at hvs s1 s2 hsl h3 hz
        subst hvs
        have w0 : IntKind.i64.wrap (((l.length + 1 : Nat) : Int) - 1) = (l.length : Int) := by rw [wrap_i64 (by omega) (by omega)]; omega
        have x0 : decide ((0 : Int) ≤ (l.length : Int)) = true := decide_eq_true (by omega)
        have x1 : (0 : Int) ≤ (l.length : Int) ∧ (l.length : Int) < ((l.length + 1 : Nat) : Int) := by omega
        by_cases hcol : isColon t = true
        case neg =>
          rw [if_neg (fun h => hcol h.2)]
          have hl := fun H X lo (hh : s.next ≤ lo) K => LeaveW_tfreeA (s := s) (s' := { heap := H, next := X, low := lo }) (vs := [.agg [.int .i64 0, .slice cs (l.length + 1) (.tok u (l.length + 1)), .bool false, .str c], .agg [.int .i64 0, .int .i64 0, .int .i64 0]]) (by simp only [List.all_cons, List.all_nil, AV.freeA, fr]; rfl) hh K
          unfold isColon at hcol
          cases hk : decide (t.k = 6) with
          | false =>
            simp (config := {contextual := true, implicitDefEqProofs := false, maxSteps := 4000000}) only [go_sem, ↓reduceIte, Bool.false_eq_true, Nat.reduceEqDiff, Nat.reduceAdd, Int.reduceLE, Int.reduceLT, Int.reduceEq, Int.reduceToNat, Int.toNat_natCast, Int.cast_ofNat_Int, Int.natCast_one, Nat.reduceMod, Nat.reduceDiv, UInt8.reduceToNat, Nat.reduceLT, e1, e2, e3, e4, e7, la, lb, ld, c1, c2, look_put_ne nab, look_put_ne nba, lpa, lpb, w0, x0, x1, s1, s2, hk, m1, hl]
            simp only [scO]
            rw [hcs, hz]; rfl
          | true =>
            have ht : decide (t.t = [58]) = false := by rw [hk] at hcol; simpa using hcol
            simp (config := {contextual := true, implicitDefEqProofs := false, maxSteps := 4000000}) only [go_sem, ↓reduceIte, Bool.false_eq_true, Nat.reduceEqDiff, Nat.reduceAdd, Int.reduceLE, Int.reduceLT, Int.reduceEq, Int.reduceToNat, Int.toNat_natCast, Int.cast_ofNat_Int, Int.natCast_one, Nat.reduceMod, Nat.reduceDiv, UInt8.reduceToNat, Nat.reduceLT, e1, e2, e3, e4, e7, la, lb, ld, c1, c2, look_put_ne nab, look_put_ne nba, lpa, lpb, w0, x0, x1, s1, s2, hk, ht, m1, hl]
            simp only [scO]
            rw [hcs, hz]; rfl
        unfold isColon at hcol
        have hk : decide (t.k = 6) = true := by simp only [Bool.and_eq_true] at hcol; exact hcol.1
        have ht : decide (t.t = [58]) = true := by simp only [Bool.and_eq_true] at hcol; exact hcol.2
        rw [if_pos ⟨h0, by unfold isColon; rw [hk, ht]; rfl⟩]
        by_cases hl0 : l = []
        · have x2 : decide ((l.length : Int) = 0) = true := by rw [hl0]; rfl
          have x4 : (0 : Int) < ((l.length + 1 : Nat) : Int) := by omega
          rw [if_pos (by rw [hl0]; rfl)]
          obtain ⟨q, hq1, hq2⟩ := hPt
          have h3 := h3 hl0
          rw [hq2] at h3 ⊢
          have w5 : IntKind.i64.wrap (((q + 1 : Nat) : Int) - 1) = (q : Int) := by rw [wrap_i64 (by omega) (by omega)]; omega
          have kq := fun (er : Int) st K => c26 er q (by omega) st K
          have hl := fun H X lo (hh : s.next ≤ lo) K => LeaveW_tfreeA (s := s) (s' := { heap := H, next := X, low := lo }) (vs := [.agg [.int .i64 0, .nilslice, .bool false, .str []], .agg [.int .i64 2, .int .i64 0, .int .i64 ((q + 1 : Nat) : Int)]]) rfl hh K
          simp (config := {contextual := true, implicitDefEqProofs := false, maxSteps := 4000000}) only [go_sem, ↓reduceIte, Bool.false_eq_true, Nat.reduceEqDiff, Nat.reduceAdd, Int.reduceLE, Int.reduceLT, Int.reduceEq, Int.reduceToNat, Int.toNat_natCast, Int.cast_ofNat_Int, Int.natCast_one, Nat.reduceMod, Nat.reduceDiv, UInt8.reduceToNat, Nat.reduceLT, e1, e2, e3, e4, e7, la, lb, ld, c1, c2, look_put_ne nab, look_put_ne nba, lpa, lpb, w0, x0, x1, s1, s2, hk, ht, x2, x4, Nat.zero_mul, Nat.zero_add, h3, w5, kq, m1, hl]
          rfl
        · have x2 : decide ((l.length : Int) = 0) = false := decide_eq_false (fun h => hl0 (List.eq_nil_of_length_eq_zero (by omega)))
          rw [if_neg (fun h => hl0 (List.eq_nil_of_length_eq_zero (by omega)))]
          have hl := fun H X lo (hh : s.next ≤ lo) K => LeaveW_tfreeA (s := s) (s' := { heap := H, next := X, low := lo }) (vs := [.agg [.int .i64 0, .slice (encTs l) l.length .no, .bool true, .str c], .agg [.int .i64 0, .int .i64 0, .int .i64 0]]) (by simp [AV.freeA, AV.free0, Own.free, encTs_al, AV.al]) hh K
          simp (config := {contextual := true, implicitDefEqProofs := false, maxSteps := 4000000}) only [go_sem, ↓reduceIte, Bool.false_eq_true, Nat.reduceEqDiff, Nat.reduceAdd, Int.reduceLE, Int.reduceLT, Int.reduceEq, Int.reduceToNat, Int.toNat_natCast, Int.cast_ofNat_Int, Int.natCast_one, Nat.reduceMod, Nat.reduceDiv, UInt8.reduceToNat, Nat.reduceLT, e1, e2, e3, e4, e7, la, lb, ld, c1, c2, look_put_ne nab, look_put_ne nba, look_put_ne nad, look_put_ne nbd, lpa, lpb, ldp, ldq, lqa, lqb, w0, x0, x1, s1, s2, hk, ht, x2, hsl, m1, m2, hl]
          simp only [scO]
          rw [hz2 hl0]; rfl
      · intro er k hus e' st' e2 e3 q1 q2 q3
        rw [hus]
        have hl := fun K => LeaveW_tfreeA (s := s) (s' := st') (vs := [.agg [.int .i64 0, .nilslice, .bool false, .str []], .agg [.int .i64 er, .int .i64 0, .int .i64 ((k + 1 : Nat) : Int)]]) rfl q3 K
        simp (config := {contextual := true, implicitDefEqProofs := false, maxSteps := 4000000}) only [go_sem, ↓reduceIte, Bool.false_eq_true, Nat.reduceEqDiff, Nat.reduceAdd, Int.reduceLE, Int.reduceLT, Int.reduceEq, Int.reduceToNat, Int.toNat_natCast, Int.cast_ofNat_Int, Int.natCast_one, Nat.reduceMod, Nat.reduceDiv, UInt8.reduceToNat, Nat.reduceLT, e2, e3, q1, q2, hl]
        rfl
    case neg =>
      have d2 : decide ((i : Int) < (a.length : Int)) = false := decide_eq_false (by omega)
      simp (config := {contextual := true, implicitDefEqProofs := false, maxSteps := 4000000}) only [go_sem, ↓reduceIte, Bool.false_eq_true, Nat.reduceEqDiff, Nat.reduceAdd, Int.reduceLE, Int.reduceLT, Int.reduceEq, Int.reduceToNat, Int.toNat_natCast, Int.cast_ofNat_Int, Int.natCast_one, Nat.reduceMod, Nat.reduceDiv, UInt8.reduceToNat, Nat.reduceLT, d1, k0, d2, k1]
      refine l15 a (by omega) s.next 0 _ (a.length + 1) j _ _ .nilslice [] (by omega) r2 (by simp) (hSI 0) rfl rfl rfl rfl rfl rfl rfl ?_ ?_
      · intro us c hus e' st' v' h64 hS e1 e2 e3 e4 e7
        rw [hus]
        have la := hS.la
        have lb := hS.lb
        have ld := hS.ld
        have hv := hS.gr.lenv
        obtain ⟨c1, c2⟩ := gr_cells hS.gr
        obtain ⟨dr, fr⟩ := gr_dr hS
        have nab : ¬ s.next + 1 = s.next + 2 := by omega
        have nba : ¬ s.next + 2 = s.next + 1 := by omega
        have nad : ¬ s.next + 1 = s.next + 3 := by omega
        have nbd : ¬ s.next + 2 = s.next + 3 := by omega
        have ldp : ∀ x, Fw.look (s.next + 3) (put (s.next + 3) x st'.heap) = some x := fun x => look_put_self ld
        have ldq : ∀ x y, Fw.look (s.next + 3) (put (s.next + 3) y (put (s.next + 3) x st'.heap)) = some y := fun x y => look_put_self (look_put_self ld)
        have lpa : ∀ x, Fw.look (s.next + 1) (put (s.next + 1) x st'.heap) = some x := fun x => look_put_self la
        have lpb : ∀ x y, Fw.look (s.next + 2) (put (s.next + 2) y (put (s.next + 1) x st'.heap)) = some y := fun x y => look_put_self (by rw [look_put_ne nba]; exact lb)
        have lqa : ∀ z z' x, Fw.look (s.next + 1) (put (s.next + 1) x (put (s.next + 3) z (put (s.next + 3) z' st'.heap))) = some x := fun z z' x => look_put_self (by rw [look_put_ne nad, look_put_ne nad]; exact la)
        have lqb : ∀ z z' x y, Fw.look (s.next + 2) (put (s.next + 2) y (put (s.next + 1) x (put (s.next + 3) z (put (s.next + 3) z' st'.heap)))) = some y := fun z z' x y => look_put_self (by rw [look_put_ne nba, look_put_ne nbd, look_put_ne nbd]; exact lb)
        have hlw := hS.lw
        have m1 : s.next ≤ min (min st'.low (s.next + 1)) (s.next + 2) := by omega
        have m2 : s.next ≤ min (min (min (min st'.low (s.next + 3)) (s.next + 3)) (s.next + 1)) (s.next + 2) := by omega
        simp only
        by_cases h0 : us = []
        · have hn : v' = .nilslice := by have := hS.sh; rw [if_pos h0] at this; exact this
          subst h0
          subst hn
          have hl := fun H X l (hh : s.next ≤ l) K => LeaveW_tfreeA (s := s) (s' := { heap := H, next := X, low := l }) (vs := [.agg [.int .i64 0, .nilslice, .bool false, .str c], .agg [.int .i64 0, .int .i64 0, .int .i64 0]]) rfl hh K
          simp (config := {contextual := true, implicitDefEqProofs := false, maxSteps := 4000000}) only [go_sem, ↓reduceIte, Bool.false_eq_true, Nat.reduceEqDiff, Nat.reduceAdd, Int.reduceLE, Int.reduceLT, Int.reduceEq, Int.reduceToNat, Int.toNat_natCast, Int.cast_ofNat_Int, Int.natCast_one, Nat.reduceMod, Nat.reduceDiv, UInt8.reduceToNat, Nat.reduceLT, e1, e2, e3, e4, e7, la, lb, ld, look_put_ne nab, look_put_ne nba, lpa, lpb, show IntKind.i64.wrap (0 - 1) = -1 from rfl, show decide ((0 : Int) ≤ -1) = false from rfl, m1, hl]
          rfl
        obtain ⟨l, t, hlt⟩ : ∃ l t, us = l ++ [t] := by
          rcases List.eq_nil_or_concat us with h | ⟨l, t, h⟩
          · exact absurd h h0
          · exact ⟨l, t, by simpa using h⟩
        have hPt : ∃ q : Nat, q ≤ 1000 ∧ t.p = ((q + 1 : Nat) : Int) := scanL_all a (fun t => ∃ q : Nat, q ≤ 1000 ∧ t.p = ((q + 1 : Nat) : Int)) (fun t q hq => ⟨q, by omega, rfl⟩) _ _ _ _ _ r2 (fun t h => by cases h) hus t (by rw [hlt]; simp)
        obtain ⟨u, hu⟩ : ∃ u, tokOf v' = some u := by have := hS.sh; rw [if_neg h0] at this; exact this
        have hvs := tok_shape hS.gr hu
        have hlen : us.length = l.length + 1 := by rw [hlt]; simp
        have ga : us.getLastD noT = t := by rw [hlt]; simp
        have gb : us.dropLast = l := by rw [hlt]; simp
        rw [hlen] at hvs
        have s1 : sub (encTs us) (l.length * 4) 1 = some [.int .i64 t.k] := by
          subst hlt
          have := sub_tk (ts := l ++ [t]) (i := l.length) (by simp)
          simpa using this
        have s2 : sub (encTs us) (l.length * 4 + 1) 1 = some [.str t.t] := by
          subst hlt
          have := sub_tt (ts := l ++ [t]) (i := l.length) (by simp)
          simpa using this
        have hsl : sliceA 4 (.slice (encTs us) (l.length + 1) (.tok u (l.length + 1))) none (some (.int .i64 (l.length : Int))) none = some (.slice (encTs l) l.length .no) := by
          have hb : bounds (l.length + 1) none (some (.int .i64 (l.length : Int))) = some (0, l.length) := by
            simp only [bounds]
            rw [if_pos (by omega)]
            simp
          have h5 : (encTs us).take (l.length * 4) = encTs l := by
            rw [hlt, encTs_append, List.take_left' (encTs_length l)]
          simp only [sliceA]
          rw [if_pos (by rw [encTs_length, hlen]), hb]
          simp only [Option.bind_some, Nat.zero_mul, List.drop_zero, Nat.sub_zero, h5]
          rw [if_neg (by omega)]
        have h3 : l = [] → sub (encTs us) 3 1 = some [.int .i64 t.p] := by
          intro h
          subst h
          subst hlt
          rfl
        have fr' := fr
        unfold endB
        have hz : slt (true, false) us.length (encTs us) = .slice (encTs us) (l.length + 1) .no := by
          unfold slt
          rw [if_neg (fun hh => h0 (List.eq_nil_of_length_eq_zero hh.2)), hlen]
          rfl
        have hz2 : l ≠ [] → slt (true, false) l.length (encTs l) = .slice (encTs l) l.length .no := by
          intro h
          unfold slt
          rw [if_neg (fun hh => h (List.eq_nil_of_length_eq_zero hh.2))]
          rfl
        rw [ga, gb, hlen]
        obtain ⟨cs, hcs⟩ : ∃ cs, encTs us = cs := ⟨_, rfl⟩
        rw [hcs] at hvs s1 s2 hsl h3 hz
        subst hvs
        have w0 : IntKind.i64.wrap (((l.length + 1 : Nat) : Int) - 1) = (l.length : Int) := by rw [wrap_i64 (by omega) (by omega)]; omega
        have x0 : decide ((0 : Int) ≤ (l.length : Int)) = true := decide_eq_true (by omega)
        have x1 : (0 : Int) ≤ (l.length : Int) ∧ (l.length : Int) < ((l.length + 1 : Nat) : Int) := by omega
        by_cases hcol : isColon t = true
        case neg =>
          rw [if_neg (fun h => hcol h.2)]
          have hl := fun H X lo (hh : s.next ≤ lo) K => LeaveW_tfreeA (s := s) (s' := { heap := H, next := X, low := lo }) (vs := [.agg [.int .i64 0, .slice cs (l.length + 1) (.tok u (l.length + 1)), .bool false, .str c], .agg [.int .i64 0, .int .i64 0, .int .i64 0]]) (by simp only [List.all_cons, List.all_nil, AV.freeA, fr]; rfl) hh K
          unfold isColon at hcol
          cases hk : decide (t.k = 6) with
          | false =>
            simp (config := {contextual := true, implicitDefEqProofs := false, maxSteps := 4000000}) only [go_sem, ↓reduceIte, Bool.false_eq_true, Nat.reduceEqDiff, Nat.reduceAdd, Int.reduceLE, Int.reduceLT, Int.reduceEq, Int.reduceToNat, Int.toNat_natCast, Int.cast_ofNat_Int, Int.natCast_one, Nat.reduceMod, Nat.reduceDiv, UInt8.reduceToNat, Nat.reduceLT, e1, e2, e3, e4, e7, la, lb, ld, c1, c2, look_put_ne nab, look_put_ne nba, lpa, lpb, w0, x0, x1, s1, s2, hk, m1, hl]
            simp only [scO]
            rw [hcs, hz]; rfl
          | true =>
            have ht : decide (t.t = [58]) = false := by rw [hk] at hcol; simpa using hcol
            simp (config := {contextual := true, implicitDefEqProofs := false, maxSteps := 4000000}) only [go_sem, ↓reduceIte, Bool.false_eq_true, Nat.reduceEqDiff, Nat.reduceAdd, Int.reduceLE, Int.reduceLT, Int.reduceEq, Int.reduceToNat, Int.toNat_natCast, Int.cast_ofNat_Int, Int.natCast_one, Nat.reduceMod, Nat.reduceDiv, UInt8.reduceToNat, Nat.reduceLT, e1, e2, e3, e4, e7, la, lb, ld, c1, c2, look_put_ne nab, look_put_ne nba, lpa, lpb, w0, x0, x1, s1, s2, hk, ht, m1, hl]
            simp only [scO]
            rw [hcs, hz]; rfl
        unfold isColon at hcol
        have hk : decide (t.k = 6) = true := by simp only [Bool.and_eq_true] at hcol; exact hcol.1
        have ht : decide (t.t = [58]) = true := by simp only [Bool.and_eq_true] at hcol; exact hcol.2
        rw [if_pos ⟨h0, by unfold isColon; rw [hk, ht]; rfl⟩]
        by_cases hl0 : l = []
        · have x2 : decide ((l.length : Int) = 0) = true := by rw [hl0]; rfl
          have x4 : (0 : Int) < ((l.length + 1 : Nat) : Int) := by omega
          rw [if_pos (by rw [hl0]; rfl)]
          obtain ⟨q, hq1, hq2⟩ := hPt
          have h3 := h3 hl0
          rw [hq2] at h3 ⊢
          have w5 : IntKind.i64.wrap (((q + 1 : Nat) : Int) - 1) = (q : Int) := by rw [wrap_i64 (by omega) (by omega)]; omega
          have kq := fun (er : Int) st K => c26 er q (by omega) st K
          have hl := fun H X lo (hh : s.next ≤ lo) K => LeaveW_tfreeA (s := s) (s' := { heap := H, next := X, low := lo }) (vs := [.agg [.int .i64 0, .nilslice, .bool false, .str []], .agg [.int .i64 2, .int .i64 0, .int .i64 ((q + 1 : Nat) : Int)]]) rfl hh K
          simp (config := {contextual := true, implicitDefEqProofs := false, maxSteps := 4000000}) only [go_sem, ↓reduceIte, Bool.false_eq_true, Nat.reduceEqDiff, Nat.reduceAdd, Int.reduceLE, Int.reduceLT, Int.reduceEq, Int.reduceToNat, Int.toNat_natCast, Int.cast_ofNat_Int, Int.natCast_one, Nat.reduceMod, Nat.reduceDiv, UInt8.reduceToNat, Nat.reduceLT, e1, e2, e3, e4, e7, la, lb, ld, c1, c2, look_put_ne nab, look_put_ne nba, lpa, lpb, w0, x0, x1, s1, s2, hk, ht, x2, x4, Nat.zero_mul, Nat.zero_add, h3, w5, kq, m1, hl]
          rfl
        · have x2 : decide ((l.length : Int) = 0) = false := decide_eq_false (fun h => hl0 (List.eq_nil_of_length_eq_zero (by omega)))
          rw [if_neg (fun h => hl0 (List.eq_nil_of_length_eq_zero (by omega)))]
          have hl := fun H X lo (hh : s.next ≤ lo) K => LeaveW_tfreeA (s := s) (s' := { heap := H, next := X, low := lo }) (vs := [.agg [.int .i64 0, .slice (encTs l) l.length .no, .bool true, .str c], .agg [.int .i64 0, .int .i64 0, .int .i64 0]]) (by simp [AV.freeA, AV.free0, Own.free, encTs_al, AV.al]) hh K
          simp (config := {contextual := true, implicitDefEqProofs := false, maxSteps := 4000000}) only [go_sem, ↓reduceIte, Bool.false_eq_true, Nat.reduceEqDiff, Nat.reduceAdd, Int.reduceLE, Int.reduceLT, Int.reduceEq, Int.reduceToNat, Int.toNat_natCast, Int.cast_ofNat_Int, Int.natCast_one, Nat.reduceMod, Nat.reduceDiv, UInt8.reduceToNat, Nat.reduceLT, e1, e2, e3, e4, e7, la, lb, ld, c1, c2, look_put_ne nab, look_put_ne nba, look_put_ne nad, look_put_ne nbd, lpa, lpb, ldp, ldq, lqa, lqb, w0, x0, x1, s1, s2, hk, ht, x2, hsl, m1, m2, hl]
          simp only [scO]
          rw [hz2 hl0]; rfl
      · intro er k hus e' st' e2 e3 q1 q2 q3
        rw [hus]
        have hl := fun K => LeaveW_tfreeA (s := s) (s' := st') (vs := [.agg [.int .i64 0, .nilslice, .bool false, .str []], .agg [.int .i64 er, .int .i64 0, .int .i64 ((k + 1 : Nat) : Int)]]) rfl q3 K
        simp (config := {contextual := true, implicitDefEqProofs := false, maxSteps := 4000000}) only [go_sem, ↓reduceIte, Bool.false_eq_true, Nat.reduceEqDiff, Nat.reduceAdd, Int.reduceLE, Int.reduceLT, Int.reduceEq, Int.reduceToNat, Int.toNat_natCast, Int.cast_ofNat_Int, Int.natCast_one, Nat.reduceMod, Nat.reduceDiv, UInt8.reduceToNat, Nat.reduceLT, e2, e3, q1, q2, hl]
        rfl
end T18
