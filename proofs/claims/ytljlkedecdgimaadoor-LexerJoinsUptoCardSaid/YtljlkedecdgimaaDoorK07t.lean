/- Parts of the proof, one behind the other. -/
import Derived.Test.YtljlkedecdgimaaDoorK07s
import Derived.Test.YtljlkedecdgimaaDoorK07aw
import Derived.Test.YtljlkedecdgimaaDoorK07a
import Derived.Test.YtljlkedecdgimaaDoorK07au
import Derived.Test.YtljlkedecdgimaaDoorFwL
import Derived.Test.YtljlkedecdgimaaDoorK07d
import Derived.Test.YtljlkedecdgimaaDoorRows
set_option linter.unusedSimpArgs false
set_option linter.unusedVariables false
/- The law LexerSpells (all but the spelling of numbers, which is taken as a premise here). -/
namespace T07
open Go Fw Go.Proofs
set_option maxRecDepth 100000
set_option maxHeartbeats 4000000
set_option linter.unusedSimpArgs false
set_option linter.unusedVariables false
theorem c7y (h : List (Nat × AObj)) (l : Nat) (K : AV → St → Prop) : CallW cx 7 [] { heap := h, next := 1, low := l } K = K (.bool true) { heap := h, next := 1, low := l } :=
  CallW.eq ⟨1000, _, _, awake_run1 h l, rfl, rfl⟩ K
theorem law3 (t : Tok) (hp : validB t = true → t.t.length ≤ 200 → isColon t = false → scanB (spellB t) = (⟨0, [{ t with p := 1 }], false, []⟩, 0, 0)) : CallW cx 3 [tokO t] { heap := [], next := 0, low := 0 } fun v _ => v = .bool true := by
  refine CallW.fn' (fn := ir3) rfl rfl (by kernel_rfl) ir3.eq_1 ?_
  obtain ⟨k, a, n, p⟩ := t
  by_cases h1 : 200 < a.length
  · have d1 : decide ((200 : Int) < (a.length : Int)) = true := decide_eq_true (by omega)
    simp (config := {contextual := true, implicitDefEqProofs := false, maxSteps := 4000000}) only [go_sem, ↓reduceIte, Bool.false_eq_true, Nat.reduceEqDiff, Nat.reduceAdd, Int.reduceLE, Int.reduceLT, Int.reduceEq, Int.reduceToNat, Int.toNat_natCast, Int.cast_ofNat_Int, Int.natCast_one, Nat.reduceMod, Nat.reduceDiv, UInt8.reduceToNat, Nat.reduceLT, c7y, d1]
  have d1 : decide ((200 : Int) < (a.length : Int)) = false := decide_eq_false (by omega)
  have k1 := fun st K => c8 ⟨k, a, n, p⟩ (by simp only; omega) st K
  have k2 := fun st K => c9 ⟨k, a, n, p⟩ (by simp only; omega) st K
  have k3 := fun st K => c10 (spellB ⟨k, a, n, p⟩) st K
  have z1 : ∀ u : List UInt8, decide (u = u) = true := fun u => by simp
  have z2 : ∀ u : Int, decide (u = u) = true := fun u => by simp
  cases hv : validB ⟨k, a, n, p⟩ with
  | false =>
    rw [hv] at k1
    simp (config := {contextual := true, implicitDefEqProofs := false, maxSteps := 4000000}) only [go_sem, ↓reduceIte, Bool.false_eq_true, Nat.reduceEqDiff, Nat.reduceAdd, Int.reduceLE, Int.reduceLT, Int.reduceEq, Int.reduceToNat, Int.toNat_natCast, Int.cast_ofNat_Int, Int.natCast_one, Nat.reduceMod, Nat.reduceDiv, UInt8.reduceToNat, Nat.reduceLT, c7y, d1, k1]
  | true =>
  rw [hv] at k1 k2
  cases hk : decide (k = 6) with
  | true =>
    cases ht : decide (a = [58]) with
    | true => simp (config := {contextual := true, implicitDefEqProofs := false, maxSteps := 4000000}) only [go_sem, ↓reduceIte, Bool.false_eq_true, Nat.reduceEqDiff, Nat.reduceAdd, Int.reduceLE, Int.reduceLT, Int.reduceEq, Int.reduceToNat, Int.toNat_natCast, Int.cast_ofNat_Int, Int.natCast_one, Nat.reduceMod, Nat.reduceDiv, UInt8.reduceToNat, Nat.reduceLT, c7y, d1, k1, hk, ht]
    | false =>
      rw [hp hv (by simp only; omega) (by unfold isColon; rw [ht, Bool.and_false])] at k3
      have k4 : ∀ st K, CallW cx 10 [.str (spellB ⟨k, a, n, p⟩)] st K = K (.tuple [.agg [.int .i64 0, .slice [.int .i64 k, .str a, .int .i64 n, .int .i64 1] 1 .no, .bool false, .str []], .agg [.int .i64 0, .int .i64 0, .int .i64 0]]) st := k3
      clear k3 hp
      simp (config := {contextual := true, implicitDefEqProofs := false, maxSteps := 4000000}) only [go_sem, ↓reduceIte, Bool.false_eq_true, Nat.reduceEqDiff, Nat.reduceAdd, Int.reduceLE, Int.reduceLT, Int.reduceEq, Int.reduceToNat, Int.toNat_natCast, Int.cast_ofNat_Int, Int.natCast_one, Nat.reduceMod, Nat.reduceDiv, UInt8.reduceToNat, Nat.reduceLT, c7y, d1, k1, hk, ht, k2, k4, z1, z2, show ((1 : Nat) : Int) = 1 from rfl, Nat.zero_mul, Nat.zero_add]
      rw [LeaveW_flat rfl (Nat.zero_le _)]
  | false =>
    rw [hp hv (by simp only; omega) (by unfold isColon; rw [hk, Bool.false_and])] at k3
    have k4 : ∀ st K, CallW cx 10 [.str (spellB ⟨k, a, n, p⟩)] st K = K (.tuple [.agg [.int .i64 0, .slice [.int .i64 k, .str a, .int .i64 n, .int .i64 1] 1 .no, .bool false, .str []], .agg [.int .i64 0, .int .i64 0, .int .i64 0]]) st := k3
    clear k3 hp
    simp (config := {contextual := true, implicitDefEqProofs := false, maxSteps := 4000000}) only [go_sem, ↓reduceIte, Bool.false_eq_true, Nat.reduceEqDiff, Nat.reduceAdd, Int.reduceLE, Int.reduceLT, Int.reduceEq, Int.reduceToNat, Int.toNat_natCast, Int.cast_ofNat_Int, Int.natCast_one, Nat.reduceMod, Nat.reduceDiv, UInt8.reduceToNat, Nat.reduceLT, c7y, d1, k1, hk, k2, k4, z1, z2, show ((1 : Nat) : Int) = 1 from rfl, Nat.zero_mul, Nat.zero_add]
    rw [LeaveW_flat rfl (Nat.zero_le _)]
end T07

/- LexerSpells: the spelling of a possible token is scanned as this token. -/
namespace T07
open Go Fw Go.Proofs
set_option maxRecDepth 100000
theorem spell_any (t : Tok) (hv : validB t = true) : nextB (spellB t) 0 = (⟨t.k, t.t, t.n, 0⟩, (spellB t).length, 0) := by
  by_cases h2 : t.k = 2
  · obtain ⟨k, a, n, p⟩ := t
    simp only at h2
    subst h2
    unfold validB at hv
    simp only [if_true, Bool.and_eq_true, decide_eq_true_eq] at hv
    obtain ⟨rfl, h3, h4⟩ := hv
    exact num_next n p h3 h4
  · exact spell_next t hv h2
theorem spell_len (t : Tok) (hv : validB t = true) : (spellB t).length ≤ t.t.length + 300 := by
  obtain ⟨k, a, n, p⟩ := t
  unfold validB at hv
  unfold spellB
  simp only at hv ⊢
  by_cases h2 : k = 2
  · rw [if_pos h2] at hv ⊢
    simp only [Bool.and_eq_true, decide_eq_true_eq] at hv
    rw [List.length_append]
    have h3 : (if n < 0 then [45] else [] : List UInt8).length ≤ 1 := by split <;> simp
    unfold milB
    have h4 := trimS_le 46 (trimR (fun b => decide (b = 48)) ((dec (n.natAbs / 1000) ++ [46]) ++ (dec (1000 + n.natAbs % 1000)).drop 1))
    have h5 := trimR_le (fun b => decide (b = 48)) ((dec (n.natAbs / 1000) ++ [46]) ++ (dec (1000 + n.natAbs % 1000)).drop 1)
    have h6 := dec_len (n.natAbs / 1000) (by omega)
    have h7 := dec_len (1000 + n.natAbs % 1000) (by omega)
    simp only [List.length_append, List.length_drop, List.length_cons, List.length_nil] at h5
    omega
  rw [if_neg h2] at hv ⊢
  by_cases h4 : k = 4
  · rw [if_pos h4] at hv ⊢
    simp only [Bool.and_eq_true, decide_eq_true_eq] at hv
    unfold twoB
    have h6 := dec_len (100 + n.natAbs / 60) (by omega)
    have h7 := dec_len (100 + n.natAbs % 60) (by omega)
    simp only [List.length_append, List.length_drop, List.length_cons, List.length_nil]
    omega
  rw [if_neg h4]
  by_cases h3 : k = 3
  · rw [if_pos h3]
    simp only [List.length_append, List.length_cons, List.length_nil]
    omega
  rw [if_neg h3]
  omega
theorem next_nil : (nextB [] 0).2.2 = 2 := rfl
theorem spell_pos (t : Tok) (hv : validB t = true) : 0 < (spellB t).length := by
  have h := spell_any t hv
  cases hs : spellB t with
  | nil => rw [hs] at h; have := next_nil; rw [h] at this; simp at this
  | cons b l => simp
theorem spell_scan (t : Tok) (hv : validB t = true) (hl : t.t.length ≤ 200) (hc : isColon t = false) : scanB (spellB t) = (⟨0, [{ t with p := 1 }], false, []⟩, 0, 0) := by
  have h1 := spell_len t hv
  exact scan_one (spellB t) ⟨t.k, t.t, t.n, 0⟩ (spell_pos t hv) (by omega) (spell_any t hv) hc
theorem TyArg_tok {a : AV} (h : TyArg Tryd.prog 23 a) : ∃ t : Tok, a = tokO t := by
  obtain ⟨f0, cs, rfl, hf⟩ := TyArg_struct Tryd.underlying23 h
  obtain ⟨p1, q1, e1, h5, _, p2, q2, rfl, h6, _, p3, q3, rfl, h7, _, p4, q4, rfl, h8, _, rfl⟩ := hf
  rw [e1]
  obtain ⟨k, rfl, _⟩ := Ty_int Tryd.underlying3 h5
  obtain ⟨t, rfl, _⟩ := Ty_string Tryd.underlying9 h6
  obtain ⟨n, rfl, _⟩ := Ty_int Tryd.underlying2 h7
  obtain ⟨m, rfl, _⟩ := Ty_int Tryd.underlying3 h8
  exact ⟨⟨k, t, n, m⟩, rfl⟩
theorem hlaw3 (as0 : List AV) (h : TyArgs Tryd.prog Tryd.f3.params.toList as0) : ∃ k s', callF cx k 3 as0 st0 = some (.bool true, s') := by
  obtain ⟨a1, r1, rfl, h1, h6⟩ : ∃ a1 r1, as0 = a1 :: r1 ∧ TyArg Tryd.prog 23 a1 ∧ r1 = [] := h
  subst h6
  obtain ⟨t, rfl⟩ := TyArg_tok h1
  obtain ⟨k', v, s', h9, rfl⟩ := law3 t (fun hv hl hc => spell_scan t hv hl hc)
  exact ⟨k', s', h9⟩
end T07

/- Blanks and a comment behind a line change neither tokens nor faults: the plain law. -/
namespace T07
open Go Fw Go.Proofs
set_option maxRecDepth 100000
theorem run_unique (p : Nat → Bool) : ∀ (k i r : Nat), i ≤ r → r ≤ i + k → (∀ j, i ≤ j → j < r → p j = true) → (r < i + k → p r = false) → runI p k i = r
  | 0, i, r, h1, h2, _, _ => by simp only [runI]; omega
  | k + 1, i, r, h1, h2, h3, h4 => by
    simp only [runI]
    by_cases hr : r = i
    · subst hr
      rw [if_neg (by simp [h4 (by omega)])]
    · rw [if_pos (h3 i (Nat.le_refl _) (by omega))]
      exact run_unique p k (i + 1) r (by omega) (by omega) (fun j a b => h3 j (by omega) b) (fun h => h4 (by omega))
/-- Blanks, perhaps a comment. -/
def tlB (n : Nat) (o : Option (List UInt8)) : List UInt8 := List.replicate n 32 ++ (match o with | none => [] | some c => 35 :: c)
theorem tl_lt (n : Nat) (o : Option (List UInt8)) (j : Nat) (h : j < n) : (tlB n o).getD j 0 = 32 := by
  unfold tlB
  rw [getD_left _ _ _ (by rw [List.length_replicate]; exact h)]
  simp [List.getD, h]
theorem tl_at (n : Nat) (o : Option (List UInt8)) : (tlB n o).getD n 0 = (match o with | none => 0 | some _ => 35) := by
  unfold tlB
  have := getD_right (List.replicate n 32) (match o with | none => [] | some c => 35 :: c) 0
  rw [List.length_replicate, Nat.add_zero] at this
  rw [this]
  cases o <;> rfl
theorem tl_len (n : Nat) (o : Option (List UInt8)) : (tlB n o).length = n + (match o with | none => 0 | some c => c.length + 1) := by
  unfold tlB
  rw [List.length_append, List.length_replicate]
  cases o <;> rfl
theorem tl_sep (n : Nat) (o : Option (List UInt8)) : sepB (tlB n o) := by
  cases n with
  | zero =>
    unfold sepB
    rw [tl_at 0 o]
    cases o
    · exact .inl rfl
    · exact .inr (.inr rfl)
  | succ n => exact .inr (.inl (tl_lt _ o 0 (by omega)))
theorem blk_facts (a : List UInt8) (i : Nat) (h : i ≤ a.length) : (∀ j, i ≤ j → j < blk a i → a.getD j 0 = 32) ∧ (blk a i < a.length → a.getD (blk a i) 0 ≠ 32) := by
  obtain ⟨h1, h2⟩ := runI_all (fun j => (fun b => decide (b = 32)) (a.getD j 0)) (a.length - i) i
  refine ⟨fun j a1 a2 => of_decide_eq_true (h1 j a1 a2), fun h3 => of_decide_eq_false (h2 (by unfold blk runB at h3; omega))⟩
theorem blk_eq (a : List UInt8) (i r : Nat) (h1 : i ≤ r) (h2 : r ≤ a.length) (h3 : ∀ j, i ≤ j → j < r → a.getD j 0 = 32) (h4 : r < a.length → a.getD r 0 ≠ 32) : blk a i = r := by
  unfold blk runB
  exact run_unique _ _ _ _ h1 (by omega) (fun j a b => decide_eq_true (h3 j a b)) (fun h => decide_eq_false (h4 (by omega)))
theorem blk_ext (a : List UInt8) (n : Nat) (o : Option (List UInt8)) (i : Nat) (hi : i ≤ a.length) : blk (a ++ tlB n o) i = if blk a i < a.length then blk a i else a.length + n := by
  obtain ⟨h1, h2⟩ := blk_facts a i hi
  obtain ⟨h3, h4⟩ := blk_le a i hi
  have ht := tl_len n o
  split
  · rename_i h
    refine blk_eq _ _ _ h3 (by rw [List.length_append]; omega) (fun j a1 a2 => ?_) (fun _ => ?_)
    · rw [getD_left _ _ _ (by omega)]; exact h1 j a1 a2
    · rw [getD_left _ _ _ h]; exact h2 h
  · rename_i h
    refine blk_eq _ _ _ (by omega) (by rw [List.length_append]; omega) (fun j a1 a2 => ?_) (fun _ => ?_)
    · by_cases hj : j < a.length
      · rw [getD_left _ _ _ hj]; exact h1 j a1 (by omega)
      · rw [show j = a.length + (j - a.length) by omega, getD_right, tl_lt n o _ (by omega)]
    · rw [getD_right, tl_at]
      cases o with
      | none => exact (by decide : (0 : UInt8) ≠ 32)
      | some c => exact (by decide : (35 : UInt8) ≠ 32)
theorem scanL_tl (a : List UInt8) (n : Nat) (o : Option (List UInt8)) (m : Nat) (ts : List Tok) : scanL (a ++ tlB n o) (m + 1) (a.length + n) ts = .inl (ts, o.getD []) := by
  have ht := tl_len n o
  simp only [scanL]
  rw [getD_right, tl_at]
  cases o with
  | none => rw [if_pos (by rw [List.length_append, ht]; simp)]; rfl
  | some c =>
    rw [if_neg (by rw [List.length_append, ht]; simp only; omega), if_pos rfl]
    congr 2
    unfold tlB
    rw [List.drop_append, List.drop_eq_nil_of_le (by omega), List.nil_append, show a.length + n + 1 - a.length = n + 1 by omega]
    rw [List.drop_append, List.drop_eq_nil_of_le (by rw [List.length_replicate]; omega), List.nil_append, List.length_replicate, show n + 1 - n = 1 by omega]
    rfl
theorem getD_mem (a : List UInt8) (i : Nat) (h : i < a.length) : a.getD i 0 ∈ a := by
  have : a.getD i 0 = a[i] := by simp [List.getD, h]
  rw [this]; exact List.getElem_mem h
theorem scanL_ext (a : List UInt8) (n : Nat) (o : Option (List UInt8)) (ha : ∀ b ∈ a, b ≠ 35 ∧ b ≠ 34) : ∀ (k m i : Nat) (ts : List Tok), a.length < i + k → a.length < i + m → i ≤ a.length →
    scanL (a ++ tlB n o) m (if i < a.length then i else a.length + n) ts = (match scanL a k i ts with | .inl (us, _) => .inl (us, o.getD []) | .inr e => .inr e)
  | 0, m, i, ts, h1, h2, h3 => by omega
  | k + 1, 0, i, ts, h1, h2, h3 => by omega
  | k + 1, m + 1, i, ts, h1, h2, h3 => by
    by_cases hi : i < a.length
    · rw [if_pos hi]
      obtain ⟨g1, g2⟩ := ha _ (getD_mem a i hi)
      simp only [scanL]
      rw [getD_left a _ i hi, next_ext a _ (tl_sep n o) i hi g2, if_neg (by rw [List.length_append]; omega), if_neg g1, if_neg (by omega : ¬ a.length ≤ i), if_neg g1]
      split
      · rfl
      split
      · rfl
      rename_i h4
      obtain ⟨e1, e2⟩ := nextB_end a i hi (by simpa using h4)
      rw [blk_ext a n o _ e2]
      obtain ⟨b1, b2⟩ := blk_le a _ e2
      have ih := scanL_ext a n o ha k m (blk a (nextB a i).2.1) (ts ++ [{ (nextB a i).1 with p := ((i + 1 : Nat) : Int) }]) (by omega) (by omega) b2
      exact ih
    · rw [if_neg hi, scanL_tl]
      simp only [scanL]
      rw [if_pos (by omega)]
theorem scanL_err (a : List UInt8) : ∀ (k i : Nat) (ts : List Tok) (er : Int) (j : Nat), scanL a k i ts = .inr (er, j) → er ≠ 0
  | 0, i, ts, er, j, h => by simp [scanL] at h
  | k + 1, i, ts, er, j, h => by
    simp only [scanL] at h
    split at h
    · cases h
    split at h
    · cases h
    split at h
    · cases h; decide
    split at h
    · rename_i h2
      cases h
      exact h2
    · exact scanL_err a k _ _ er j h
/-- The result with another comment, if there's no fault. -/
def withC (c : List UInt8) (x : Sc × Int × Int) : Sc × Int × Int := if x.2.1 = 0 then (⟨x.1.ind, x.1.ts, x.1.head, c⟩, x.2.1, x.2.2) else x
theorem endB_com (n : Int) (ts : List Tok) (c d : List UInt8) : endB n ts c = withC c (endB n ts d) := by
  unfold endB withC
  split
  · split
    · rfl
    · rfl
  · rfl
theorem scan_ext (a : List UInt8) (n : Nat) (o : Option (List UInt8)) (ha : ∀ b ∈ a, b ≠ 35 ∧ b ≠ 34) (hl : (a ++ tlB n o).length ≤ 1000) : scanB (a ++ tlB n o) = withC (o.getD []) (scanB a) := by
  have hl2 : a.length ≤ 1000 := by rw [List.length_append] at hl; omega
  obtain ⟨b1, b2⟩ := blk_le a 0 (Nat.zero_le _)
  have ht := tl_len n o
  have hb := blk_ext a n o 0 (Nat.zero_le _)
  have hbb : blk a (blk a 0) = blk a 0 := blk_eq a _ _ (Nat.le_refl _) b2 (fun j h1 h2 => by omega) (blk_facts a 0 (Nat.zero_le _)).2
  have hf : firstI (a ++ tlB n o) = firstI a := by
    unfold firstI
    rw [hb]
    by_cases h : blk a 0 < a.length
    · rw [if_pos h, getD_left _ _ _ h, List.length_append]
      have h2 := (ha _ (getD_mem a _ h)).1
      rw [if_pos ⟨by omega, h2⟩, if_pos ⟨h, h2⟩]
    · have hr : ¬ (blk a 0 < a.length ∧ a.getD (blk a 0) 0 ≠ 35) := fun h2 => h h2.1
      rw [if_neg h, if_neg hr, getD_right, tl_at]
      cases o with
      | none => exact if_neg (fun h2 => by have := h2.1; rw [List.length_append, ht] at this; simp at this)
      | some c => exact if_neg (fun h2 => h2.2 rfl)
  have hc : blk (a ++ tlB n o) (blk (a ++ tlB n o) 0) = if blk a 0 < a.length then blk a 0 else a.length + n := by
    rw [hb]
    split
    · rename_i h
      rw [blk_ext a n o _ b2, hbb, if_pos h]
    · refine blk_eq _ _ _ (Nat.le_refl _) (by rw [List.length_append]; omega) (fun j h1 h2 => by omega) (fun _ => ?_)
      rw [getD_right, tl_at]
      cases o with
      | none => exact (by decide : (0 : UInt8) ≠ 32)
      | some c => exact (by decide : (35 : UInt8) ≠ 32)
  have hs := scanL_ext a n o ha (a.length + 1) ((a ++ tlB n o).length + 1) (blk a 0) [] (by omega) (by rw [List.length_append]; omega) b2
  have n1 : ¬ 1000 < (a ++ tlB n o).length := by omega
  have n2 : ¬ 1000 < a.length := by omega
  unfold scanB
  rw [if_neg n1, if_neg n2, hf, hc, hs, hbb]
  by_cases he : (firstI a).2 = 0
  · have hne : ¬ (firstI a).2 ≠ 0 := fun h => h he
    rw [if_neg hne, if_neg hne]
    cases h : scanL a (a.length + 1) (blk a 0) [] with
    | inl x =>
      obtain ⟨us, c⟩ := x
      exact endB_com _ _ _ _
    | inr x =>
      obtain ⟨er, j⟩ := x
      have := scanL_err a _ _ _ _ _ h
      simp only [withC]
      rw [if_neg this]
  · have hne : (firstI a).2 ≠ 0 := he
    rw [if_pos hne, if_pos hne]
    have hlt : blk a 0 < a.length := by
      unfold firstI at he
      split at he
      · rename_i h; exact h.1
      · exact absurd rfl he
    rw [hb, if_pos hlt]
    unfold withC
    rw [if_neg he]
end T07

/- Spellings with blanks between them are scanned as their tokens: the plain law. -/
namespace T07
open Go Fw Go.Proofs
set_option maxRecDepth 100000
theorem find_mem {c : UInt8} : ∀ (a : List UInt8) (i : Nat), c ∈ a → findByte c a i ≠ -1
  | [], _, h => by cases h
  | b :: l, i, h => by
    simp only [findByte]
    split
    · omega
    · rename_i hb
      rcases List.mem_cons.1 h with h | h
      · exact absurd h.symm hb
      · exact find_mem l (i + 1) h
theorem text_ext (a c : List UInt8) (h : labB a = true) : nextB ((([34] ++ a) ++ [34]) ++ c) 0 = (⟨3, a, 0, 0⟩, a.length + 2, 0) := by
  have he : (([34] ++ a) ++ [34]) ++ c = 34 :: (a ++ 34 :: c) := by simp
  rw [he]
  have hg : (34 :: (a ++ 34 :: c) : List UInt8).getD 0 0 = 34 := rfl
  have hd : (34 :: (a ++ 34 :: c) : List UInt8).drop (0 + 1) = a ++ 34 :: c := rfl
  have hp : a.all isPl = true := by unfold labB at h; simp only [Bool.and_eq_true] at h; exact h.2.2.1
  have hq : ∀ b ∈ a, b ≠ 34 := by
    unfold labB at h
    simp only [Bool.and_eq_true] at h
    have h4 := h.2.2.2.1
    intro b hb e
    subst e
    rcases findByte_spec 34 a 0 with h1 | ⟨j, h1, _⟩
    · exact find_mem a 0 hb h1
    · rw [h1] at h4
      simp at h4
  have hf : findByte 34 (a ++ 34 :: c) 0 = ((a.length : Nat) : Int) := by rw [find_mid 34 a c 0 hq, Nat.zero_add]
  have hc : cut (34 :: (a ++ 34 :: c)) ((0 + 1 : Nat) : Int) ((0 + 1 + a.length : Nat) : Int) = a := by
    unfold cut
    simp only [Int.toNat_natCast]
    rw [show 0 + 1 + a.length - (0 + 1) = a.length by omega]
    show (a ++ 34 :: c).take a.length = a
    rw [List.take_left' rfl]
  unfold nextB
  rw [hg, if_neg (by decide), if_neg (by decide), if_pos (by decide)]
  unfold textB
  rw [hd, hf]
  simp only [hc, hp, h, if_true]
  simp
theorem text_kind (a : List UInt8) (i : Nat) (h0 : a.getD i 0 = 34) (h : (nextB a i).2.2 = 0) : (nextB a i).1.k = 3 := by
  unfold nextB at h ⊢
  rw [h0] at h ⊢
  rw [if_neg (by decide), if_neg (by decide), if_pos (by decide)] at h ⊢
  unfold textB at h ⊢
  rcases findByte_spec 34 (a.drop (i + 1)) 0 with hf | ⟨n, hf, _, hn⟩
  · rw [hf] at h; cases h
  · rw [hf] at h ⊢
    simp only at h ⊢
    split at h
    · rename_i p1
      rw [if_pos p1]
      split at h
      · rename_i p2
        rw [if_pos p2]
      · cases h
    · cases h
/-- The spelling of a possible token, whatever stands behind it. -/
theorem spell_ext (t : Tok) (hv : validB t = true) (c : List UInt8) (hc : sepB c) : nextB (spellB t ++ c) 0 = (⟨t.k, t.t, t.n, 0⟩, (spellB t).length, 0) := by
  have h := spell_any t hv
  by_cases h3 : t.k = 3
  · obtain ⟨k, a, n, p⟩ := t
    simp only at h3
    subst h3
    unfold validB at hv
    simp only at hv
    rw [if_neg (by decide), if_neg (by decide), if_pos trivial] at hv
    simp only [Bool.and_eq_true, decide_eq_true_eq] at hv
    obtain ⟨rfl, hl⟩ := hv
    have hs : spellB ⟨3, a, 0, p⟩ = ([34] ++ a) ++ [34] := rfl
    rw [hs, text_ext a c hl]
    simp
  · rw [next_ext _ c hc 0 (spell_pos t hv) (fun e => h3 ?_), h]
    have := text_kind _ 0 e (by rw [h])
    rw [h] at this
    exact this
/-- So many tokens of a line are read. -/
def Read (s : List UInt8) (w : List Tok) (n : Nat) : Prop :=
  w.length = n ∧ n ≤ s.length ∧ (n = 0 → s = []) ∧ ∀ c, (n = 0 ∨ sepB c) → (0 < n → blk (s ++ c) 0 = 0) ∧ ∀ k, scanL (s ++ c) (k + n) (blk (s ++ c) 0) [] = scanL (s ++ c) k (blk (s ++ c) s.length) w
theorem Read.zero : Read [] [] 0 := ⟨rfl, Nat.le_refl _, fun _ => rfl, fun c _ => ⟨fun h => by omega, fun k => rfl⟩⟩
/-- The blanks ahead of a token. -/
def gapB (n g : Nat) : List UInt8 := if 0 < n then List.replicate g 32 else []
theorem Read.more {s : List UInt8} {w : List Tok} {n : Nat} (h : Read s w n) (hn : n < 64) (g : Nat) (hg : 0 < g) (t : Tok) (hv : validB t = true) :
    Read ((s ++ gapB n g) ++ spellB t) (w ++ [{ t with p := (((s ++ gapB n g).length + 1 : Nat) : Int) }]) (n + 1) := by
  obtain ⟨h1, h2, h3, h4⟩ := h
  have hpos := spell_pos t hv
  refine ⟨by simp [h1], by simp only [List.length_append]; omega, fun h => by omega, fun c hc => ?_⟩
  have hc : sepB c := by rcases hc with hc | hc; omega; exact hc
  have hx := spell_ext t hv c hc
  obtain ⟨q, hq⟩ : ∃ q, s ++ gapB n g = q := ⟨_, rfl⟩
  have he : ((s ++ gapB n g) ++ spellB t) ++ c = s ++ (gapB n g ++ (spellB t ++ c)) := by simp
  have he2 : ((s ++ gapB n g) ++ spellB t) ++ c = q ++ (spellB t ++ c) := by rw [hq]; simp
  have hsc : n = 0 ∨ sepB (gapB n g ++ (spellB t ++ c)) := by
    by_cases h0 : n = 0
    · exact .inl h0
    · right; right; left
      obtain ⟨g', rfl⟩ : ∃ g', g = g' + 1 := ⟨g - 1, by omega⟩
      unfold gapB
      rw [if_pos (by omega)]
      rfl
  obtain ⟨h5, h6⟩ := h4 _ hsc
  have h32 : (spellB t ++ c).getD 0 0 ≠ 32 := fun e => by rw [next_bad _ 0 (.inl e)] at hx; simp at hx
  have h35 : (spellB t ++ c).getD 0 0 ≠ 35 := fun e => by rw [next_bad _ 0 (.inr e)] at hx; simp at hx
  have hgq := getD_right q (spellB t ++ c) 0
  rw [Nat.add_zero] at hgq
  have hL : (s ++ (gapB n g ++ (spellB t ++ c))).length = q.length + (spellB t).length + c.length := by rw [← he, he2]; simp only [List.length_append]; omega
  have hbl : blk (s ++ (gapB n g ++ (spellB t ++ c))) s.length = q.length := by
    refine blk_eq _ _ _ (by rw [← hq, List.length_append]; omega) (by omega) (fun j j1 j2 => ?_) (fun _ => ?_)
    · rw [show j = s.length + (j - s.length) by omega, getD_right, getD_left _ _ _ (by rw [← hq, List.length_append] at j2; omega)]
      have j3 : j - s.length < (gapB n g).length := by rw [← hq, List.length_append] at j2; omega
      unfold gapB at j3 ⊢
      split
      · rename_i h0
        rw [if_pos h0, List.length_replicate] at j3
        simp [List.getD, j3]
      · rename_i h0
        rw [if_neg h0] at j3
        simp at j3
    · rw [← he, he2, hgq]; exact h32
  have hb0 : blk (s ++ (gapB n g ++ (spellB t ++ c))) 0 = 0 := by
    by_cases h0 : 0 < n
    · exact h5 h0
    · have hs := h3 (by omega)
      rw [hs] at hbl hq
      have hq0 : q = [] := by rw [← hq]; unfold gapB; rw [if_neg h0]; rfl
      rw [hq0] at hbl
      rw [hs]
      exact hbl
  rw [he]
  refine ⟨fun _ => hb0, fun k => ?_⟩
  rw [show k + (n + 1) = (k + 1) + n by omega, h6 (k + 1), hbl]
  have hnx := next_shift q (spellB t ++ c) 0 _ _ hx
  rw [Nat.add_zero] at hnx
  simp only [scanL]
  rw [← he, he2, hgq, hnx, if_neg (by rw [← he2, he, hL]; omega), if_neg h35, if_neg (by omega)]
  simp only [ne_eq, not_true_eq_false, if_false]
  rw [hq, List.length_append]
theorem Read.scan {s : List UInt8} {w : List Tok} {n : Nat} (h : Read s w n) (hl : s.length ≤ 1000) (hc : isColon (w.getLastD noT) = false) : scanB s = (⟨0, w, false, []⟩, 0, 0) := by
  obtain ⟨h1, h2, h3, h4⟩ := h
  obtain ⟨h5, h6⟩ := h4 [] (.inr (.inl rfl))
  rw [List.append_nil] at h5 h6
  have hb0 : blk s 0 = 0 := by
    by_cases h0 : 0 < n
    · exact h5 h0
    · rw [h3 (by omega)]; rfl
  have hi : firstI s = (0, 0) := by
    unfold firstI
    rw [hb0]
    split <;> rfl
  have h7 := h6 (s.length + 1 - n)
  rw [show s.length + 1 - n + n = s.length + 1 by omega, blk_end, hb0] at h7
  have h8 : scanL s (s.length + 1 - n) s.length w = .inl (w, []) := by
    obtain ⟨k, hk⟩ : ∃ k, s.length + 1 - n = k + 1 := ⟨s.length - n, by omega⟩
    rw [hk]
    simp only [scanL]
    rw [if_pos (Nat.le_refl _)]
  unfold scanB
  rw [if_neg (by omega), hi, hb0, hb0, h7, h8]
  simp only [ne_eq, not_true_eq_false, if_false]
  unfold endB
  rw [hc]
  simp
end T07

/- Tokens are compared. -/
namespace T07
open Go Fw Go.Proofs
set_option maxRecDepth 100000
set_option maxHeartbeats 4000000
set_option linter.unusedSimpArgs false
set_option linter.unusedVariables false
def sameT (p : Bool) (a b : Tok) : Bool := decide (a.k = b.k) && (decide (a.t = b.t) && (decide (a.n = b.n) && (!p || decide (a.p = b.p))))
def sameTs (p : Bool) : List Tok → List Tok → Bool
  | [], [] => true
  | a :: us, b :: vs => sameT p a b && sameTs p us vs
  | _, _ => false
theorem sameTs_len {p : Bool} : ∀ {us vs : List Tok}, us.length ≠ vs.length → sameTs p us vs = false
  | [], [], h => absurd rfl h
  | [], b :: vs, _ => rfl
  | a :: us, [], _ => rfl
  | a :: us, b :: vs, h => by
    simp only [sameTs]
    rw [sameTs_len (us := us) (vs := vs) (by simpa using h), Bool.and_false]
theorem sameTs_refl (p : Bool) : ∀ us : List Tok, sameTs p us us = true
  | [] => rfl
  | a :: us => by simp [sameTs, sameT, sameTs_refl p us]
theorem l11 (b1 b2 : TN) (p : Bool) (us vs : List Tok) (hlen : us.length = vs.length) (hl : us.length ≤ 4611686018427387904) (L : Nat) (Q : Sig → FE → St → Prop) : ∀ (n i : Nat) (e : FE) (st : St), i + n = us.length → st.low = L → L ≤ st.next → e 0 = slt b1 us.length (encTs us) → e 1 = slt b2 us.length (encTs vs) → e 2 = .bool p → e 7 = .int .i64 (i : Int) →
    (sameTs p (us.drop i) (vs.drop i) = true → ∀ e' st', st'.low = L → Q (.exit 0) e' st') → (sameTs p (us.drop i) (vs.drop i) = false → ∀ e' st', st'.low = L → e' 6 = .bool false → Q .ret e' st') → WLoop cx ir11L0 e st Q
  | 0, i, e, st, hi, hL, hLn, h0, h1, h2, h7, hA, hB => by
    refine WLoop.rnd (c := _) ir11L0.eq_1 ?_
    have hd : decide ((i : Int) < (us.length : Int)) = false := decide_eq_false (by omega)
    rw [List.drop_eq_nil_of_le (by omega), List.drop_eq_nil_of_le (by omega)] at hA
    simp (config := {contextual := true, implicitDefEqProofs := false, maxSteps := 4000000}) only [go_sem, ↓reduceIte, Bool.false_eq_true, Nat.reduceEqDiff, Nat.reduceAdd, Int.reduceLE, Int.reduceLT, Int.reduceEq, Int.reduceToNat, Int.toNat_natCast, Int.cast_ofNat_Int, Int.natCast_one, Nat.reduceMod, Nat.reduceDiv, UInt8.reduceToNat, Nat.reduceLT, h0, h1, h2, h7, hd]
    exact hA rfl _ _ hL
  | n + 1, i, e, st, hi, hL, hLn, h0, h1, h2, h7, hA, hB => by
    refine WLoop.rnd (c := _) ir11L0.eq_1 ?_
    have hd : decide ((i : Int) < (us.length : Int)) = true := decide_eq_true (by omega)
    have hin : (0 : Int) ≤ (i : Int) ∧ (i : Int) < (us.length : Int) := by omega
    have hlt : i < us.length := by omega
    have hlt2 : i < vs.length := by omega
    have hw := wrap_one (i := i) (by omega)
    rw [List.drop_eq_getElem_cons hlt, List.drop_eq_getElem_cons hlt2] at hA hB
    simp only [sameTs] at hA hB
    have hmin : min st.low st.next = st.low := by omega
    have hmin2 : min st.low (st.next + 1) = st.low := by omega
    have ih := fun e st a b c d x1 x2 x3 => l11 b1 b2 p us vs hlen hl L Q n (i + 1) e st (by omega) a b c d x1 x2 x3
    have sA := sub_tok hlt
    have sB := sub_tok hlt2
    obtain ⟨a, ha⟩ : ∃ a, us[i] = a := ⟨_, rfl⟩
    obtain ⟨b, hb⟩ : ∃ a, vs[i] = a := ⟨_, rfl⟩
    rw [ha] at sA hA hB
    rw [hb] at sB hA hB
    have hin2 : (0 : Int) ≤ (i : Int) ∧ (i : Int) < (us.length : Int) := hin
    have hminL : min (min st.low st.next) (st.next + 1) = st.low := by omega
    by_cases k1 : a.k = b.k
    case neg =>
      have hx : sameT p a b = false := by unfold sameT; rw [decide_eq_false k1]; rfl
      rw [hx, Bool.false_and] at hB
      cases p
      · simp (config := {contextual := true, implicitDefEqProofs := false, maxSteps := 4000000}) only [go_sem, ↓reduceIte, Bool.false_eq_true, Nat.reduceEqDiff, Nat.reduceAdd, Int.reduceLE, Int.reduceLT, Int.reduceEq, Int.reduceToNat, Int.toNat_natCast, Int.cast_ofNat_Int, Int.natCast_one, Nat.reduceMod, Nat.reduceDiv, UInt8.reduceToNat, Nat.reduceLT, h0, h1, h2, h7, hd, hin, hin2, sA, sB, hw, hmin, hmin2, hminL, k1]
        exact hB rfl _ _ hL rfl
      · simp (config := {contextual := true, implicitDefEqProofs := false, maxSteps := 4000000}) only [go_sem, ↓reduceIte, Bool.false_eq_true, Nat.reduceEqDiff, Nat.reduceAdd, Int.reduceLE, Int.reduceLT, Int.reduceEq, Int.reduceToNat, Int.toNat_natCast, Int.cast_ofNat_Int, Int.natCast_one, Nat.reduceMod, Nat.reduceDiv, UInt8.reduceToNat, Nat.reduceLT, h0, h1, h2, h7, hd, hin, hin2, sA, sB, hw, hmin, hmin2, hminL, k1]
        exact hB rfl _ _ hL rfl
    by_cases k2 : a.t = b.t
    case neg =>
      have hx : sameT p a b = false := by unfold sameT; rw [decide_eq_false k2, Bool.false_and, Bool.and_false]
      rw [hx, Bool.false_and] at hB
      cases p
      · simp (config := {contextual := true, implicitDefEqProofs := false, maxSteps := 4000000}) only [go_sem, ↓reduceIte, Bool.false_eq_true, Nat.reduceEqDiff, Nat.reduceAdd, Int.reduceLE, Int.reduceLT, Int.reduceEq, Int.reduceToNat, Int.toNat_natCast, Int.cast_ofNat_Int, Int.natCast_one, Nat.reduceMod, Nat.reduceDiv, UInt8.reduceToNat, Nat.reduceLT, h0, h1, h2, h7, hd, hin, hin2, sA, sB, hw, hmin, hmin2, hminL, k1, k2]
        exact hB rfl _ _ hL rfl
      · simp (config := {contextual := true, implicitDefEqProofs := false, maxSteps := 4000000}) only [go_sem, ↓reduceIte, Bool.false_eq_true, Nat.reduceEqDiff, Nat.reduceAdd, Int.reduceLE, Int.reduceLT, Int.reduceEq, Int.reduceToNat, Int.toNat_natCast, Int.cast_ofNat_Int, Int.natCast_one, Nat.reduceMod, Nat.reduceDiv, UInt8.reduceToNat, Nat.reduceLT, h0, h1, h2, h7, hd, hin, hin2, sA, sB, hw, hmin, hmin2, hminL, k1, k2]
        exact hB rfl _ _ hL rfl
    by_cases k3 : a.n = b.n
    case neg =>
      have hx : sameT p a b = false := by unfold sameT; rw [decide_eq_false k3, Bool.false_and, Bool.and_false, Bool.and_false]
      rw [hx, Bool.false_and] at hB
      cases p
      · simp (config := {contextual := true, implicitDefEqProofs := false, maxSteps := 4000000}) only [go_sem, ↓reduceIte, Bool.false_eq_true, Nat.reduceEqDiff, Nat.reduceAdd, Int.reduceLE, Int.reduceLT, Int.reduceEq, Int.reduceToNat, Int.toNat_natCast, Int.cast_ofNat_Int, Int.natCast_one, Nat.reduceMod, Nat.reduceDiv, UInt8.reduceToNat, Nat.reduceLT, h0, h1, h2, h7, hd, hin, hin2, sA, sB, hw, hmin, hmin2, hminL, k1, k2, k3]
        exact hB rfl _ _ hL rfl
      · simp (config := {contextual := true, implicitDefEqProofs := false, maxSteps := 4000000}) only [go_sem, ↓reduceIte, Bool.false_eq_true, Nat.reduceEqDiff, Nat.reduceAdd, Int.reduceLE, Int.reduceLT, Int.reduceEq, Int.reduceToNat, Int.toNat_natCast, Int.cast_ofNat_Int, Int.natCast_one, Nat.reduceMod, Nat.reduceDiv, UInt8.reduceToNat, Nat.reduceLT, h0, h1, h2, h7, hd, hin, hin2, sA, sB, hw, hmin, hmin2, hminL, k1, k2, k3]
        exact hB rfl _ _ hL rfl
    cases p with
    | false =>
      have hx : sameT false a b = true := by unfold sameT; rw [decide_eq_true k1, decide_eq_true k2, decide_eq_true k3]; rfl
      rw [hx, Bool.true_and] at hA hB
      simp (config := {contextual := true, implicitDefEqProofs := false, maxSteps := 4000000}) only [go_sem, ↓reduceIte, Bool.false_eq_true, Nat.reduceEqDiff, Nat.reduceAdd, Int.reduceLE, Int.reduceLT, Int.reduceEq, Int.reduceToNat, Int.toNat_natCast, Int.cast_ofNat_Int, Int.natCast_one, Nat.reduceMod, Nat.reduceDiv, UInt8.reduceToNat, Nat.reduceLT, h0, h1, h2, h7, hd, hin, hin2, sA, sB, hw, hmin, hmin2, hminL, k1, k2, k3]
      exact ih _ _ hL (by simp only; omega) h0 h1 h2 rfl hA hB
    | true =>
      by_cases k4 : a.p = b.p
      case neg =>
        have hx : sameT true a b = false := by unfold sameT; rw [decide_eq_false k4]; simp
        rw [hx, Bool.false_and] at hB
        simp (config := {contextual := true, implicitDefEqProofs := false, maxSteps := 4000000}) only [go_sem, ↓reduceIte, Bool.false_eq_true, Nat.reduceEqDiff, Nat.reduceAdd, Int.reduceLE, Int.reduceLT, Int.reduceEq, Int.reduceToNat, Int.toNat_natCast, Int.cast_ofNat_Int, Int.natCast_one, Nat.reduceMod, Nat.reduceDiv, UInt8.reduceToNat, Nat.reduceLT, h0, h1, h2, h7, hd, hin, hin2, sA, sB, hw, hmin, hmin2, hminL, k1, k2, k3, k4]
        exact hB rfl _ _ hL rfl
      case pos =>
        have hx : sameT true a b = true := by unfold sameT; rw [decide_eq_true k1, decide_eq_true k2, decide_eq_true k3, decide_eq_true k4]; rfl
        rw [hx, Bool.true_and] at hA hB
        simp (config := {contextual := true, implicitDefEqProofs := false, maxSteps := 4000000}) only [go_sem, ↓reduceIte, Bool.false_eq_true, Nat.reduceEqDiff, Nat.reduceAdd, Int.reduceLE, Int.reduceLT, Int.reduceEq, Int.reduceToNat, Int.toNat_natCast, Int.cast_ofNat_Int, Int.natCast_one, Nat.reduceMod, Nat.reduceDiv, UInt8.reduceToNat, Nat.reduceLT, h0, h1, h2, h7, hd, hin, hin2, sA, sB, hw, hmin, hmin2, hminL, k1, k2, k3, k4]
        exact ih _ _ hL (by simp only; omega) h0 h1 h2 rfl hA hB
theorem c11 (b1 b2 : TN) (p : Bool) (us vs : List Tok) (hl : us.length ≤ 4611686018427387904) (s : St) (K : AV → St → Prop) : CallW cx 11 [slt b1 us.length (encTs us), slt b2 vs.length (encTs vs), .bool p] s K = K (.bool (sameTs p us vs)) s := by
  refine CallW.eq (CallW.fn' (fn := ir11) rfl rfl (by kernel_rfl) ir11.eq_1 ?_) K
  by_cases hlen : us.length = vs.length
  · have hx : decide ((us.length : Int) ≠ (vs.length : Int)) = false := decide_eq_false (by omega)
    have hz : (slt b2 vs.length (encTs vs)) = slt b2 us.length (encTs vs) := by rw [hlen]
    rw [hz] at *
    rw [hlen] at hx
    simp (config := {contextual := true, implicitDefEqProofs := false, maxSteps := 4000000}) only [go_sem, ↓reduceIte, Bool.false_eq_true, Nat.reduceEqDiff, Nat.reduceAdd, Int.reduceLE, Int.reduceLT, Int.reduceEq, Int.reduceToNat, Int.toNat_natCast, Int.cast_ofNat_Int, Int.natCast_one, Nat.reduceMod, Nat.reduceDiv, UInt8.reduceToNat, Nat.reduceLT, hx, hlen]
    rw [← hlen]
    refine l11 b1 b2 p us vs hlen hl s.next _ us.length 0 _ _ (by omega) rfl (by simp only; omega) rfl rfl rfl rfl ?_ ?_
    · intro h e' st' hL
      rw [List.drop_zero, List.drop_zero] at h
      simp (config := {contextual := true, implicitDefEqProofs := false, maxSteps := 4000000}) only [go_sem, ↓reduceIte, Bool.false_eq_true, Nat.reduceEqDiff, Nat.reduceAdd, Int.reduceLE, Int.reduceLT, Int.reduceEq, Int.reduceToNat, Int.toNat_natCast, Int.cast_ofNat_Int, Int.natCast_one, Nat.reduceMod, Nat.reduceDiv, UInt8.reduceToNat, Nat.reduceLT, h, hL]
    · intro h e' st' hL h6
      rw [List.drop_zero, List.drop_zero] at h
      simp (config := {contextual := true, implicitDefEqProofs := false, maxSteps := 4000000}) only [go_sem, ↓reduceIte, Bool.false_eq_true, Nat.reduceEqDiff, Nat.reduceAdd, Int.reduceLE, Int.reduceLT, Int.reduceEq, Int.reduceToNat, Int.toNat_natCast, Int.cast_ofNat_Int, Int.natCast_one, Nat.reduceMod, Nat.reduceDiv, UInt8.reduceToNat, Nat.reduceLT, h, hL, h6]
  · have hx : decide ((us.length : Int) ≠ (vs.length : Int)) = true := decide_eq_true (by omega)
    rw [sameTs_len hlen]
    simp (config := {contextual := true, implicitDefEqProofs := false, maxSteps := 4000000}) only [go_sem, ↓reduceIte, Bool.false_eq_true, Nat.reduceEqDiff, Nat.reduceAdd, Int.reduceLE, Int.reduceLT, Int.reduceEq, Int.reduceToNat, Int.toNat_natCast, Int.cast_ofNat_Int, Int.natCast_one, Nat.reduceMod, Nat.reduceDiv, UInt8.reduceToNat, Nat.reduceLT, hx]
end T07

/- Tokens are compared: the second list has any owner. -/
namespace T07
open Go Fw Go.Proofs
set_option maxRecDepth 100000
set_option maxHeartbeats 4000000
set_option linter.unusedSimpArgs false
set_option linter.unusedVariables false
theorem l11o (b1 : TN) (b2 : Own) (p : Bool) (us vs : List Tok) (hlen : us.length = vs.length) (hl : us.length ≤ 4611686018427387904) (L : Nat) (Q : Sig → FE → St → Prop) : ∀ (n i : Nat) (e : FE) (st : St), i + n = us.length → st.low = L → L ≤ st.next → e 0 = slt b1 us.length (encTs us) → e 1 = .slice (encTs vs) us.length b2 → e 2 = .bool p → e 7 = .int .i64 (i : Int) →
    (sameTs p (us.drop i) (vs.drop i) = true → ∀ e' st', st'.low = L → Q (.exit 0) e' st') → (sameTs p (us.drop i) (vs.drop i) = false → ∀ e' st', st'.low = L → e' 6 = .bool false → Q .ret e' st') → WLoop cx ir11L0 e st Q
  | 0, i, e, st, hi, hL, hLn, h0, h1, h2, h7, hA, hB => by
    refine WLoop.rnd (c := _) ir11L0.eq_1 ?_
    have hd : decide ((i : Int) < (us.length : Int)) = false := decide_eq_false (by omega)
    rw [List.drop_eq_nil_of_le (by omega), List.drop_eq_nil_of_le (by omega)] at hA
    simp (config := {contextual := true, implicitDefEqProofs := false, maxSteps := 4000000}) only [go_sem, ↓reduceIte, Bool.false_eq_true, Nat.reduceEqDiff, Nat.reduceAdd, Int.reduceLE, Int.reduceLT, Int.reduceEq, Int.reduceToNat, Int.toNat_natCast, Int.cast_ofNat_Int, Int.natCast_one, Nat.reduceMod, Nat.reduceDiv, UInt8.reduceToNat, Nat.reduceLT, h0, h1, h2, h7, hd]
    exact hA rfl _ _ hL
  | n + 1, i, e, st, hi, hL, hLn, h0, h1, h2, h7, hA, hB => by
    refine WLoop.rnd (c := _) ir11L0.eq_1 ?_
    have hd : decide ((i : Int) < (us.length : Int)) = true := decide_eq_true (by omega)
    have hin : (0 : Int) ≤ (i : Int) ∧ (i : Int) < (us.length : Int) := by omega
    have hlt : i < us.length := by omega
    have hlt2 : i < vs.length := by omega
    have hw := wrap_one (i := i) (by omega)
    rw [List.drop_eq_getElem_cons hlt, List.drop_eq_getElem_cons hlt2] at hA hB
    simp only [sameTs] at hA hB
    have hmin : min st.low st.next = st.low := by omega
    have hmin2 : min st.low (st.next + 1) = st.low := by omega
    have ih := fun e st a b c d x1 x2 x3 => l11o b1 b2 p us vs hlen hl L Q n (i + 1) e st (by omega) a b c d x1 x2 x3
    have sA := sub_tok hlt
    have sB := sub_tok hlt2
    obtain ⟨a, ha⟩ : ∃ a, us[i] = a := ⟨_, rfl⟩
    obtain ⟨b, hb⟩ : ∃ a, vs[i] = a := ⟨_, rfl⟩
    rw [ha] at sA hA hB
    rw [hb] at sB hA hB
    have hin2 : (0 : Int) ≤ (i : Int) ∧ (i : Int) < (us.length : Int) := hin
    have hminL : min (min st.low st.next) (st.next + 1) = st.low := by omega
    by_cases k1 : a.k = b.k
    case neg =>
      have hx : sameT p a b = false := by unfold sameT; rw [decide_eq_false k1]; rfl
      rw [hx, Bool.false_and] at hB
      cases p
      · simp (config := {contextual := true, implicitDefEqProofs := false, maxSteps := 4000000}) only [go_sem, ↓reduceIte, Bool.false_eq_true, Nat.reduceEqDiff, Nat.reduceAdd, Int.reduceLE, Int.reduceLT, Int.reduceEq, Int.reduceToNat, Int.toNat_natCast, Int.cast_ofNat_Int, Int.natCast_one, Nat.reduceMod, Nat.reduceDiv, UInt8.reduceToNat, Nat.reduceLT, h0, h1, h2, h7, hd, hin, hin2, sA, sB, hw, hmin, hmin2, hminL, k1]
        exact hB rfl _ _ hL rfl
      · simp (config := {contextual := true, implicitDefEqProofs := false, maxSteps := 4000000}) only [go_sem, ↓reduceIte, Bool.false_eq_true, Nat.reduceEqDiff, Nat.reduceAdd, Int.reduceLE, Int.reduceLT, Int.reduceEq, Int.reduceToNat, Int.toNat_natCast, Int.cast_ofNat_Int, Int.natCast_one, Nat.reduceMod, Nat.reduceDiv, UInt8.reduceToNat, Nat.reduceLT, h0, h1, h2, h7, hd, hin, hin2, sA, sB, hw, hmin, hmin2, hminL, k1]
        exact hB rfl _ _ hL rfl
    by_cases k2 : a.t = b.t
    case neg =>
      have hx : sameT p a b = false := by unfold sameT; rw [decide_eq_false k2, Bool.false_and, Bool.and_false]
      rw [hx, Bool.false_and] at hB
      cases p
      · simp (config := {contextual := true, implicitDefEqProofs := false, maxSteps := 4000000}) only [go_sem, ↓reduceIte, Bool.false_eq_true, Nat.reduceEqDiff, Nat.reduceAdd, Int.reduceLE, Int.reduceLT, Int.reduceEq, Int.reduceToNat, Int.toNat_natCast, Int.cast_ofNat_Int, Int.natCast_one, Nat.reduceMod, Nat.reduceDiv, UInt8.reduceToNat, Nat.reduceLT, h0, h1, h2, h7, hd, hin, hin2, sA, sB, hw, hmin, hmin2, hminL, k1, k2]
        exact hB rfl _ _ hL rfl
      · simp (config := {contextual := true, implicitDefEqProofs := false, maxSteps := 4000000}) only [go_sem, ↓reduceIte, Bool.false_eq_true, Nat.reduceEqDiff, Nat.reduceAdd, Int.reduceLE, Int.reduceLT, Int.reduceEq, Int.reduceToNat, Int.toNat_natCast, Int.cast_ofNat_Int, Int.natCast_one, Nat.reduceMod, Nat.reduceDiv, UInt8.reduceToNat, Nat.reduceLT, h0, h1, h2, h7, hd, hin, hin2, sA, sB, hw, hmin, hmin2, hminL, k1, k2]
        exact hB rfl _ _ hL rfl
    by_cases k3 : a.n = b.n
    case neg =>
      have hx : sameT p a b = false := by unfold sameT; rw [decide_eq_false k3, Bool.false_and, Bool.and_false, Bool.and_false]
      rw [hx, Bool.false_and] at hB
      cases p
      · simp (config := {contextual := true, implicitDefEqProofs := false, maxSteps := 4000000}) only [go_sem, ↓reduceIte, Bool.false_eq_true, Nat.reduceEqDiff, Nat.reduceAdd, Int.reduceLE, Int.reduceLT, Int.reduceEq, Int.reduceToNat, Int.toNat_natCast, Int.cast_ofNat_Int, Int.natCast_one, Nat.reduceMod, Nat.reduceDiv, UInt8.reduceToNat, Nat.reduceLT, h0, h1, h2, h7, hd, hin, hin2, sA, sB, hw, hmin, hmin2, hminL, k1, k2, k3]
        exact hB rfl _ _ hL rfl
      · simp (config := {contextual := true, implicitDefEqProofs := false, maxSteps := 4000000}) only [go_sem, ↓reduceIte, Bool.false_eq_true, Nat.reduceEqDiff, Nat.reduceAdd, Int.reduceLE, Int.reduceLT, Int.reduceEq, Int.reduceToNat, Int.toNat_natCast, Int.cast_ofNat_Int, Int.natCast_one, Nat.reduceMod, Nat.reduceDiv, UInt8.reduceToNat, Nat.reduceLT, h0, h1, h2, h7, hd, hin, hin2, sA, sB, hw, hmin, hmin2, hminL, k1, k2, k3]
        exact hB rfl _ _ hL rfl
    cases p with
    | false =>
      have hx : sameT false a b = true := by unfold sameT; rw [decide_eq_true k1, decide_eq_true k2, decide_eq_true k3]; rfl
      rw [hx, Bool.true_and] at hA hB
      simp (config := {contextual := true, implicitDefEqProofs := false, maxSteps := 4000000}) only [go_sem, ↓reduceIte, Bool.false_eq_true, Nat.reduceEqDiff, Nat.reduceAdd, Int.reduceLE, Int.reduceLT, Int.reduceEq, Int.reduceToNat, Int.toNat_natCast, Int.cast_ofNat_Int, Int.natCast_one, Nat.reduceMod, Nat.reduceDiv, UInt8.reduceToNat, Nat.reduceLT, h0, h1, h2, h7, hd, hin, hin2, sA, sB, hw, hmin, hmin2, hminL, k1, k2, k3]
      exact ih _ _ hL (by simp only; omega) h0 h1 h2 rfl hA hB
    | true =>
      by_cases k4 : a.p = b.p
      case neg =>
        have hx : sameT true a b = false := by unfold sameT; rw [decide_eq_false k4]; simp
        rw [hx, Bool.false_and] at hB
        simp (config := {contextual := true, implicitDefEqProofs := false, maxSteps := 4000000}) only [go_sem, ↓reduceIte, Bool.false_eq_true, Nat.reduceEqDiff, Nat.reduceAdd, Int.reduceLE, Int.reduceLT, Int.reduceEq, Int.reduceToNat, Int.toNat_natCast, Int.cast_ofNat_Int, Int.natCast_one, Nat.reduceMod, Nat.reduceDiv, UInt8.reduceToNat, Nat.reduceLT, h0, h1, h2, h7, hd, hin, hin2, sA, sB, hw, hmin, hmin2, hminL, k1, k2, k3, k4]
        exact hB rfl _ _ hL rfl
      case pos =>
        have hx : sameT true a b = true := by unfold sameT; rw [decide_eq_true k1, decide_eq_true k2, decide_eq_true k3, decide_eq_true k4]; rfl
        rw [hx, Bool.true_and] at hA hB
        simp (config := {contextual := true, implicitDefEqProofs := false, maxSteps := 4000000}) only [go_sem, ↓reduceIte, Bool.false_eq_true, Nat.reduceEqDiff, Nat.reduceAdd, Int.reduceLE, Int.reduceLT, Int.reduceEq, Int.reduceToNat, Int.toNat_natCast, Int.cast_ofNat_Int, Int.natCast_one, Nat.reduceMod, Nat.reduceDiv, UInt8.reduceToNat, Nat.reduceLT, h0, h1, h2, h7, hd, hin, hin2, sA, sB, hw, hmin, hmin2, hminL, k1, k2, k3, k4]
        exact ih _ _ hL (by simp only; omega) h0 h1 h2 rfl hA hB
theorem c11o (b1 : TN) (b2 : Own) (p : Bool) (us vs : List Tok) (hl : us.length ≤ 4611686018427387904) (s : St) (K : AV → St → Prop) : CallW cx 11 [slt b1 us.length (encTs us), .slice (encTs vs) vs.length b2, .bool p] s K = K (.bool (sameTs p us vs)) s := by
  refine CallW.eq (CallW.fn' (fn := ir11) rfl rfl (by kernel_rfl) ir11.eq_1 ?_) K
  by_cases hlen : us.length = vs.length
  · have hx : decide ((us.length : Int) ≠ (vs.length : Int)) = false := decide_eq_false (by omega)
    have hz : (AV.slice (encTs vs) vs.length b2) = AV.slice (encTs vs) us.length b2 := by rw [hlen]
    rw [hz] at *
    rw [hlen] at hx
    simp (config := {contextual := true, implicitDefEqProofs := false, maxSteps := 4000000}) only [go_sem, ↓reduceIte, Bool.false_eq_true, Nat.reduceEqDiff, Nat.reduceAdd, Int.reduceLE, Int.reduceLT, Int.reduceEq, Int.reduceToNat, Int.toNat_natCast, Int.cast_ofNat_Int, Int.natCast_one, Nat.reduceMod, Nat.reduceDiv, UInt8.reduceToNat, Nat.reduceLT, hx, hlen]
    rw [← hlen]
    refine l11o b1 b2 p us vs hlen hl s.next _ us.length 0 _ _ (by omega) rfl (by simp only; omega) rfl rfl rfl rfl ?_ ?_
    · intro h e' st' hL
      rw [List.drop_zero, List.drop_zero] at h
      simp (config := {contextual := true, implicitDefEqProofs := false, maxSteps := 4000000}) only [go_sem, ↓reduceIte, Bool.false_eq_true, Nat.reduceEqDiff, Nat.reduceAdd, Int.reduceLE, Int.reduceLT, Int.reduceEq, Int.reduceToNat, Int.toNat_natCast, Int.cast_ofNat_Int, Int.natCast_one, Nat.reduceMod, Nat.reduceDiv, UInt8.reduceToNat, Nat.reduceLT, h, hL]
    · intro h e' st' hL h6
      rw [List.drop_zero, List.drop_zero] at h
      simp (config := {contextual := true, implicitDefEqProofs := false, maxSteps := 4000000}) only [go_sem, ↓reduceIte, Bool.false_eq_true, Nat.reduceEqDiff, Nat.reduceAdd, Int.reduceLE, Int.reduceLT, Int.reduceEq, Int.reduceToNat, Int.toNat_natCast, Int.cast_ofNat_Int, Int.natCast_one, Nat.reduceMod, Nat.reduceDiv, UInt8.reduceToNat, Nat.reduceLT, h, hL, h6]
  · have hx : decide ((us.length : Int) ≠ (vs.length : Int)) = true := decide_eq_true (by omega)
    rw [sameTs_len hlen]
    simp (config := {contextual := true, implicitDefEqProofs := false, maxSteps := 4000000}) only [go_sem, ↓reduceIte, Bool.false_eq_true, Nat.reduceEqDiff, Nat.reduceAdd, Int.reduceLE, Int.reduceLT, Int.reduceEq, Int.reduceToNat, Int.toNat_natCast, Int.cast_ofNat_Int, Int.natCast_one, Nat.reduceMod, Nat.reduceDiv, UInt8.reduceToNat, Nat.reduceLT, hx]
end T07

/- The law LexerJoins: its loops. -/
namespace T07
open Go Fw Go.Proofs
set_option maxRecDepth 100000
set_option maxHeartbeats 4000000
set_option linter.unusedSimpArgs false
set_option linter.unusedVariables false
theorem c7w (h : List (Nat × AObj)) (l : Nat) (K : AV → St → Prop) : CallW cx 7 [] { heap := h, next := 0, low := l } K = K (.bool true) { heap := h, next := 0, low := l } :=
  CallW.eq ⟨1000, _, _, awake_run0 h l, rfl, rfl⟩ K
theorem l4a (x : AV) (s : List UInt8) (hl : s.length ≤ 100000) (g i : Nat) (hg : g ≤ 3) (v y : AV) (st : St) (Q : Sig → FE → St → Prop) :
    ∀ (m k : Nat) (e : FE), k + m = (if 0 < i then g else 0) → e 0 = x → e 1 = .int .i64 (g : Int) → e 5 = .str (s ++ List.replicate k 32) → e 6 = v → e 7 = .int .i64 (i : Int) → e 8 = y → e 10 = .int .i64 (k : Int) →
    (∀ e', e' 0 = x → e' 1 = .int .i64 (g : Int) → e' 5 = .str (s ++ gapB i g) → e' 6 = v → e' 7 = .int .i64 (i : Int) → e' 8 = y → Q (.exit 2) e' st) → WLoop cx ir4L0 e st Q
  | 0, k, e, hk, h0, h1, h5, h6, h7, h8, h10, hQ => by
    refine WLoop.rnd (c := _) ir4L0.eq_1 ?_
    by_cases hi : 0 < i
    · rw [if_pos hi] at hk
      have hd : decide ((k : Int) < (g : Int)) = false := decide_eq_false (by omega)
      simp (config := {contextual := true, implicitDefEqProofs := false, maxSteps := 4000000}) only [go_sem, ↓reduceIte, Bool.false_eq_true, Nat.reduceEqDiff, Nat.reduceAdd, Int.reduceLE, Int.reduceLT, Int.reduceEq, Int.reduceToNat, Int.toNat_natCast, Int.cast_ofNat_Int, Int.natCast_one, Nat.reduceMod, Nat.reduceDiv, UInt8.reduceToNat, Nat.reduceLT, h1, h10, hd]
      refine hQ _ h0 h1 ?_ h6 h7 h8
      unfold gapB
      rw [if_pos hi, ← hk, Nat.add_zero]; exact h5
    · rw [if_neg hi] at hk
      have hk0 : k = 0 := by omega
      subst hk0
      have d2 : decide ((0 : Int) < (i : Int)) = false := decide_eq_false (by omega)
      have hq : ∀ e', e' 0 = x → e' 1 = .int .i64 (g : Int) → e' 5 = .str (s ++ List.replicate 0 32) → e' 6 = v → e' 7 = .int .i64 (i : Int) → e' 8 = y → Q (.exit 2) e' st := fun e' a0 a1 a5 a6 a7 a8 => hQ e' a0 a1 (by unfold gapB; rw [if_neg hi]; exact a5) a6 a7 a8
      by_cases hg0 : 0 < g
      · have hd : decide ((0 : Int) < (g : Int)) = true := decide_eq_true (by omega)
        simp (config := {contextual := true, implicitDefEqProofs := false, maxSteps := 4000000}) only [go_sem, ↓reduceIte, Bool.false_eq_true, Nat.reduceEqDiff, Nat.reduceAdd, Int.reduceLE, Int.reduceLT, Int.reduceEq, Int.reduceToNat, Int.toNat_natCast, Int.cast_ofNat_Int, Int.natCast_one, Nat.reduceMod, Nat.reduceDiv, UInt8.reduceToNat, Nat.reduceLT, h1, h10, hd, h7, d2]
        exact hq _ h0 h1 h5 h6 h7 h8
      · have hd : decide ((0 : Int) < (g : Int)) = false := decide_eq_false (by omega)
        simp (config := {contextual := true, implicitDefEqProofs := false, maxSteps := 4000000}) only [go_sem, ↓reduceIte, Bool.false_eq_true, Nat.reduceEqDiff, Nat.reduceAdd, Int.reduceLE, Int.reduceLT, Int.reduceEq, Int.reduceToNat, Int.toNat_natCast, Int.cast_ofNat_Int, Int.natCast_one, Nat.reduceMod, Nat.reduceDiv, UInt8.reduceToNat, Nat.reduceLT, h1, h10, hd]
        exact hq _ h0 h1 h5 h6 h7 h8
  | m + 1, k, e, hk, h0, h1, h5, h6, h7, h8, h10, hQ => by
    refine WLoop.rnd (c := _) ir4L0.eq_1 ?_
    have hi : 0 < i := by
      rcases Nat.eq_zero_or_pos i with h | h
      · rw [h] at hk; simp at hk
      · exact h
    have hk2 := hk
    rw [if_pos hi] at hk2
    have hd : decide ((k : Int) < (g : Int)) = true := decide_eq_true (by omega)
    have d2 : decide ((0 : Int) < (i : Int)) = true := decide_eq_true (by omega)
    have hw := wrap_one (i := k) (by omega)
    have g1 : (s ++ List.replicate k 32 : List UInt8).length + 1 ≤ 9223372036854775807 := by rw [List.length_append, List.length_replicate]; omega
    have g2 : (s ++ List.replicate k 32 : List UInt8) ++ [32] = s ++ List.replicate (k + 1) 32 := by rw [List.append_assoc, ← List.replicate_succ']
    obtain ⟨z, hz⟩ : ∃ z, (s ++ List.replicate k 32 : List UInt8) = z := ⟨_, rfl⟩
    rw [hz] at g1 g2 h5
    simp (config := {contextual := true, implicitDefEqProofs := false, maxSteps := 4000000}) only [go_sem, ↓reduceIte, Bool.false_eq_true, Nat.reduceEqDiff, Nat.reduceAdd, Int.reduceLE, Int.reduceLT, Int.reduceEq, Int.reduceToNat, Int.toNat_natCast, Int.cast_ofNat_Int, Int.natCast_one, Nat.reduceMod, Nat.reduceDiv, UInt8.reduceToNat, Nat.reduceLT, h1, h10, hd, h7, d2, h5, g1, hw, List.length_cons, List.length_nil, Nat.zero_add]
    rw [g2]
    exact l4a x s hl g i hg v y st Q m (k + 1) _ (by omega) h0 h1 rfl h6 h7 h8 rfl hQ
def kt (t : Tok) : Int × List UInt8 := (t.k, t.t)
theorem take_kt {ls : List Tok} {i : Nat} (h : i < ls.length) : (ls.take (i + 1)).map kt = (ls.take i).map kt ++ [kt ls[i]] := by
  rw [List.take_add_one, List.getElem?_eq_getElem h, List.map_append]; rfl
/-- What is joined so far. -/
structure JI (g : Nat) (ls : List Tok) (L i : Nat) (s : List UInt8) (w : List Tok) (v : AV) (st : St) : Prop where
  rd : Read s w i
  gr : G2 23 4 0 0 L st v .nilslice (encTs w) w.length [] 0
  sh : w ≠ [] → ∃ t, tokOf v = some t
  sf : w = [] → v = .slice [] 0 .full
  sl : s.length ≤ i * 63
  kt : w.map kt = (ls.take i).map kt
theorem l4b (b : TN) (ls : List Tok) (h20 : ls.length ≤ 20) (hz : ∀ t ∈ ls, t.t.length ≤ 1100000) (g : Nat) (hg : 0 < g) (hg3 : g ≤ 3) (L : Nat) (Q : Sig → FE → St → Prop) :
    ∀ (m i : Nat) (e : FE) (st : St) (s : List UInt8) (w : List Tok) (v : AV), i + m = ls.length → JI g ls L i s w v st → e 0 = slt b ls.length (encTs ls) → e 1 = .int .i64 (g : Int) → e 5 = .str s → e 6 = v → e 7 = .int .i64 (i : Int) →
    (∀ e' st', L ≤ st'.low → e' 4 = .bool true → Q .ret e' st') → (∀ e' st' s' w' v', JI g ls L ls.length s' w' v' st' → e' 0 = slt b ls.length (encTs ls) → e' 5 = .str s' → e' 6 = v' → Q (.exit 0) e' st') → WLoop cx ir4L1 e st Q
  | 0, i, e, st, s, w, v, hi, hJ, h0, h1, h5, h6, h7, hR, hQ => by
    refine WLoop.rnd (c := _) ir4L1.eq_1 ?_
    have hd : decide ((i : Int) < (ls.length : Int)) = false := decide_eq_false (by omega)
    have hl := hJ.gr.low
    simp (config := {contextual := true, implicitDefEqProofs := false, maxSteps := 4000000}) only [go_sem, ↓reduceIte, Bool.false_eq_true, Nat.reduceEqDiff, Nat.reduceAdd, Int.reduceLE, Int.reduceLT, Int.reduceEq, Int.reduceToNat, Int.toNat_natCast, Int.cast_ofNat_Int, Int.natCast_one, Nat.reduceMod, Nat.reduceDiv, UInt8.reduceToNat, Nat.reduceLT, h0, h7, hd]
    have : i = ls.length := by omega
    subst this
    exact hQ _ _ s w v hJ h0 h5 h6
  | m + 1, i, e, st, s, w, v, hi, hJ, h0, h1, h5, h6, h7, hR, hQ => by
    refine WLoop.rnd (c := _) ir4L1.eq_1 ?_
    have hd : decide ((i : Int) < (ls.length : Int)) = true := decide_eq_true (by omega)
    have hw := wrap_one (i := i) (by omega)
    have b1 : (0 : Int) ≤ (i : Int) ∧ (i : Int) < (ls.length : Int) := by omega
    have hlt : i < ls.length := by omega
    have s1 := sub_tok hlt
    have hx := hz _ (List.getElem_mem hlt)
    have htk := take_kt hlt
    obtain ⟨t, ht⟩ : ∃ t, ls[i] = t := ⟨_, rfl⟩
    rw [ht] at s1 hx htk
    have ks := fun st K => c9 t hx st K
    have o1 : decide ((1 : Int) ≠ 0) = true := rfl
    have o0 : decide ((0 : Int) ≠ 0) = false := rfl
    cases hv : validB t with
    | false =>
      rw [hv] at ks
      simp (config := {contextual := true, implicitDefEqProofs := false, maxSteps := 4000000}) only [go_sem, ↓reduceIte, Bool.false_eq_true, Nat.reduceEqDiff, Nat.reduceAdd, Int.reduceLE, Int.reduceLT, Int.reduceEq, Int.reduceToNat, Int.toNat_natCast, Int.cast_ofNat_Int, Int.natCast_one, Nat.reduceMod, Nat.reduceDiv, UInt8.reduceToNat, Nat.reduceLT, h0, h7, hd, b1, s1, ks, o1]
      exact hR _ _ hJ.gr.low rfl
    | true =>
    rw [hv] at ks
    by_cases h60 : 60 < (spellB t).length
    · have d2 : decide ((60 : Int) < ((spellB t).length : Int)) = true := decide_eq_true (by omega)
      simp (config := {contextual := true, implicitDefEqProofs := false, maxSteps := 4000000}) only [go_sem, ↓reduceIte, Bool.false_eq_true, Nat.reduceEqDiff, Nat.reduceAdd, Int.reduceLE, Int.reduceLT, Int.reduceEq, Int.reduceToNat, Int.toNat_natCast, Int.cast_ofNat_Int, Int.natCast_one, Nat.reduceMod, Nat.reduceDiv, UInt8.reduceToNat, Nat.reduceLT, h0, h7, hd, b1, s1, ks, d2, o0]
      exact hR _ _ hJ.gr.low rfl
    have d2 : decide ((60 : Int) < ((spellB t).length : Int)) = false := decide_eq_false (by omega)
    simp (config := {contextual := true, implicitDefEqProofs := false, maxSteps := 4000000}) only [go_sem, ↓reduceIte, Bool.false_eq_true, Nat.reduceEqDiff, Nat.reduceAdd, Int.reduceLE, Int.reduceLT, Int.reduceEq, Int.reduceToNat, Int.toNat_natCast, Int.cast_ofNat_Int, Int.natCast_one, Nat.reduceMod, Nat.reduceDiv, UInt8.reduceToNat, Nat.reduceLT, h0, h7, hd, b1, s1, ks, d2, o0]
    refine l4a _ s (by have := hJ.sl; omega) g i hg3 v _ _ _ (if 0 < i then g else 0) 0 _ (by omega) h0 h1 (show e 5 = .str (s ++ List.replicate 0 32) by rw [h5]; simp) h6 h7 rfl rfl ?_
    intro e1 h0 h1 h5 h6 h7 h8
    have hrd := hJ.rd.more (by omega) g hg t hv
    have hgl : (gapB i g).length ≤ 3 := by unfold gapB; split <;> simp [hg3]
    have hsl := hJ.sl
    have hql : (s ++ gapB i g).length ≤ i * 63 + 3 := by rw [List.length_append]; omega
    obtain ⟨q, hq⟩ : ∃ q, s ++ gapB i g = q := ⟨_, rfl⟩
    rw [hq] at hrd hql h5
    have w1 := wrap_one (i := q.length) (by omega)
    have hlown := hJ.gr.lown
    have hlow := hJ.gr.low
    have hmin : min (min st.low st.next) st.next = st.low := by omega
    have hmin2 : min st.low st.next = st.low := by omega
    have g1 : q.length + (spellB t).length ≤ 9223372036854775807 := by omega
    have hwl := hJ.rd.1
    obtain ⟨v', st', ap, G', lw, _, ps, tk, nx⟩ := (hJ.gr.alloc (.cells (some 23) [.int .i64 t.k, .str t.t, .int .i64 t.n, .int .i64 ((q.length + 1 : Nat) : Int)])).app1 (bytes := 40) (k := 1) (y := .slice [.int .i64 t.k, .str t.t, .int .i64 t.n, .int .i64 ((q.length + 1 : Nat) : Int)] 1 .full) (new := encT { t with p := ((q.length + 1 : Nat) : Int) }) (by simp [cellsOf, encT]) rfl rfl rfl (Nat.le_trans (show (w.length + 1) * 40 ≤ 2600 by omega) (by decide))
    rw [show (encT { t with p := ((q.length + 1 : Nat) : Int) }).map AV.strip = encT { t with p := ((q.length + 1 : Nat) : Int) } from rfl, show encTs w ++ encT { t with p := ((q.length + 1 : Nat) : Int) } = encTs (w ++ [{ t with p := ((q.length + 1 : Nat) : Int) }]) by rw [encTs_append]; simp [encTs]] at G'
    have hl1 : (w ++ [{ t with p := ((q.length + 1 : Nat) : Int) }]).length = w.length + 1 := by simp
    rw [← hl1] at G'
    simp (config := {contextual := true, implicitDefEqProofs := false, maxSteps := 4000000}) only [go_sem, ↓reduceIte, Bool.false_eq_true, Nat.reduceEqDiff, Nat.reduceAdd, Int.reduceLE, Int.reduceLT, Int.reduceEq, Int.reduceToNat, Int.toNat_natCast, Int.cast_ofNat_Int, Int.natCast_one, Nat.reduceMod, Nat.reduceDiv, UInt8.reduceToNat, Nat.reduceLT, h0, h5, h6, h7, h8, b1, s1, w1, hmin, hmin2, ap, g1, hw]
    refine l4b b ls h20 hz g hg hg3 L Q m (i + 1) _ st' (q ++ spellB t) (w ++ [{ t with p := ((q.length + 1 : Nat) : Int) }]) v' (by omega) ⟨hrd, G', fun _ => tk (by decide), fun h => by simp at h, ?_, ?_⟩ h0 h1 rfl rfl rfl hR hQ
    · rw [List.length_append]; omega
    · rw [htk, List.map_append, hJ.kt]; rfl
end T07

/- LexerJoins returns true for all lists of tokens (of texts that are not longer than a bound). -/
namespace T07
open Go Fw Go.Proofs
set_option maxRecDepth 100000
set_option maxHeartbeats 4000000
set_option linter.unusedSimpArgs false
set_option linter.unusedVariables false
theorem last_kt {w ls : List Tok} (h : w.map kt = ls.map kt) : isColon (w.getLastD noT) = isColon (ls.getLastD noT) := by
  rcases List.eq_nil_or_concat w with hw | ⟨w', x, hw⟩
  · subst hw
    have : ls = [] := by simpa using h.symm
    rw [this]
  · rcases List.eq_nil_or_concat ls with hl | ⟨l', y, hl⟩
    · subst hl; subst hw; simp at h
    · rw [hw, hl] at h ⊢
      simp only [List.concat_eq_append, List.map_append, List.map_cons, List.map_nil] at h ⊢
      have h2 := (List.append_inj' h rfl).2
      simp only [List.cons.injEq, and_true] at h2
      rw [List.getLastD_concat, List.getLastD_concat]
      unfold kt at h2
      simp only [Prod.mk.injEq] at h2
      unfold isColon
      rw [h2.1, h2.2]
theorem law4 (b : TN) (ls : List Tok) (hz : ∀ t ∈ ls, t.t.length ≤ 1100000) (x : Int) : CallW cx 4 [slt b ls.length (encTs ls), .int .i64 x] { heap := [], next := 0, low := 0 } fun v _ => v = .bool true := by
  refine CallW.fn' (fn := ir4) rfl rfl (by kernel_rfl) ir4.eq_1 ?_
  by_cases h1 : 20 < ls.length
  · have d1 : decide ((20 : Int) < (ls.length : Int)) = true := decide_eq_true (by omega)
    simp (config := {contextual := true, implicitDefEqProofs := false, maxSteps := 4000000}) only [go_sem, ↓reduceIte, Bool.false_eq_true, Nat.reduceEqDiff, Nat.reduceAdd, Int.reduceLE, Int.reduceLT, Int.reduceEq, Int.reduceToNat, Int.toNat_natCast, Int.cast_ofNat_Int, Int.natCast_one, Nat.reduceMod, Nat.reduceDiv, UInt8.reduceToNat, Nat.reduceLT, c7w, d1]
  have d1 : decide ((20 : Int) < (ls.length : Int)) = false := decide_eq_false (by omega)
  by_cases h2 : x < 1
  · have d2 : decide (x < 1) = true := decide_eq_true h2
    simp (config := {contextual := true, implicitDefEqProofs := false, maxSteps := 4000000}) only [go_sem, ↓reduceIte, Bool.false_eq_true, Nat.reduceEqDiff, Nat.reduceAdd, Int.reduceLE, Int.reduceLT, Int.reduceEq, Int.reduceToNat, Int.toNat_natCast, Int.cast_ofNat_Int, Int.natCast_one, Nat.reduceMod, Nat.reduceDiv, UInt8.reduceToNat, Nat.reduceLT, c7w, d1, d2]
  have d2 : decide (x < 1) = false := decide_eq_false h2
  by_cases h3 : 3 < x
  · have d3 : decide (3 < x) = true := decide_eq_true h3
    simp (config := {contextual := true, implicitDefEqProofs := false, maxSteps := 4000000}) only [go_sem, ↓reduceIte, Bool.false_eq_true, Nat.reduceEqDiff, Nat.reduceAdd, Int.reduceLE, Int.reduceLT, Int.reduceEq, Int.reduceToNat, Int.toNat_natCast, Int.cast_ofNat_Int, Int.natCast_one, Nat.reduceMod, Nat.reduceDiv, UInt8.reduceToNat, Nat.reduceLT, c7w, d1, d2, d3]
  have d3 : decide (3 < x) = false := decide_eq_false h3
  obtain ⟨g, rfl⟩ : ∃ g : Nat, x = (g : Int) := ⟨x.toNat, by omega⟩
  simp (config := {contextual := true, implicitDefEqProofs := false, maxSteps := 4000000}) only [go_sem, ↓reduceIte, Bool.false_eq_true, Nat.reduceEqDiff, Nat.reduceAdd, Int.reduceLE, Int.reduceLT, Int.reduceEq, Int.reduceToNat, Int.toNat_natCast, Int.cast_ofNat_Int, Int.natCast_one, Nat.reduceMod, Nat.reduceDiv, UInt8.reduceToNat, Nat.reduceLT, c7w, d1, d2, d3]
  refine l4b b ls (by omega) hz g (by omega) (by omega) 0 _ ls.length 0 _ _ [] [] (.slice [] 0 .full) (by omega) ⟨Read.zero, ⟨Gr.full rfl, Gr.nil, fun t h => (by cases h), fun t h => (by cases h), fun t h => (by cases h), Nat.le_refl _, Nat.le_refl _⟩, fun h => absurd rfl h, fun _ => rfl, Nat.le_refl _, rfl⟩ rfl rfl rfl rfl rfl ?_ ?_
  · intro e' st' hl h4
    simp (config := {contextual := true, implicitDefEqProofs := false, maxSteps := 4000000}) only [go_sem, ↓reduceIte, Bool.false_eq_true, Nat.reduceEqDiff, Nat.reduceAdd, Int.reduceLE, Int.reduceLT, Int.reduceEq, Int.reduceToNat, Int.toNat_natCast, Int.cast_ofNat_Int, Int.natCast_one, Nat.reduceMod, Nat.reduceDiv, UInt8.reduceToNat, Nat.reduceLT, h4]
    rw [LeaveW_flat rfl (Nat.zero_le _)]
  intro e' st' s w v hJ h0 h5 h6
  have hk := hJ.kt
  rw [List.take_length] at hk
  have hlk := last_kt hk
  have hgo : isColon (ls.getLastD noT) = false → s.length ≤ 1000 → scanB s = (⟨0, w, false, []⟩, 0, 0) := fun hc hl => hJ.rd.scan hl (by rw [hlk]; exact hc)
  obtain ⟨o, ho⟩ : ∃ o : Own, v = .slice (encTs w) w.length o := by
    by_cases hw : w = []
    · exact ⟨.full, by rw [hJ.sf hw, hw]; rfl⟩
    · obtain ⟨t, ht⟩ := hJ.sh hw
      exact ⟨_, tok_shape hJ.gr.a ht⟩
  rw [ho] at h6
  have hlow := hJ.gr.low
  have hnx := hJ.gr.lown
  have k1 := fun st K => c10 s st K
  have hwl := hJ.rd.1
  have kt2 := fun st K => c11o (true, false) o true w w (by omega) st K
  rw [sameTs_refl] at kt2
  have hmid : isColon (ls.getLastD noT) = false → ∀ (e : FE), True := fun _ _ => trivial
  rcases List.eq_nil_or_concat ls with hls | ⟨l', y, hls⟩
  · subst hls
    have hs0 : s.length = 0 := by have := hJ.sl; rw [List.length_nil, Nat.zero_mul] at this; omega
    have d4 : decide ((1000 : Int) < (s.length : Int)) = false := decide_eq_false (by omega)
    have hsc := hgo rfl (by omega)
    rw [hsc] at k1
    have k1' : ∀ st K, CallW cx 10 [.str s] st K = K (.tuple [.agg [.int .i64 0, slt (true, false) w.length (encTs w), .bool false, .str []], .agg [.int .i64 0, .int .i64 0, .int .i64 0]]) st := k1
    clear k1
    simp (config := {contextual := true, implicitDefEqProofs := false, maxSteps := 4000000}) only [go_sem, ↓reduceIte, Bool.false_eq_true, Nat.reduceEqDiff, Nat.reduceAdd, Int.reduceLE, Int.reduceLT, Int.reduceEq, Int.reduceToNat, Int.toNat_natCast, Int.cast_ofNat_Int, Int.natCast_one, Nat.reduceMod, Nat.reduceDiv, UInt8.reduceToNat, Nat.reduceLT, h0, h5, h6, d4, k1', kt2, List.length_nil]
    rw [LeaveW_flat rfl (Nat.zero_le _)]
  · rw [List.concat_eq_append] at hls
    have hlen : ls.length = l'.length + 1 := by rw [hls]; simp
    obtain ⟨n, hn⟩ : ∃ n, l'.length = n := ⟨_, rfl⟩
    rw [hn] at hlen
    have hlt : n < ls.length := by omega
    have hy : ls[n] = y := by subst hls; subst hn; simp
    have s1 := sub_tk hlt
    have s2 := sub_tt hlt
    rw [hy] at s1 s2
    have hcol : isColon (ls.getLastD noT) = isColon y := by rw [hls, List.getLastD_concat]
    have b0 : decide ((0 : Int) < (ls.length : Int)) = true := decide_eq_true (by omega)
    have w1 : IntKind.i64.wrap ((ls.length : Int) - 1) = (n : Int) := by rw [wrap_i64 (by omega) (by omega)]; omega
    have b1 : (0 : Int) ≤ (n : Int) ∧ (n : Int) < (ls.length : Int) := by omega
    rw [hcol] at hgo
    unfold isColon at hgo
    have z1 : ∀ u : Int, decide (u = u) = true := fun u => by simp
    have main : (decide (y.k = 6) && decide (y.t = [58])) = false → s.length ≤ 1000 → ∀ st K, CallW cx 10 [.str s] st K = K (.tuple [.agg [.int .i64 0, slt (true, false) w.length (encTs w), .bool false, .str []], .agg [.int .i64 0, .int .i64 0, .int .i64 0]]) st := by
      intro hc hl st K
      rw [k1 st K, hgo hc hl]
    clear k1
    cases e1 : decide (y.k = 6) with
    | true =>
      cases e2 : decide (y.t = [58]) with
      | true =>
        simp (config := {contextual := true, implicitDefEqProofs := false, maxSteps := 4000000}) only [go_sem, ↓reduceIte, Bool.false_eq_true, Nat.reduceEqDiff, Nat.reduceAdd, Int.reduceLE, Int.reduceLT, Int.reduceEq, Int.reduceToNat, Int.toNat_natCast, Int.cast_ofNat_Int, Int.natCast_one, Nat.reduceMod, Nat.reduceDiv, UInt8.reduceToNat, Nat.reduceLT, h0, h5, h6, b0, w1, b1, s1, s2, e1, e2]
        rw [LeaveW_flat rfl (Nat.zero_le _)]
      | false =>
        rw [e1, e2] at main
        by_cases hl : 1000 < s.length
        · have d4 : decide ((1000 : Int) < (s.length : Int)) = true := decide_eq_true (by omega)
          simp (config := {contextual := true, implicitDefEqProofs := false, maxSteps := 4000000}) only [go_sem, ↓reduceIte, Bool.false_eq_true, Nat.reduceEqDiff, Nat.reduceAdd, Int.reduceLE, Int.reduceLT, Int.reduceEq, Int.reduceToNat, Int.toNat_natCast, Int.cast_ofNat_Int, Int.natCast_one, Nat.reduceMod, Nat.reduceDiv, UInt8.reduceToNat, Nat.reduceLT, h0, h5, h6, b0, w1, b1, s1, s2, e1, e2, d4]
          rw [LeaveW_flat rfl (Nat.zero_le _)]
        · have d4 : decide ((1000 : Int) < (s.length : Int)) = false := decide_eq_false (by omega)
          have k1' := main rfl (by omega)
          simp (config := {contextual := true, implicitDefEqProofs := false, maxSteps := 4000000}) only [go_sem, ↓reduceIte, Bool.false_eq_true, Nat.reduceEqDiff, Nat.reduceAdd, Int.reduceLE, Int.reduceLT, Int.reduceEq, Int.reduceToNat, Int.toNat_natCast, Int.cast_ofNat_Int, Int.natCast_one, Nat.reduceMod, Nat.reduceDiv, UInt8.reduceToNat, Nat.reduceLT, h0, h5, h6, b0, w1, b1, s1, s2, e1, e2, d4, k1', kt2]
          rw [LeaveW_flat rfl (Nat.zero_le _)]
    | false =>
      rw [e1] at main
      by_cases hl : 1000 < s.length
      · have d4 : decide ((1000 : Int) < (s.length : Int)) = true := decide_eq_true (by omega)
        simp (config := {contextual := true, implicitDefEqProofs := false, maxSteps := 4000000}) only [go_sem, ↓reduceIte, Bool.false_eq_true, Nat.reduceEqDiff, Nat.reduceAdd, Int.reduceLE, Int.reduceLT, Int.reduceEq, Int.reduceToNat, Int.toNat_natCast, Int.cast_ofNat_Int, Int.natCast_one, Nat.reduceMod, Nat.reduceDiv, UInt8.reduceToNat, Nat.reduceLT, h0, h5, h6, b0, w1, b1, s1, s2, e1, d4]
        rw [LeaveW_flat rfl (Nat.zero_le _)]
      · have d4 : decide ((1000 : Int) < (s.length : Int)) = false := decide_eq_false (by omega)
        have k1' := main rfl (by omega)
        simp (config := {contextual := true, implicitDefEqProofs := false, maxSteps := 4000000}) only [go_sem, ↓reduceIte, Bool.false_eq_true, Nat.reduceEqDiff, Nat.reduceAdd, Int.reduceLE, Int.reduceLT, Int.reduceEq, Int.reduceToNat, Int.toNat_natCast, Int.cast_ofNat_Int, Int.natCast_one, Nat.reduceMod, Nat.reduceDiv, UInt8.reduceToNat, Nat.reduceLT, h0, h5, h6, b0, w1, b1, s1, s2, e1, d4, k1', kt2]
        rw [LeaveW_flat rfl (Nat.zero_le _)]
end T07

/- LexerJoins for all arguments of a bulk at most. -/
namespace T07
open Go Fw Go.Proofs
set_option maxRecDepth 100000
theorem short_toks {B : Nat} : ∀ {ls : List Tok}, shortAll B (encTs ls) = true → ∀ t ∈ ls, t.t.length ≤ B
  | [], _, t, h => by cases h
  | x :: ls, h, t, ht => by
    simp only [encTs, encT, List.cons_append, List.nil_append, shortAll, shortA, Bool.and_eq_true, decide_eq_true_eq] at h
    rcases List.mem_cons.1 ht with rfl | ht
    · exact h.2.1
    · exact short_toks h.2.2.2.2 t ht
theorem short_slt {B : Nat} {b : TN} {ls : List Tok} (h : shortA B (slt b ls.length (encTs ls)) = true) : ∀ t ∈ ls, t.t.length ≤ B := by
  unfold slt at h
  split at h
  · rename_i h2
    have : ls = [] := List.eq_nil_of_length_eq_zero h2.2
    subst this
    intro t ht
    cases ht
  · simp only [shortA, Bool.and_eq_true] at h
    exact short_toks h.2
theorem TyArg_toks {a : AV} (h : TyArg Tryd.prog 29 a) : ∃ (b : Bool) (ts : List Tok), a = slt (b, false) ts.length (encTs ts) := by
  rcases TyArg_slice Tryd.underlying29 h with rfl | ⟨f, es, h1, _, rfl⟩
  · exact ⟨true, [], rfl⟩
  · obtain ⟨ts, h2, h3⟩ := flatten_encTs es fun x hx => Ty_tok (h1 x hx).1
    exact ⟨false, ts, by simp [slt, ow, h2, h3]⟩
theorem hlaw4 (as0 : List AV) (h : TyArgs Tryd.prog Tryd.f4.params.toList as0) (hs : shortAll 1048576 as0 = true) : ∃ k s', callF cx k 4 as0 st0 = some (.bool true, s') := by
  obtain ⟨a1, r1, rfl, h1, a2, r2, rfl, h2, h6⟩ : ∃ a1 r1, as0 = a1 :: r1 ∧ TyArg Tryd.prog 29 a1 ∧ ∃ a2 r2, r1 = a2 :: r2 ∧ TyArg Tryd.prog 3 a2 ∧ r2 = [] := h
  subst h6
  obtain ⟨b, ts, rfl⟩ := TyArg_toks h1
  obtain ⟨x, rfl, _⟩ := TyArg_int Tryd.underlying3 h2
  simp only [shortAll, Bool.and_eq_true] at hs
  obtain ⟨k', v, s', h9, rfl⟩ := law4 (b, false) ts (fun t ht => Nat.le_trans (short_slt hs.1 t ht) (by omega)) x
  exact ⟨k', s', h9⟩
end T07

/- The table that the runs read is what the rows list. -/
namespace T07
open Go Fw Go.Proofs Go.RowKit
set_option maxRecDepth 100000
theorem tabEq : (Go.Proofs.YtljlkedecdgimaaDoor.Rows.laid_internal_strconv_uint64pow10 : DataW Unit) = Lib.tabData .u64 pows := rfl
theorem hgl : ∀ W, laidMetH Tryd.prog Go.Proofs.YtljlkedecdgimaaDoor.Rows.lexerJoinsUptoRow.laid W → ∀ n cs, cx.gl n = some cs → alAll (fun _ => false) cs = true ∧ RC (firstGh W) cs n 0 := by
  intro W h n cs hn
  change gls n = some cs at hn
  unfold gls at hn
  split at hn <;> cases hn
  exact laid_tab (name := "internal/strconv.uint64pow10") h (by rw [← tabEq]; simp [Go.Proofs.YtljlkedecdgimaaDoor.Rows.lexerJoinsUptoRow]) (by kernel_rfl) (by kernel_rfl) Tryd.underlying105 Tryd.underlying91 (by kernel_rfl) (by kernel_rfl)
end T07
