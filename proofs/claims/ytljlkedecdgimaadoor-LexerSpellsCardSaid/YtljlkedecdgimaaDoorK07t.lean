/- Parts of the proof, one behind the other. -/
import Derived.Test.YtljlkedecdgimaaDoorK07s
import Derived.Test.YtljlkedecdgimaaDoorK07aw
import Derived.Test.YtljlkedecdgimaaDoorK07d
import Derived.Test.YtljlkedecdgimaaDoorRows
set_option linter.unusedSimpArgs false
set_option linter.unusedVariables false
/- The law LexerSpells (all but the spelling of numbers, which is taken as a premise here). -/
namespace T07
open Go Fw Go.Proofs
set_option maxRecDepth 100000
set_option maxHeartbeats 4000000
set_option linter.unusedSimpArgs false
set_option linter.unusedVariables false
theorem c7y (h : List (Nat × AObj)) (l : Nat) (K : AV → St → Prop) : CallW cx 7 [] { heap := h, next := 1, low := l } K = K (.bool true) { heap := h, next := 1, low := l } :=
  CallW.eq ⟨1000, _, _, awake_run1 h l, rfl, rfl⟩ K
theorem law3 (t : Tok) (hp : validB t = true → t.t.length ≤ 200 → isColon t = false → scanB (spellB t) = (⟨0, [{ t with p := 1 }], false, []⟩, 0, 0)) : CallW cx 3 [tokO t] { heap := [], next := 0, low := 0 } fun v _ => v = .bool true := by
  refine CallW.fn' (fn := ir3) rfl rfl (by kernel_rfl) ir3.eq_1 ?_
  obtain ⟨k, a, n, p⟩ := t
  by_cases h1 : 200 < a.length
  · have d1 : decide ((200 : Int) < (a.length : Int)) = true := decide_eq_true (by omega)
    simp (config := {contextual := true, implicitDefEqProofs := false, maxSteps := 4000000}) only [go_sem, ↓reduceIte, Bool.false_eq_true, Nat.reduceEqDiff, Nat.reduceAdd, Int.reduceLE, Int.reduceLT, Int.reduceEq, Int.reduceToNat, Int.toNat_natCast, Int.cast_ofNat_Int, Int.natCast_one, Nat.reduceMod, Nat.reduceDiv, UInt8.reduceToNat, Nat.reduceLT, c7y, d1]
  have d1 : decide ((200 : Int) < (a.length : Int)) = false := decide_eq_false (by omega)
  have k1 := fun st K => c8 ⟨k, a, n, p⟩ (by simp only; omega) st K
  have k2 := fun st K => c9 ⟨k, a, n, p⟩ (by simp only; omega) st K
  have k3 := fun st K => c10 (spellB ⟨k, a, n, p⟩) st K
  have z1 : ∀ u : List UInt8, decide (u = u) = true := fun u => by simp
  have z2 : ∀ u : Int, decide (u = u) = true := fun u => by simp
  cases hv : validB ⟨k, a, n, p⟩ with
  | false =>
    rw [hv] at k1
    simp (config := {contextual := true, implicitDefEqProofs := false, maxSteps := 4000000}) only [go_sem, ↓reduceIte, Bool.false_eq_true, Nat.reduceEqDiff, Nat.reduceAdd, Int.reduceLE, Int.reduceLT, Int.reduceEq, Int.reduceToNat, Int.toNat_natCast, Int.cast_ofNat_Int, Int.natCast_one, Nat.reduceMod, Nat.reduceDiv, UInt8.reduceToNat, Nat.reduceLT, c7y, d1, k1]
  | true =>
  rw [hv] at k1 k2
  cases hk : decide (k = 6) with
  | true =>
    cases ht : decide (a = [58]) with
    | true => simp (config := {contextual := true, implicitDefEqProofs := false, maxSteps := 4000000}) only [go_sem, ↓reduceIte, Bool.false_eq_true, Nat.reduceEqDiff, Nat.reduceAdd, Int.reduceLE, Int.reduceLT, Int.reduceEq, Int.reduceToNat, Int.toNat_natCast, Int.cast_ofNat_Int, Int.natCast_one, Nat.reduceMod, Nat.reduceDiv, UInt8.reduceToNat, Nat.reduceLT, c7y, d1, k1, hk, ht]
    | false =>
      rw [hp hv (by simp only; omega) (by unfold isColon; rw [ht, Bool.and_false])] at k3
      have k4 : ∀ st K, CallW cx 10 [.str (spellB ⟨k, a, n, p⟩)] st K = K (.tuple [.agg [.int .i64 0, .slice [.int .i64 k, .str a, .int .i64 n, .int .i64 1] 1 .no, .bool false, .str []], .agg [.int .i64 0, .int .i64 0, .int .i64 0]]) st := k3
      clear k3 hp
      simp (config := {contextual := true, implicitDefEqProofs := false, maxSteps := 4000000}) only [go_sem, ↓reduceIte, Bool.false_eq_true, Nat.reduceEqDiff, Nat.reduceAdd, Int.reduceLE, Int.reduceLT, Int.reduceEq, Int.reduceToNat, Int.toNat_natCast, Int.cast_ofNat_Int, Int.natCast_one, Nat.reduceMod, Nat.reduceDiv, UInt8.reduceToNat, Nat.reduceLT, c7y, d1, k1, hk, ht, k2, k4, z1, z2, show ((1 : Nat) : Int) = 1 from rfl, Nat.zero_mul, Nat.zero_add]
      rw [LeaveW_flat rfl (Nat.zero_le _)]
  | false =>
    rw [hp hv (by simp only; omega) (by unfold isColon; rw [hk, Bool.false_and])] at k3
    have k4 : ∀ st K, CallW cx 10 [.str (spellB ⟨k, a, n, p⟩)] st K = K (.tuple [.agg [.int .i64 0, .slice [.int .i64 k, .str a, .int .i64 n, .int .i64 1] 1 .no, .bool false, .str []], .agg [.int .i64 0, .int .i64 0, .int .i64 0]]) st := k3
    clear k3 hp
    simp (config := {contextual := true, implicitDefEqProofs := false, maxSteps := 4000000}) only [go_sem, ↓reduceIte, Bool.false_eq_true, Nat.reduceEqDiff, Nat.reduceAdd, Int.reduceLE, Int.reduceLT, Int.reduceEq, Int.reduceToNat, Int.toNat_natCast, Int.cast_ofNat_Int, Int.natCast_one, Nat.reduceMod, Nat.reduceDiv, UInt8.reduceToNat, Nat.reduceLT, c7y, d1, k1, hk, k2, k4, z1, z2, show ((1 : Nat) : Int) = 1 from rfl, Nat.zero_mul, Nat.zero_add]
    rw [LeaveW_flat rfl (Nat.zero_le _)]
end T07

/- LexerSpells: the spelling of a possible token is scanned as this token. -/
namespace T07
open Go Fw Go.Proofs
set_option maxRecDepth 100000
theorem spell_any (t : Tok) (hv : validB t = true) : nextB (spellB t) 0 = (⟨t.k, t.t, t.n, 0⟩, (spellB t).length, 0) := by
  by_cases h2 : t.k = 2
  · obtain ⟨k, a, n, p⟩ := t
    simp only at h2
    subst h2
    unfold validB at hv
    simp only [if_true, Bool.and_eq_true, decide_eq_true_eq] at hv
    obtain ⟨rfl, h3, h4⟩ := hv
    exact num_next n p h3 h4
  · exact spell_next t hv h2
theorem spell_len (t : Tok) (hv : validB t = true) : (spellB t).length ≤ t.t.length + 300 := by
  obtain ⟨k, a, n, p⟩ := t
  unfold validB at hv
  unfold spellB
  simp only at hv ⊢
  by_cases h2 : k = 2
  · rw [if_pos h2] at hv ⊢
    simp only [Bool.and_eq_true, decide_eq_true_eq] at hv
    rw [List.length_append]
    have h3 : (if n < 0 then [45] else [] : List UInt8).length ≤ 1 := by split <;> simp
    unfold milB
    have h4 := trimS_le 46 (trimR (fun b => decide (b = 48)) ((dec (n.natAbs / 1000) ++ [46]) ++ (dec (1000 + n.natAbs % 1000)).drop 1))
    have h5 := trimR_le (fun b => decide (b = 48)) ((dec (n.natAbs / 1000) ++ [46]) ++ (dec (1000 + n.natAbs % 1000)).drop 1)
    have h6 := dec_len (n.natAbs / 1000) (by omega)
    have h7 := dec_len (1000 + n.natAbs % 1000) (by omega)
    simp only [List.length_append, List.length_drop, List.length_cons, List.length_nil] at h5
    omega
  rw [if_neg h2] at hv ⊢
  by_cases h4 : k = 4
  · rw [if_pos h4] at hv ⊢
    simp only [Bool.and_eq_true, decide_eq_true_eq] at hv
    unfold twoB
    have h6 := dec_len (100 + n.natAbs / 60) (by omega)
    have h7 := dec_len (100 + n.natAbs % 60) (by omega)
    simp only [List.length_append, List.length_drop, List.length_cons, List.length_nil]
    omega
  rw [if_neg h4]
  by_cases h3 : k = 3
  · rw [if_pos h3]
    simp only [List.length_append, List.length_cons, List.length_nil]
    omega
  rw [if_neg h3]
  omega
theorem next_nil : (nextB [] 0).2.2 = 2 := rfl
theorem spell_pos (t : Tok) (hv : validB t = true) : 0 < (spellB t).length := by
  have h := spell_any t hv
  cases hs : spellB t with
  | nil => rw [hs] at h; have := next_nil; rw [h] at this; simp at this
  | cons b l => simp
theorem spell_scan (t : Tok) (hv : validB t = true) (hl : t.t.length ≤ 200) (hc : isColon t = false) : scanB (spellB t) = (⟨0, [{ t with p := 1 }], false, []⟩, 0, 0) := by
  have h1 := spell_len t hv
  exact scan_one (spellB t) ⟨t.k, t.t, t.n, 0⟩ (spell_pos t hv) (by omega) (spell_any t hv) hc
theorem TyArg_tok {a : AV} (h : TyArg Tryd.prog 23 a) : ∃ t : Tok, a = tokO t := by
  obtain ⟨f0, cs, rfl, hf⟩ := TyArg_struct Tryd.underlying23 h
  obtain ⟨p1, q1, e1, h5, _, p2, q2, rfl, h6, _, p3, q3, rfl, h7, _, p4, q4, rfl, h8, _, rfl⟩ := hf
  rw [e1]
  obtain ⟨k, rfl, _⟩ := Ty_int Tryd.underlying3 h5
  obtain ⟨t, rfl, _⟩ := Ty_string Tryd.underlying9 h6
  obtain ⟨n, rfl, _⟩ := Ty_int Tryd.underlying2 h7
  obtain ⟨m, rfl, _⟩ := Ty_int Tryd.underlying3 h8
  exact ⟨⟨k, t, n, m⟩, rfl⟩
theorem hlaw3 (as0 : List AV) (h : TyArgs Tryd.prog Tryd.f3.params.toList as0) : ∃ k s', callF cx k 3 as0 st0 = some (.bool true, s') := by
  obtain ⟨a1, r1, rfl, h1, h6⟩ : ∃ a1 r1, as0 = a1 :: r1 ∧ TyArg Tryd.prog 23 a1 ∧ r1 = [] := h
  subst h6
  obtain ⟨t, rfl⟩ := TyArg_tok h1
  obtain ⟨k', v, s', h9, rfl⟩ := law3 t (fun hv hl hc => spell_scan t hv hl hc)
  exact ⟨k', s', h9⟩
end T07

/- The table that the runs read is what the rows list. -/
namespace T07
open Go Fw Go.Proofs Go.RowKit
set_option maxRecDepth 100000
theorem tabEq : (Go.Proofs.YtljlkedecdgimaaDoor.Rows.laid_internal_strconv_uint64pow10 : DataW Unit) = Lib.tabData .u64 pows := rfl
theorem hgl : ∀ W, laidMetH Tryd.prog Go.Proofs.YtljlkedecdgimaaDoor.Rows.lexerSpellsRow.laid W → ∀ n cs, cx.gl n = some cs → alAll (fun _ => false) cs = true ∧ RC (firstGh W) cs n 0 := by
  intro W h n cs hn
  change gls n = some cs at hn
  unfold gls at hn
  split at hn <;> cases hn
  exact laid_tab (name := "internal/strconv.uint64pow10") h (by rw [← tabEq]; simp [Go.Proofs.YtljlkedecdgimaaDoor.Rows.lexerSpellsRow]) (by kernel_rfl) (by kernel_rfl) Tryd.underlying105 Tryd.underlying91 (by kernel_rfl) (by kernel_rfl)
end T07
