/- Parts of the proof, one behind the other. -/
import Derived.Test.YtgpfcgpgbflpgaaK10r
import Derived.Test.YtgpfcgpgbflpgaaK10aw0
/- SchemaOrder: the law's function answers true. -/
namespace T10
open Go Fw Go.Proofs
set_option maxRecDepth 100000
set_option linter.unusedSimpArgs false
set_option linter.unusedVariables false
theorem encLs_append : ∀ (us vs : List Line), encLs (us ++ vs) = encLs us ++ encLs vs
  | [], vs => rfl
  | u :: us, vs => by simp only [List.cons_append, encLs, encLs_append us vs, List.append_assoc]
theorem encLs_drop (ls : List Line) (k : Nat) : (encLs ls).drop (k * 4) = encLs (ls.drop k) := by
  induction k generalizing ls with
  | zero => simp
  | succ k ih =>
    cases ls with
    | nil => simp [encLs]
    | cons l ls =>
      simp only [encLs, List.drop_succ_cons, ← ih]
      rw [show (k + 1) * 4 = (encL l).length + k * 4 by rw [encL_length]; omega, ← List.drop_drop, List.drop_left]
theorem encLs_take (ls : List Line) (k : Nat) : (encLs ls).take (k * 4) = encLs (ls.take k) := by
  induction k generalizing ls with
  | zero => simp [encLs]
  | succ k ih =>
    cases ls with
    | nil => simp [encLs]
    | cons l ls =>
      simp only [encLs, List.take_succ_cons, ← ih]
      rw [show (k + 1) * 4 = (encL l).length + k * 4 by rw [encL_length]; omega, List.take_length_add_append]
theorem encLs_strip : ∀ ls : List Line, (encLs ls).map AV.strip = encLs ls
  | [] => rfl
  | l :: ls => by
    simp only [encLs, List.map_append, encLs_strip ls, encL_eq, List.map_cons, List.map_nil, strip_slv, strip_slt, strip_bool, strip_int]
theorem encLs_one : ∀ ls : List Line, (encLs ls).all AV.one = true
  | [] => rfl
  | l :: ls => by
    simp only [encLs, List.all_append, encLs_one ls, encL_eq, List.all_cons, List.all_nil, one_slv, one_slt, one_bool, one_int, Bool.and_self]
theorem fewLs_of {ls : List Line} (h : ∀ l ∈ ls, fewL l) : fewLs ls := by
  induction ls with
  | nil => simp only [fewLs]
  | cons l ls ih => simp only [fewLs]; exact ⟨h l (by simp), ih fun x hx => h x (by simp [hx])⟩
theorem cntLs_append : ∀ (us vs : List Line), cntLs (us ++ vs) = cntLs us + cntLs vs
  | [], vs => by simp [cntLs]
  | u :: us, vs => by simp only [List.cons_append, cntLs, cntLs_append us vs]; omega
/-- lines[k:] and lines[:k]. -/
theorem slc_lo (b : Bool) (ls : List Line) (k : Nat) (hk : k < ls.length) : sliceA 4 (slv b ls.length (encLs ls)) (some (.int .i64 k)) none none = some (.slice (encLs (ls.drop k)) (ls.drop k).length .no) := by
  rw [List.length_drop]
  have h1 : ¬ (b = true ∧ ls.length = 0) := by omega
  have e : ((encLs ls).drop (k * 4)).take ((ls.length - k) * 4) = encLs (ls.drop k) := by
    rw [encLs_drop, List.take_of_length_le (by rw [encLs_length]; simp)]
  simp only [slv, h1, if_false, sliceA, encLs_length, if_true, bounds]
  rw [if_pos (by omega)]
  simp only [Option.bind_some, Int.toNat_natCast, e, ite_self]
theorem slc_hi (b : Bool) (ls : List Line) (k : Nat) (hk : k < ls.length) : sliceA 4 (slv b ls.length (encLs ls)) none (some (.int .i64 k)) none = some (.slice (encLs (ls.take k)) (ls.take k).length .no) := by
  rw [List.length_take, Nat.min_eq_left (by omega)]
  have h1 : ¬ (b = true ∧ ls.length = 0) := by omega
  have e : ((encLs ls).drop (0 * 4)).take (k * 4) = encLs (ls.take k) := by
    rw [Nat.zero_mul, List.drop_zero, encLs_take]
  simp only [slv, h1, if_false, sliceA, encLs_length, if_true, bounds]
  rw [if_pos (by omega)]
  simp only [Option.bind_some, Int.toNat_natCast, Nat.sub_zero, e, ite_self]
theorem slc_hi1 (b : Bool) (ls : List Line) (k : Nat) (hk : k < ls.length) : sliceA 4 (slv b ls.length (encLs ls)) (some (.int .i64 ((k + 1 : Nat) : Int))) none none = some (.slice (encLs (ls.drop (k + 1))) (ls.drop (k + 1)).length .no) := by
  rw [List.length_drop]
  have h1 : ¬ (b = true ∧ ls.length = 0) := by omega
  have e : ((encLs ls).drop ((k + 1) * 4)).take ((ls.length - (k + 1)) * 4) = encLs (ls.drop (k + 1)) := by
    rw [encLs_drop, List.take_of_length_le (by rw [encLs_length]; simp)]
  simp only [slv, h1, if_false, sliceA, encLs_length, if_true, bounds]
  rw [if_pos (by omega)]
  simp only [Option.bind_some, Int.toNat_natCast, e, ite_self]
/-- An append to a slice that has no room. -/
theorem app_full (s : St) (us vs : List Line) (hu : us.length ≤ 1000) (hv : vs.length ≤ 1000) : appendA s 49 4 64 (.slice (encLs us) us.length .full) (.slice (encLs vs) vs.length .no) =
    some (if vs.length = 0 then (.slice (encLs us) us.length .full, s) else (.slice (encLs (us ++ vs)) (us.length + vs.length) (.tok s.next (us.length + vs.length)), s.new (.tok 49 (us.length + vs.length) 4))) := by
  simp only [appendA, cellsOf, encLs_length, if_true, AV.count, encLs_one, Bool.true_eq_false, if_false, encLs_strip, encLs_append]
  have hr : (us.length + vs.length) * 64 ≤ room := by unfold room; omega
  rw [if_pos hr]
  split <;> rfl
/-- An append to a slice whose row a token owns. -/
theorem app_tok (s : St) (us vs : List Line) (t e : Nat) (ht : Fw.look t s.heap = some (.tok 49 e 4)) (hu : us.length ≤ 1000) (hv : vs.length ≤ 1000) : appendA s 49 4 64 (.slice (encLs us) us.length (.tok t e)) (.slice (encLs vs) vs.length .no) =
    some (if vs.length = 0 then (.slice (encLs us) us.length (.tok t e), s) else (.slice (encLs (us ++ vs)) (us.length + vs.length) (.tok t (e + vs.length)), s.set t (.tok 49 (e + vs.length) 4))) := by
  simp only [appendA, cellsOf, encLs_length, if_true, AV.count, encLs_one, Bool.true_eq_false, if_false, encLs_strip, encLs_append, St.get, ht, and_self]
  have hr : (us.length + vs.length) * 64 ≤ room := by unfold room; omega
  rw [if_pos hr]
  split <;> rfl
theorem app_nil (s : St) (vs : List Line) (h0 : vs.length ≠ 0) (hv : vs.length ≤ 1000) : appendA s 49 4 64 (.slice [] 0 .full) (.slice (encLs vs) vs.length .no) = some (.slice (encLs vs) vs.length (.tok s.next vs.length), s.new (.tok 49 vs.length 4)) := by
  have := app_full s [] vs (by simp) hv
  simp only [encLs, List.length_nil, List.nil_append, Nat.zero_add, h0, if_false] at this
  exact this
theorem app_tok0 (s : St) (us vs : List Line) (t e : Nat) (ht : Fw.look t s.heap = some (.tok 49 e 4)) (h0 : vs.length = 0) : appendA s 49 4 64 (.slice (encLs us) us.length (.tok t e)) (.slice (encLs vs) vs.length .no) =
    some (.slice (encLs (us ++ vs)) (us.length + vs.length) (.tok t e), s) := by
  have hvs : vs = [] := List.eq_nil_of_length_eq_zero h0
  subst hvs
  simp [appendA, cellsOf, encLs_length, AV.count, encLs]
theorem app_tok1 (s : St) (us vs : List Line) (t e : Nat) (ht : Fw.look t s.heap = some (.tok 49 e 4)) (h0 : vs.length ≠ 0) (hu : us.length ≤ 1000) (hv : vs.length ≤ 1000) : appendA s 49 4 64 (.slice (encLs us) us.length (.tok t e)) (.slice (encLs vs) vs.length .no) =
    some (.slice (encLs (us ++ vs)) (us.length + vs.length) (.tok t (e + vs.length)), s.set t (.tok 49 (e + vs.length) 4)) := by
  have := app_tok s us vs t e ht hu hv
  simp only [h0, if_false] at this
  exact this
theorem wrap_u64 (n : Int) : IntKind.u64.wrap n = n % 18446744073709551616 := rfl
/-- int(uint(turn) % uint(len)) lies below len. -/
theorem turn_lt (n : Int) (m : Nat) (hm : 0 < m) (hm2 : m ≤ 1000) : ∃ k : Nat, k < m ∧ IntKind.i64.wrap ((IntKind.u64.wrap n).tmod (IntKind.u64.wrap m)) = (k : Int) := by
  have h1 : IntKind.u64.wrap (m : Int) = m := by rw [wrap_u64]; omega
  have h2 : 0 ≤ IntKind.u64.wrap n := by rw [wrap_u64]; omega
  rw [h1, Int.tmod_eq_emod_of_nonneg h2]
  have h3 := Int.emod_nonneg (IntKind.u64.wrap n) (show (m : Int) ≠ 0 by omega)
  have h4 := Int.emod_lt_of_pos (IntKind.u64.wrap n) (show (0 : Int) < m by omega)
  refine ⟨((IntKind.u64.wrap n) % (m : Int)).toNat, by omega, ?_⟩
  rw [wrap_i64 (by omega) (by omega)]; omega
theorem c9y (h : List (Nat × AObj)) (l : Nat) (K : AV → St → Prop) : CallW cx 9 [] { heap := h, next := 0, low := l } K = K (.bool true) { heap := h, next := 0, low := l } :=
  CallW.eq ⟨1000, _, _, awake_run0 h l, rfl, rfl⟩ K
theorem law5 (fs : List Form) (b1 b2 : Bool) (ls : List Line) (turn : Int) : CallW cx 5 [slv b1 fs.length (encFs fs), slv b2 ls.length (encLs ls), .int .i64 turn] { heap := [], next := 0, low := 0 } fun v _ => v = .bool true := by
  refine CallW.fn' (fn := ir5) rfl rfl (by kernel_rfl) ir5.eq_1 ?_
  have k12 := fun st K => c12 fs b1 st K
  have k16 := fun st K => c16 ls b2 st K
  by_cases hr : 0 ≤ roomFs fs 40
  case neg =>
    have hx : decide (0 ≤ roomFs fs 40) = false := by simp; omega
    simp (config := {contextual := true, implicitDefEqProofs := false, maxSteps := 4000000}) only [go_sem, ↓reduceIte, Bool.false_eq_true, Nat.reduceEqDiff, Nat.reduceAdd, Int.reduceLE, Int.reduceLT, Int.reduceEq, Int.reduceToNat, Int.toNat_natCast, Int.cast_ofNat_Int, Int.natCast_one, Nat.reduceMod, Nat.reduceDiv, UInt8.reduceToNat, Nat.reduceLT, c9y, k12, hx]
  obtain ⟨hsm, hc⟩ := room_small fs 40 (by omega) hr
  have hcnt : cntFs fs ≤ 40 := by omega
  have hx : decide (0 ≤ roomFs fs 40) = true := by simp [hr]
  by_cases hlf : 0 ≤ leftLs ls 300
  case neg =>
    have hy : decide (0 ≤ leftLs ls 300) = false := by simp; omega
    simp (config := {contextual := true, implicitDefEqProofs := false, maxSteps := 4000000}) only [go_sem, ↓reduceIte, Bool.false_eq_true, Nat.reduceEqDiff, Nat.reduceAdd, Int.reduceLE, Int.reduceLT, Int.reduceEq, Int.reduceToNat, Int.toNat_natCast, Int.cast_ofNat_Int, Int.natCast_one, Nat.reduceMod, Nat.reduceDiv, UInt8.reduceToNat, Nat.reduceLT, c9y, k12, k16, hx, hy]
  obtain ⟨hfew, hcl0⟩ := left_few ls 300 (by omega) (by omega) hlf
  have hcl : cntLs ls ≤ 300 := by omega
  have hy : decide (0 ≤ leftLs ls 300) = true := by simp [hlf]
  have hllen := cntLs_length ls
  by_cases hl0 : ls.length = 0
  · have hz : decide ((ls.length : Int) = 0) = true := by simp [hl0]
    simp (config := {contextual := true, implicitDefEqProofs := false, maxSteps := 4000000}) only [go_sem, ↓reduceIte, Bool.false_eq_true, Nat.reduceEqDiff, Nat.reduceAdd, Int.reduceLE, Int.reduceLT, Int.reduceEq, Int.reduceToNat, Int.toNat_natCast, Int.cast_ofNat_Int, Int.natCast_one, Nat.reduceMod, Nat.reduceDiv, UInt8.reduceToNat, Nat.reduceLT, c9y, k12, k16, hx, hy, hz]
  have hz : decide ((ls.length : Int) = 0) = false := decide_eq_false (by omega)
  have k13 := fun st K => c13 fs hsm hcnt b1 st K
  by_cases hv : checkS fs = 0
  case neg =>
    have hu : decide (checkS fs ≠ 0) = true := by simp [hv]
    simp (config := {contextual := true, implicitDefEqProofs := false, maxSteps := 4000000}) only [go_sem, ↓reduceIte, Bool.false_eq_true, Nat.reduceEqDiff, Nat.reduceAdd, Int.reduceLE, Int.reduceLT, Int.reduceEq, Int.reduceToNat, Int.toNat_natCast, Int.cast_ofNat_Int, Int.natCast_one, Nat.reduceMod, Nat.reduceDiv, UInt8.reduceToNat, Nat.reduceLT, c9y, k12, k16, k13, hx, hy, hz, hu]
  rw [hv] at k13
  obtain ⟨k, hk, hkw⟩ := turn_lt turn ls.length (by omega) (by omega)
  have hwl : IntKind.u64.wrap (ls.length : Int) = ls.length := by rw [wrap_u64]; omega
  have hne0 : (IntKind.u64.wrap (ls.length : Int) = 0) = False := by
    rw [hwl]; simp; intro h; simp [h] at hl0
  have k15a := fun st K => c15 fs hsm hcnt hv b1 b2 .no ls hfew hcl st K
  simp only [slo_no, encFl] at k15a
  have hperm : ls.Perm (ls.drop k ++ ls.take k) := by
    have := List.perm_append_comm (l₁ := ls.take k) (l₂ := ls.drop k)
    rwa [List.take_append_drop] at this
  have hfew2 : fewLs (ls.drop k ++ ls.take k) := fewLs_of fun l hl => fewLs_mem hfew l (hperm.mem_iff.2 hl)
  have hcl2 : cntLs (ls.drop k ++ ls.take k) ≤ 300 := by
    have h1 := cntLs_append (ls.take k) (ls.drop k)
    rw [List.take_append_drop] at h1
    rw [cntLs_append]; omega
  have hcode : ((matchF fs ls).1 = 0) = ((matchF fs (ls.drop k ++ ls.take k)).1 = 0) := by
    rw [eq_iff_iff, match_iff, match_iff]
    exact ⟨fun h => h.perm hperm, fun h => h.perm hperm.symm⟩
  have hdl : 0 < (ls.drop k).length := by rw [List.length_drop]; omega
  have ka := fun st => app_nil st (ls.drop k) (by omega) (by rw [List.length_drop]; omega)
  have k15b : ∀ e st K, CallW cx 15 [slv b1 fs.length (encFs fs), .slice (encLs (ls.drop k ++ ls.take k)) ((ls.drop k).length + (ls.take k).length) (.tok 1 e)] st K = K (.tuple [encFl (matchF fs (ls.drop k ++ ls.take k)), .int .i64 0]) st := fun e st K => by
    have := c15 fs hsm hcnt hv b1 false (.tok 1 e) (ls.drop k ++ ls.take k) hfew2 hcl2 st K
    simp only [slo, Bool.false_eq_true, false_and, if_false, List.length_append] at this
    exact this
  simp only [encFl] at k15b
  generalize hg1 : matchF fs ls = g1 at *
  generalize hg2 : matchF fs (ls.drop k ++ ls.take k) = g2 at *
  have hdec : decide (g1.1 = 0) = decide (g2.1 = 0) := by
    rw [Bool.eq_iff_iff, decide_eq_true_eq, decide_eq_true_eq, hcode]
  by_cases hk0 : (ls.take k).length = 0
  · have kb := fun st e (ht : Fw.look 1 st.heap = some (.tok 49 e 4)) => app_tok0 st (ls.drop k) (ls.take k) 1 e ht hk0
    simp (config := {contextual := true, implicitDefEqProofs := false, maxSteps := 4000000}) only [go_sem, ↓reduceIte, Bool.false_eq_true, Nat.reduceEqDiff, Nat.reduceAdd, Int.reduceLE, Int.reduceLT, Int.reduceEq, Int.reduceToNat, Int.toNat_natCast, Int.cast_ofNat_Int, Int.natCast_one, Nat.reduceMod, Nat.reduceDiv, UInt8.reduceToNat, Nat.reduceLT, c9y, k12, k16, k13, k15a, k15b, hx, hy, hz, hkw, hne0, show decide ((0 : Int) ≠ 0) = false from rfl, slc_lo b2 ls k hk, slc_hi b2 ls k hk, ka, kb, show decide (min 2 1 = 2) = false from rfl]
    rw [LeaveW_bool _ (Nat.zero_le _), hdec]; simp
  · have kb := fun st e (ht : Fw.look 1 st.heap = some (.tok 49 e 4)) => app_tok1 st (ls.drop k) (ls.take k) 1 e ht hk0 (by rw [List.length_drop]; omega) (by rw [List.length_take]; omega)
    simp (config := {contextual := true, implicitDefEqProofs := false, maxSteps := 4000000}) only [go_sem, ↓reduceIte, Bool.false_eq_true, Nat.reduceEqDiff, Nat.reduceAdd, Int.reduceLE, Int.reduceLT, Int.reduceEq, Int.reduceToNat, Int.toNat_natCast, Int.cast_ofNat_Int, Int.natCast_one, Nat.reduceMod, Nat.reduceDiv, UInt8.reduceToNat, Nat.reduceLT, c9y, k12, k16, k13, k15a, k15b, hx, hy, hz, hkw, hne0, show decide ((0 : Int) ≠ 0) = false from rfl, slc_lo b2 ls k hk, slc_hi b2 ls k hk, ka, kb, show decide (min 2 1 = 2) = false from rfl]
    rw [LeaveW_bool _ (Nat.zero_le _), hdec]; simp
theorem hlaw5 (as0 : List AV) (h : TyArgs Try.prog Try.f5.params.toList as0) : ∃ k s', callF cx k 5 as0 st0 = some (.bool true, s') := by
  obtain ⟨a1, r1, rfl, h1, a2, r2, rfl, h2, a3, r3, rfl, h3, h4⟩ : ∃ a1 r1, as0 = a1 :: r1 ∧ TyArg Try.prog 26 a1 ∧ ∃ a2 r2, r1 = a2 :: r2 ∧ TyArg Try.prog 30 a2 ∧ ∃ a3 r3, r2 = a3 :: r3 ∧ TyArg Try.prog 3 a3 ∧ r3 = [] := h
  subst h4
  obtain ⟨b1, fs, rfl⟩ := TyArg_forms h1
  obtain ⟨b2, ls, rfl⟩ := TyArg_lines h2
  obtain ⟨n, rfl, _⟩ := TyArg_int Try.underlying3 h3
  obtain ⟨k', v, s', h9, rfl⟩ := law5 fs b1 b2 ls n
  exact ⟨k', s', h9⟩
end T10
