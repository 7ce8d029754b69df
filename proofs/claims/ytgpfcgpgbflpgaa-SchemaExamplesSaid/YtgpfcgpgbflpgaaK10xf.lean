/- Parts of the proof, one behind the other. -/
import Derived.Test.YtgpfcgpgbflpgaaK10xe
/- SchemaExamples: the law's function answers true. -/
namespace T10
open Go Fw Go.Proofs
set_option maxRecDepth 100000
set_option linter.unusedSimpArgs false
set_option linter.unusedVariables false
theorem LeaveW_lines {s s' : St} {b : Bool} {n : Nat} {cs : List AV} {k : IntKind} {i : Int} (h : ∀ p, alAll p cs = true) (hl : s.next ≤ s'.low) (K : AV → St → Prop) : LeaveW s s' (.tuple [slv b n cs, .int k i]) K = K (.tuple [slv b n cs, .int k i]) s := by
  have h3 : (AV.tuple [slv b n cs, .int k i]).drop2 s.next = .tuple [slv b n cs, .int k i] := by
    simp only [AV.drop2, List.map_cons, List.map_nil]
    unfold slv; split <;> rfl
  have h4 : (AV.tuple [slv b n cs, .int k i]).al (below s.next) = true := by
    simp only [AV.al, alAll, al_slv _ _ _ _ (h _), Bool.and_self]
  simp only [LeaveW, leave, h3, hl, h4, and_self, if_true]
theorem c14 (fs : List Form) (hsm : smallFs fs) (hcnt : cntFs fs ≤ 40) (hv : checkS fs = 0) (b : Bool) (s : St) (K : AV → St → Prop) :
    CallW cx 14 [slv b fs.length (encFs fs)] s K = K (if szFs fs ≤ 1000 then .tuple [slv true (exFs fs).length (encLs (exFs fs)), .int .i64 0] else .tuple [.nilslice, .int .i64 7]) s := by
  refine CallW.eq (CallW.fn' (fn := ir14) rfl rfl (by kernel_rfl) ir14.eq_1 ?_) K
  have hg := deep_of_check hv
  have k13 := fun st K => c13 fs hsm hcnt b st K
  rw [hv] at k13
  have k38 := fun st K => c38 fs b st K hcnt hg
  by_cases hz : szFs fs ≤ 1000
  · have hx : decide ((1000 : Int) < min 1001 (szFs fs : Int)) = false := by simp only [decide_eq_false_iff_not]; omega
    have k39 := fun st K => c39 fs b st K hcnt hsm hg hz
    simp (config := {contextual := true, implicitDefEqProofs := false, maxSteps := 4000000}) only [go_sem, ↓reduceIte, Bool.false_eq_true, Nat.reduceEqDiff, Nat.reduceAdd, Int.reduceLE, Int.reduceLT, Int.reduceEq, Int.reduceToNat, Int.toNat_natCast, Int.cast_ofNat_Int, Int.natCast_one, Nat.reduceMod, Nat.reduceDiv, UInt8.reduceToNat, Nat.reduceLT, k13, k38, k39, hx, show decide ((0 : Int) ≠ 0) = false from rfl]
    rw [if_pos hz]
    rw [LeaveW_lines (fun p => al_encLs p _) (Nat.le_refl _)]
    exact ⟨rfl, rfl⟩
  · have hx : decide ((1000 : Int) < min 1001 (szFs fs : Int)) = true := by simp only [decide_eq_true_eq]; omega
    simp (config := {contextual := true, implicitDefEqProofs := false, maxSteps := 4000000}) only [go_sem, ↓reduceIte, Bool.false_eq_true, Nat.reduceEqDiff, Nat.reduceAdd, Int.reduceLE, Int.reduceLT, Int.reduceEq, Int.reduceToNat, Int.toNat_natCast, Int.cast_ofNat_Int, Int.natCast_one, Nat.reduceMod, Nat.reduceDiv, UInt8.reduceToNat, Nat.reduceLT, k13, k38, hx, show decide ((0 : Int) ≠ 0) = false from rfl]
    rw [if_neg hz]
theorem len_ex : ∀ (fs : List Form), (exFs fs).length ≤ szFs fs
  | [] => by simp [exFs]
  | f :: fs => by
    have h1 := len_ex fs
    have h2 : f.least.toNat * 1 ≤ f.least.toNat * (1 + szFs f.kids) := Nat.mul_le_mul_left _ (by omega)
    simp only [exFs, exF_eq, List.length_append, List.length_replicate, szFs, szF_eq]
    omega
theorem turn_lt2 (n : Int) (m : Nat) (hm : 0 < m) (hm2 : m ≤ 20000) : ∃ k : Nat, k < m ∧ IntKind.i64.wrap ((IntKind.u64.wrap n).tmod (IntKind.u64.wrap m)) = (k : Int) := by
  have h1 : IntKind.u64.wrap (m : Int) = m := by rw [wrap_u64]; omega
  have h2 : 0 ≤ IntKind.u64.wrap n := by rw [wrap_u64]; omega
  rw [h1, Int.tmod_eq_emod_of_nonneg h2]
  have h3 := Int.emod_nonneg (IntKind.u64.wrap n) (show (m : Int) ≠ 0 by omega)
  have h4 := Int.emod_lt_of_pos (IntKind.u64.wrap n) (show (0 : Int) < m by omega)
  refine ⟨((IntKind.u64.wrap n) % (m : Int)).toNat, by omega, ?_⟩
  rw [wrap_i64 (by omega) (by omega)]; omega
set_option maxHeartbeats 4000000 in
theorem law4 (fs : List Form) (b1 : Bool) (turn : Int) : CallW cx 4 [slv b1 fs.length (encFs fs), .int .i64 turn] { heap := [], next := 0, low := 0 } fun v _ => v = .bool true := by
  refine CallW.fn' (fn := ir4) rfl rfl (by kernel_rfl) ir4.eq_1 ?_
  have k12 := fun st K => c12 fs b1 st K
  by_cases hr : 0 ≤ roomFs fs 40
  case neg =>
    have hx : decide (0 ≤ roomFs fs 40) = false := by simp; omega
    simp (config := {contextual := true, implicitDefEqProofs := false, maxSteps := 4000000}) only [go_sem, ↓reduceIte, Bool.false_eq_true, Nat.reduceEqDiff, Nat.reduceAdd, Int.reduceLE, Int.reduceLT, Int.reduceEq, Int.reduceToNat, Int.toNat_natCast, Int.cast_ofNat_Int, Int.natCast_one, Nat.reduceMod, Nat.reduceDiv, UInt8.reduceToNat, Nat.reduceLT, c9y, k12, hx]
  obtain ⟨hsm, hc⟩ := room_small fs 40 (by omega) hr
  have hcnt : cntFs fs ≤ 40 := by omega
  have hx : decide (0 ≤ roomFs fs 40) = true := by simp [hr]
  have k13 := fun st K => c13 fs hsm hcnt b1 st K
  by_cases hv : checkS fs = 0
  case neg =>
    have hu : decide (checkS fs ≠ 0) = true := by simp [hv]
    simp (config := {contextual := true, implicitDefEqProofs := false, maxSteps := 4000000}) only [go_sem, ↓reduceIte, Bool.false_eq_true, Nat.reduceEqDiff, Nat.reduceAdd, Int.reduceLE, Int.reduceLT, Int.reduceEq, Int.reduceToNat, Int.toNat_natCast, Int.cast_ofNat_Int, Int.natCast_one, Nat.reduceMod, Nat.reduceDiv, UInt8.reduceToNat, Nat.reduceLT, c9y, k12, k13, hx, hu]
  rw [hv] at k13
  have hg := deep_of_check hv
  have k14 := fun st K => c14 fs hsm hcnt hv b1 st K
  by_cases hsz : szFs fs ≤ 1000
  case neg =>
    simp only [hsz, if_false] at k14
    simp (config := {contextual := true, implicitDefEqProofs := false, maxSteps := 4000000}) only [go_sem, ↓reduceIte, Bool.false_eq_true, Nat.reduceEqDiff, Nat.reduceAdd, Int.reduceLE, Int.reduceLT, Int.reduceEq, Int.reduceToNat, Int.toNat_natCast, Int.cast_ofNat_Int, Int.natCast_one, Nat.reduceMod, Nat.reduceDiv, UInt8.reduceToNat, Nat.reduceLT, c9y, k12, k13, hx, k14, show decide ((0 : Int) ≠ 0) = false from rfl, show decide ((7 : Int) ≠ 0) = true from rfl]
  simp only [hsz, if_true] at k14
  have hfew := few_ex fs hsm
  have hcl := cnt_ex fs hsm
  have hfine := fine_ex fs hg
  have hless := less_ex fs hg
  have hlen := len_ex fs
  generalize hls : exFs fs = ls at *
  have hllen := cntLs_length ls
  have k15a := fun st K => c15L fs hsm hcnt hv b1 true .no ls hfew (by omega) st K
  simp only [slo_no, encFl] at k15a
  have hok := (match_iff fs ls).2 hfine
  generalize hg1 : matchF fs ls = g1 at *
  have hu : decide (g1.1 ≠ 0) = false := by simp [hok]
  by_cases hl0 : ls.length = 0
  · have hz : decide ((ls.length : Int) = 0) = true := by simp [hl0]
    simp (config := {contextual := true, implicitDefEqProofs := false, maxSteps := 4000000}) only [go_sem, ↓reduceIte, Bool.false_eq_true, Nat.reduceEqDiff, Nat.reduceAdd, Int.reduceLE, Int.reduceLT, Int.reduceEq, Int.reduceToNat, Int.toNat_natCast, Int.cast_ofNat_Int, Int.natCast_one, Nat.reduceMod, Nat.reduceDiv, UInt8.reduceToNat, Nat.reduceLT, c9y, k12, k13, k14, k15a, hx, hz, hu, show decide ((0 : Int) ≠ 0) = false from rfl]
  have hz : decide ((ls.length : Int) = 0) = false := decide_eq_false (by omega)
  obtain ⟨k, hk, hkw⟩ : ∃ k : Nat, k < ls.length ∧ IntKind.i64.wrap ((IntKind.u64.wrap turn).tmod (IntKind.u64.wrap ls.length)) = (k : Int) := turn_lt2 turn ls.length (by omega) (by omega)
  have hwl : IntKind.u64.wrap (ls.length : Int) = ls.length := by rw [wrap_u64]; omega
  have hne0 : (IntKind.u64.wrap (ls.length : Int) = 0) = False := by
    rw [hwl]; simp; intro h; simp [h] at hl0
  have hfew2 : fewLs (ls.take k ++ ls.drop (k + 1)) := fewLs_of fun l hl => fewLs_mem hfew l (by
    rcases List.mem_append.1 hl with h | h
    · exact List.mem_of_mem_take h
    · exact List.mem_of_mem_drop h)
  have hcl2 : cntLs (ls.take k ++ ls.drop (k + 1)) ≤ 20000 := by
    have h1 := cntLs_append (ls.take k) (ls.drop k)
    rw [List.take_append_drop, List.drop_eq_getElem_cons hk] at h1
    simp only [cntLs] at h1
    rw [cntLs_append]; omega
  have k15b : ∀ o st K, CallW cx 15 [slv b1 fs.length (encFs fs), .slice (encLs (ls.take k ++ ls.drop (k + 1))) ((ls.take k).length + (ls.drop (k + 1)).length) o] st K = K (.tuple [encFl (9, 1, 1), .int .i64 0]) st := fun o st K => by
    have := c15L fs hsm hcnt hv b1 false o (ls.take k ++ ls.drop (k + 1)) hfew2 hcl2 st K
    rw [hless k hk] at this
    simp only [slo, Bool.false_eq_true, false_and, if_false, List.length_append] at this
    exact this
  simp only [encFl] at k15b
  have hw1 := wrap_one (i := k) (by omega)
  have hTL : (ls.take k).length = k := by rw [List.length_take]; omega
  have hDL : (ls.drop (k + 1)).length ≤ 1000 := by rw [List.length_drop]; omega
  by_cases hk0 : (ls.take k).length = 0
  · have hT0 : ls.take k = [] := List.eq_nil_of_length_eq_zero hk0
    rw [hk0, hT0] at k15b
    simp only [Nat.zero_add, List.nil_append] at k15b
    have ka := fun st => app_nil0 st (ls.take k) hk0
    by_cases hd0 : (ls.drop (k + 1)).length = 0
    · have hD0 : ls.drop (k + 1) = [] := List.eq_nil_of_length_eq_zero hd0
      rw [hD0] at k15b
      simp only [encLs, List.length_nil] at k15b
      have kb := fun st => app_nil0 st (ls.drop (k + 1)) hd0
      simp (config := {contextual := true, implicitDefEqProofs := false, maxSteps := 4000000}) only [go_sem, ↓reduceIte, Bool.false_eq_true, Nat.reduceEqDiff, Nat.reduceAdd, Int.reduceLE, Int.reduceLT, Int.reduceEq, Int.reduceToNat, Int.toNat_natCast, Int.cast_ofNat_Int, Int.natCast_one, Nat.reduceMod, Nat.reduceDiv, UInt8.reduceToNat, Nat.reduceLT, c9y, k12, k13, k14, k15a, k15b, hx, hz, hu, hkw, hne0, hw1, show decide ((0 : Int) ≠ 0) = false from rfl, show decide ((0 : Int) = 0) = true from rfl, slc_hi true ls k hk, slc_hi1 true ls k hk, ka, kb, show decide (min 2 1 = 2) = false from rfl, and_self, and_true, and_false, false_and, decide_true, decide_false, Nat.min_self]
    · have kb := fun st => app_nil st (ls.drop (k + 1)) hd0 hDL
      simp (config := {contextual := true, implicitDefEqProofs := false, maxSteps := 4000000}) only [go_sem, ↓reduceIte, Bool.false_eq_true, Nat.reduceEqDiff, Nat.reduceAdd, Int.reduceLE, Int.reduceLT, Int.reduceEq, Int.reduceToNat, Int.toNat_natCast, Int.cast_ofNat_Int, Int.natCast_one, Nat.reduceMod, Nat.reduceDiv, UInt8.reduceToNat, Nat.reduceLT, c9y, k12, k13, k14, k15a, k15b, hx, hz, hu, hkw, hne0, hw1, show decide ((0 : Int) ≠ 0) = false from rfl, show decide ((0 : Int) = 0) = true from rfl, slc_hi true ls k hk, slc_hi1 true ls k hk, ka, kb, show decide (min 2 1 = 2) = false from rfl, and_self, and_true, and_false, false_and, decide_true, decide_false, Nat.min_self]
      rw [LeaveW_bool _ (Nat.zero_le _)]
  · have ka := fun st => app_nil st (ls.take k) hk0 (by omega)
    by_cases hd0 : (ls.drop (k + 1)).length = 0
    · have kb := fun st (ht : Fw.look 1 st.heap = some (.tok 49 (ls.take k).length 4)) => app_tok0 st (ls.take k) (ls.drop (k + 1)) 1 _ ht hd0
      simp (config := {contextual := true, implicitDefEqProofs := false, maxSteps := 4000000}) only [go_sem, ↓reduceIte, Bool.false_eq_true, Nat.reduceEqDiff, Nat.reduceAdd, Int.reduceLE, Int.reduceLT, Int.reduceEq, Int.reduceToNat, Int.toNat_natCast, Int.cast_ofNat_Int, Int.natCast_one, Nat.reduceMod, Nat.reduceDiv, UInt8.reduceToNat, Nat.reduceLT, c9y, k12, k13, k14, k15a, k15b, hx, hz, hu, hkw, hne0, hw1, show decide ((0 : Int) ≠ 0) = false from rfl, show decide ((0 : Int) = 0) = true from rfl, slc_hi true ls k hk, slc_hi1 true ls k hk, ka, kb, show decide (min 2 1 = 2) = false from rfl, and_self, and_true, and_false, false_and, decide_true, decide_false, Nat.min_self]
      rw [LeaveW_bool _ (Nat.zero_le _)]
    · have kb := fun st (ht : Fw.look 1 st.heap = some (.tok 49 (ls.take k).length 4)) => app_tok1 st (ls.take k) (ls.drop (k + 1)) 1 _ ht hd0 (by omega) hDL
      simp (config := {contextual := true, implicitDefEqProofs := false, maxSteps := 4000000}) only [go_sem, ↓reduceIte, Bool.false_eq_true, Nat.reduceEqDiff, Nat.reduceAdd, Int.reduceLE, Int.reduceLT, Int.reduceEq, Int.reduceToNat, Int.toNat_natCast, Int.cast_ofNat_Int, Int.natCast_one, Nat.reduceMod, Nat.reduceDiv, UInt8.reduceToNat, Nat.reduceLT, c9y, k12, k13, k14, k15a, k15b, hx, hz, hu, hkw, hne0, hw1, show decide ((0 : Int) ≠ 0) = false from rfl, show decide ((0 : Int) = 0) = true from rfl, slc_hi true ls k hk, slc_hi1 true ls k hk, ka, kb, show decide (min 2 1 = 2) = false from rfl, and_self, and_true, and_false, false_and, decide_true, decide_false, Nat.min_self]
      rw [LeaveW_bool _ (Nat.zero_le _)]
theorem hlaw4 (as0 : List AV) (h : TyArgs Try.prog Try.f4.params.toList as0) : ∃ k s', callF cx k 4 as0 st0 = some (.bool true, s') := by
  obtain ⟨a1, r1, rfl, h1, a3, r3, rfl, h3, h4⟩ : ∃ a1 r1, as0 = a1 :: r1 ∧ TyArg Try.prog 26 a1 ∧ ∃ a3 r3, r1 = a3 :: r3 ∧ TyArg Try.prog 3 a3 ∧ r3 = [] := h
  subst h4
  obtain ⟨b1, fs, rfl⟩ := TyArg_forms h1
  obtain ⟨n, rfl, _⟩ := TyArg_int Try.underlying3 h3
  obtain ⟨k', v, s', h9, rfl⟩ := law4 fs b1 n
  exact ⟨k', s', h9⟩
end T10
