/- Parts of the proof, one behind the other. -/
import Derived.Test.YtgpfcgpgbflpgaaK10w
/- SchemaLess: the law's function answers true. -/
namespace T10
open Go Fw Go.Proofs
set_option maxRecDepth 100000
set_option linter.unusedSimpArgs false
set_option linter.unusedVariables false
set_option maxHeartbeats 4000000 in
theorem law8 (fs : List Form) (b1 b2 : Bool) (ls : List Line) (turn : Int) : CallW cx 8 [slv b1 fs.length (encFs fs), slv b2 ls.length (encLs ls), .int .i64 turn] { heap := [], next := 0, low := 0 } fun v _ => v = .bool true := by
  refine CallW.fn' (fn := ir8) rfl rfl (by kernel_rfl) ir8.eq_1 ?_
  have k12 := fun st K => c12 fs b1 st K
  have k16 := fun st K => c16 ls b2 st K
  by_cases hr : 0 ≤ roomFs fs 40
  case neg =>
    have hx : decide (0 ≤ roomFs fs 40) = false := by simp; omega
    simp (config := {contextual := true, implicitDefEqProofs := false, maxSteps := 4000000}) only [go_sem, ↓reduceIte, Bool.false_eq_true, Nat.reduceEqDiff, Nat.reduceAdd, Int.reduceLE, Int.reduceLT, Int.reduceEq, Int.reduceToNat, Int.toNat_natCast, Int.cast_ofNat_Int, Int.natCast_one, Nat.reduceMod, Nat.reduceDiv, UInt8.reduceToNat, Nat.reduceLT, c9y, k12, hx]
  obtain ⟨hsm, hc⟩ := room_small fs 40 (by omega) hr
  have hcnt : cntFs fs ≤ 40 := by omega
  have hx : decide (0 ≤ roomFs fs 40) = true := by simp [hr]
  by_cases hlf : 0 ≤ leftLs ls 300
  case neg =>
    have hy : decide (0 ≤ leftLs ls 300) = false := by simp; omega
    simp (config := {contextual := true, implicitDefEqProofs := false, maxSteps := 4000000}) only [go_sem, ↓reduceIte, Bool.false_eq_true, Nat.reduceEqDiff, Nat.reduceAdd, Int.reduceLE, Int.reduceLT, Int.reduceEq, Int.reduceToNat, Int.toNat_natCast, Int.cast_ofNat_Int, Int.natCast_one, Nat.reduceMod, Nat.reduceDiv, UInt8.reduceToNat, Nat.reduceLT, c9y, k12, k16, hx, hy]
  obtain ⟨hfew, hcl0⟩ := left_few ls 300 (by omega) (by omega) hlf
  have hcl : cntLs ls ≤ 300 := by omega
  have hy : decide (0 ≤ leftLs ls 300) = true := by simp [hlf]
  have hllen := cntLs_length ls
  by_cases hl0 : ls.length = 0
  · have hz : decide ((ls.length : Int) = 0) = true := by simp [hl0]
    simp (config := {contextual := true, implicitDefEqProofs := false, maxSteps := 4000000}) only [go_sem, ↓reduceIte, Bool.false_eq_true, Nat.reduceEqDiff, Nat.reduceAdd, Int.reduceLE, Int.reduceLT, Int.reduceEq, Int.reduceToNat, Int.toNat_natCast, Int.cast_ofNat_Int, Int.natCast_one, Nat.reduceMod, Nat.reduceDiv, UInt8.reduceToNat, Nat.reduceLT, c9y, k12, k16, hx, hy, hz]
  have hz : decide ((ls.length : Int) = 0) = false := decide_eq_false (by omega)
  have k13 := fun st K => c13 fs hsm hcnt b1 st K
  by_cases hv : checkS fs = 0
  case neg =>
    have hu : decide (checkS fs ≠ 0) = true := by simp [hv]
    simp (config := {contextual := true, implicitDefEqProofs := false, maxSteps := 4000000}) only [go_sem, ↓reduceIte, Bool.false_eq_true, Nat.reduceEqDiff, Nat.reduceAdd, Int.reduceLE, Int.reduceLT, Int.reduceEq, Int.reduceToNat, Int.toNat_natCast, Int.cast_ofNat_Int, Int.natCast_one, Nat.reduceMod, Nat.reduceDiv, UInt8.reduceToNat, Nat.reduceLT, c9y, k12, k16, k13, hx, hy, hz, hu]
  rw [hv] at k13
  obtain ⟨k, hk, hkw⟩ := turn_lt turn ls.length (by omega) (by omega)
  have hwl : IntKind.u64.wrap (ls.length : Int) = ls.length := by rw [wrap_u64]; omega
  have hne0 : (IntKind.u64.wrap (ls.length : Int) = 0) = False := by
    rw [hwl]; simp; intro h; simp [h] at hl0
  have k15a := fun st K => c15 fs hsm hcnt hv b1 b2 .no ls hfew hcl st K
  simp only [slo_no, encFl] at k15a
  have hm1 := match_iff fs ls
  generalize hg1 : matchF fs ls = g1 at *
  by_cases hok : g1.1 = 0
  case neg =>
    have hu : decide (g1.1 ≠ 0) = true := by simp [hok]
    simp (config := {contextual := true, implicitDefEqProofs := false, maxSteps := 4000000}) only [go_sem, ↓reduceIte, Bool.false_eq_true, Nat.reduceEqDiff, Nat.reduceAdd, Int.reduceLE, Int.reduceLT, Int.reduceEq, Int.reduceToNat, Int.toNat_natCast, Int.cast_ofNat_Int, Int.natCast_one, Nat.reduceMod, Nat.reduceDiv, UInt8.reduceToNat, Nat.reduceLT, c9y, k12, k16, k13, k15a, hx, hy, hz, hu, show decide ((0 : Int) ≠ 0) = false from rfl]
  have hu : decide (g1.1 ≠ 0) = false := by simp [hok]
  have hfine := hm1.1 hok
  obtain ⟨j, hj, hjl, _⟩ := hfine.1 ls[k] (List.getElem_mem hk)
  have k20 := fun st K => c20 fs (by have := cntFs_length fs; omega) b1 ls[k] st K
  have hB : ∀ args s K, CallW cx 18 args s K = @CallB cx 18 args s ⟨K⟩ := fun _ _ _ => rfl
  simp (config := {contextual := true, implicitDefEqProofs := false, maxSteps := 4000000}) only [go_sem, ↓reduceIte, Bool.false_eq_true, Nat.reduceEqDiff, Nat.reduceAdd, Int.reduceLE, Int.reduceLT, Int.reduceEq, Int.reduceToNat, Int.toNat_natCast, Int.cast_ofNat_Int, Int.natCast_one, Nat.reduceMod, Nat.reduceDiv, UInt8.reduceToNat, Nat.reduceLT, c9y, k12, k16, k13, k15a, k20, hj, hx, hy, hz, hu, hkw, hne0, show decide ((0 : Int) ≠ 0) = false from rfl, sub_line hk, encL_eq, hB]
  refine ⟨by omega, ?_⟩
  have hcnt18 := fun s K hK => c18 fs hsm hcnt hv b1 b2 .no ls (by omega) s K hK
  simp only [slo_no] at hcnt18
  refine hcnt18 _ _ fun st' hC hlow hold hclk => ?_
  obtain ⟨hp, nx, lw⟩ := st'
  simp only at hC hlow hold hclk
  have hlw : lw = 0 := by omega
  subst hlw
  have hl0' := hold 0 (by omega)
  simp only [Fw.look, ↓reduceIte] at hl0'
  have hcsl : (countGo fs ls (List.replicate fs.length 0)).length = fs.length := by rw [countGo_length]; simp
  have hcsg := countGo_get fs j ls (List.replicate fs.length 0) (by simp) hjl
  have hrep : (List.replicate fs.length (0 : Int)).getD j 0 = 0 := by simp [List.getD, hjl]
  rw [hrep] at hcsg
  generalize hcs : countGo fs ls (List.replicate fs.length 0) = cs at *
  have hjc : j < cs.length := by omega
  have hcj : cs[j] = (occ fs j ls : Int) := by
    have : cs.getD j 0 = cs[j] := by simp [List.getD, hjc]
    omega
  have hless := less_iff fs ls hfine k hk j hj hjl
  have hm2 := match_iff fs (ls.take k ++ ls.drop (k + 1))
  have hfew2 : fewLs (ls.take k ++ ls.drop (k + 1)) := fewLs_of fun l hl => fewLs_mem hfew l (by
    rcases List.mem_append.1 hl with h | h
    · exact List.mem_of_mem_take h
    · exact List.mem_of_mem_drop h)
  have hcl2 : cntLs (ls.take k ++ ls.drop (k + 1)) ≤ 300 := by
    have h1 := cntLs_append (ls.take k) (ls.drop k)
    rw [List.take_append_drop, List.drop_eq_getElem_cons hk] at h1
    simp only [cntLs] at h1
    rw [cntLs_append]; omega
  have hgd : fs.getD j default = fs[j] := by simp [List.getD, hjl]
  rw [hgd] at hless
  have k15b : ∀ o st K, CallW cx 15 [slv b1 fs.length (encFs fs), .slice (encLs (ls.take k ++ ls.drop (k + 1))) ((ls.take k).length + (ls.drop (k + 1)).length) o] st K = K (.tuple [encFl (matchF fs (ls.take k ++ ls.drop (k + 1))), .int .i64 0]) st := fun o st K => by
    have := c15 fs hsm hcnt hv b1 false o (ls.take k ++ ls.drop (k + 1)) hfew2 hcl2 st K
    simp only [slo, Bool.false_eq_true, false_and, if_false, List.length_append] at this
    exact this
  simp only [encFl] at k15b
  generalize hg2 : matchF fs (ls.take k ++ ls.drop (k + 1)) = g2 at *
  have hdec : decide (g2.1 = 0) = decide (fs[j].least < cs[j]) := by
    rw [Bool.eq_iff_iff, decide_eq_true_eq, decide_eq_true_eq, hm2, hless, hcj]
  have hw1 := wrap_one (i := k) (by omega)
  have hjlt : decide ((j : Int) < 0) = false := by simp
  have hjge : decide ((fs.length : Int) ≤ (j : Int)) = false := by simp; omega
  have hn0 : (nx = 0) = False := by simp; omega
  have h0n : (0 = nx) = False := by simp; omega
  have h1n : (1 = nx) = False := by simp; omega
  have hn1 : (nx = 1) = False := by simp; omega
  have hmn : min 0 nx = 0 := by omega
  have hTL : (ls.take k).length = k := by rw [List.length_take]; omega
  have hDL : (ls.drop (k + 1)).length ≤ 1000 := by rw [List.length_drop]; omega
  have hnn : (nx + 1 = nx) = False := by simp
  have hmm : (min (nx + 1) nx = nx + 1) = False := by simp
  have hp0 : ∀ o, Fw.look 0 (put 0 o hp) = some o := fun o => by rw [look_put, if_pos rfl, hl0']; rfl
  have hp1 : ∀ o, Fw.look 1 (put 0 o hp) = some (.cells none (cntV cs)) := fun o => by rw [look_put, if_neg (by omega)]; exact hclk
  have ha : ∀ st : St, (ls.take k).length ≠ 0 → _ := fun st h => app_nil st (ls.take k) h (by omega)
  have hb : ∀ st : St, (ls.drop (k + 1)).length ≠ 0 → _ := fun st h => app_nil st (ls.drop (k + 1)) h (by omega)
  by_cases hk0 : (ls.take k).length = 0
  · have hT0 : ls.take k = [] := List.eq_nil_of_length_eq_zero hk0
    rw [hk0, hT0] at k15b
    simp only [Nat.zero_add, List.nil_append] at k15b
    have ka := fun st => app_nil0 st (ls.take k) hk0
    by_cases hd0 : (ls.drop (k + 1)).length = 0
    · have hD0 : ls.drop (k + 1) = [] := List.eq_nil_of_length_eq_zero hd0
      rw [hD0] at k15b
      simp only [encLs, List.length_nil] at k15b
      have kb := fun st => app_nil0 st (ls.drop (k + 1)) hd0
      simp (config := {contextual := true, implicitDefEqProofs := false, maxSteps := 4000000}) only [go_sem, ↓reduceIte, Bool.false_eq_true, Nat.reduceEqDiff, Nat.reduceAdd, Int.reduceLE, Int.reduceLT, Int.reduceEq, Int.reduceToNat, Int.toNat_natCast, Int.cast_ofNat_Int, Int.natCast_one, Nat.reduceMod, Nat.reduceDiv, UInt8.reduceToNat, Nat.reduceLT, kb_k, show decide ((0 : Int) ≠ 0) = false from rfl, show decide ((0 : Int) = 0) = true from rfl, hjlt, hjge, hw1, slc_hi b2 ls k hk, slc_hi1 b2 ls k hk, ka, kb, k15b, hl0', hclk, hp0, hp1, hn0, h0n, h1n, hn1, hnn, hmm, hmn, and_self, and_true, and_false, false_and, decide_true, decide_false, sub_form hjl, sub_cnt hjc, sub_least hjl, Nat.min_self]
      exact ⟨by omega, by omega, by rw [hdec]; simp⟩
    · have kb := fun st => hb st hd0
      simp (config := {contextual := true, implicitDefEqProofs := false, maxSteps := 4000000}) only [go_sem, ↓reduceIte, Bool.false_eq_true, Nat.reduceEqDiff, Nat.reduceAdd, Int.reduceLE, Int.reduceLT, Int.reduceEq, Int.reduceToNat, Int.toNat_natCast, Int.cast_ofNat_Int, Int.natCast_one, Nat.reduceMod, Nat.reduceDiv, UInt8.reduceToNat, Nat.reduceLT, kb_k, show decide ((0 : Int) ≠ 0) = false from rfl, show decide ((0 : Int) = 0) = true from rfl, hjlt, hjge, hw1, slc_hi b2 ls k hk, slc_hi1 b2 ls k hk, ka, kb, k15b, hl0', hclk, hp0, hp1, hn0, h0n, h1n, hn1, hnn, hmm, hmn, and_self, and_true, and_false, false_and, decide_true, decide_false, sub_form hjl, sub_cnt hjc, sub_least hjl, Nat.min_self]
      exact ⟨by omega, by omega, by rw [hdec]; simp⟩
  · have ka := fun st => ha st hk0
    by_cases hd0 : (ls.drop (k + 1)).length = 0
    · have kb := fun st (ht : Fw.look nx st.heap = some (.tok 49 (ls.take k).length 4)) => app_tok0 st (ls.take k) (ls.drop (k + 1)) nx _ ht hd0
      simp (config := {contextual := true, implicitDefEqProofs := false, maxSteps := 4000000}) only [go_sem, ↓reduceIte, Bool.false_eq_true, Nat.reduceEqDiff, Nat.reduceAdd, Int.reduceLE, Int.reduceLT, Int.reduceEq, Int.reduceToNat, Int.toNat_natCast, Int.cast_ofNat_Int, Int.natCast_one, Nat.reduceMod, Nat.reduceDiv, UInt8.reduceToNat, Nat.reduceLT, kb_k, show decide ((0 : Int) ≠ 0) = false from rfl, show decide ((0 : Int) = 0) = true from rfl, hjlt, hjge, hw1, slc_hi b2 ls k hk, slc_hi1 b2 ls k hk, ka, kb, k15b, hl0', hclk, hp0, hp1, hn0, h0n, h1n, hn1, hnn, hmm, hmn, and_self, and_true, and_false, false_and, decide_true, decide_false, sub_form hjl, sub_cnt hjc, sub_least hjl, Nat.min_self]
      exact ⟨by omega, by omega, by rw [hdec]; simp⟩
    · have kb := fun st (ht : Fw.look nx st.heap = some (.tok 49 (ls.take k).length 4)) => app_tok1 st (ls.take k) (ls.drop (k + 1)) nx _ ht hd0 (by omega) hDL
      simp (config := {contextual := true, implicitDefEqProofs := false, maxSteps := 4000000}) only [go_sem, ↓reduceIte, Bool.false_eq_true, Nat.reduceEqDiff, Nat.reduceAdd, Int.reduceLE, Int.reduceLT, Int.reduceEq, Int.reduceToNat, Int.toNat_natCast, Int.cast_ofNat_Int, Int.natCast_one, Nat.reduceMod, Nat.reduceDiv, UInt8.reduceToNat, Nat.reduceLT, kb_k, show decide ((0 : Int) ≠ 0) = false from rfl, show decide ((0 : Int) = 0) = true from rfl, hjlt, hjge, hw1, slc_hi b2 ls k hk, slc_hi1 b2 ls k hk, ka, kb, k15b, hl0', hclk, hp0, hp1, hn0, h0n, h1n, hn1, hnn, hmm, hmn, and_self, and_true, and_false, false_and, decide_true, decide_false, sub_form hjl, sub_cnt hjc, sub_least hjl, Nat.min_self]
      refine ⟨by omega, by omega, ?_⟩
      rw [LeaveW_bool _ (Nat.zero_le _), hdec]; simp
theorem hlaw8 (as0 : List AV) (h : TyArgs Try.prog Try.f8.params.toList as0) : ∃ k s', callF cx k 8 as0 st0 = some (.bool true, s') := by
  obtain ⟨a1, r1, rfl, h1, a2, r2, rfl, h2, a3, r3, rfl, h3, h4⟩ : ∃ a1 r1, as0 = a1 :: r1 ∧ TyArg Try.prog 26 a1 ∧ ∃ a2 r2, r1 = a2 :: r2 ∧ TyArg Try.prog 30 a2 ∧ ∃ a3 r3, r2 = a3 :: r3 ∧ TyArg Try.prog 3 a3 ∧ r3 = [] := h
  subst h4
  obtain ⟨b1, fs, rfl⟩ := TyArg_forms h1
  obtain ⟨b2, ls, rfl⟩ := TyArg_lines h2
  obtain ⟨n, rfl, _⟩ := TyArg_int Try.underlying3 h3
  obtain ⟨k', v, s', h9, rfl⟩ := law8 fs b1 b2 ls n
  exact ⟨k', s', h9⟩
end T10
