/- Parts of the proof, one behind the other. -/
import Derived.Test.YtgpfcgpgbflpgaaK10zb
/- SchemaMatches: the law's function answers true. -/
namespace T10
open Go Fw Go.Proofs
set_option maxRecDepth 100000
set_option linter.unusedSimpArgs false
set_option linter.unusedVariables false
theorem l7a (b1 b2 : Bool) (fs : List Form) (hcnt : fs.length ≤ 40) (ls : List Line) (hll : ls.length ≤ 300) (st : St) (Q : Sig → FE → St → Prop) : ∀ (n i : Nat) (e : FE), i + n = ls.length →
    e 0 = slv b1 fs.length (encFs fs) → e 1 = slv b2 ls.length (encLs ls) → e 5 = .int .i64 i →
    (∀ e', e' 0 = slv b1 fs.length (encFs fs) → e' 1 = slv b2 ls.length (encLs ls) → Q (.exit 0) e' st) → WLoop cx ir7L0 e st Q
  | 0, i, e, hi, h0, h1, h5, hT => by
    refine WLoop.rnd (c := _) ir7L0.eq_1 ?_
    have hd : decide ((i : Int) < (ls.length : Int)) = false := by simp; omega
    simp (config := {contextual := true, implicitDefEqProofs := false, maxSteps := 4000000}) only [go_sem, ↓reduceIte, Bool.false_eq_true, Nat.reduceEqDiff, Nat.reduceAdd, Int.reduceLE, Int.reduceLT, Int.reduceEq, Int.reduceToNat, Int.toNat_natCast, Int.cast_ofNat_Int, Int.natCast_one, Nat.reduceMod, Nat.reduceDiv, UInt8.reduceToNat, Nat.reduceLT, h0, h1, h5, hd]
    exact hT _ h0 h1
  | n + 1, i, e, hi, h0, h1, h5, hT => by
    refine WLoop.rnd (c := _) ir7L0.eq_1 ?_
    have hlt : i < ls.length := by omega
    have hd : decide ((i : Int) < (ls.length : Int)) = true := by simp; omega
    have hw := wrap_one (i := i) (by omega)
    have k20 := fun st K => c20 fs hcnt b1 ls[i] st K
    have k21 := fun st K => c21 fs hcnt b1 ls[i] st K
    have hy : ∀ v : Int, decide (v ≠ v) = false := fun v => by simp
    simp (config := {contextual := true, implicitDefEqProofs := false, maxSteps := 4000000}) only [go_sem, ↓reduceIte, Bool.false_eq_true, Nat.reduceEqDiff, Nat.reduceAdd, Int.reduceLE, Int.reduceLT, Int.reduceEq, Int.reduceToNat, Int.toNat_natCast, Int.cast_ofNat_Int, Int.natCast_one, Nat.reduceMod, Nat.reduceDiv, UInt8.reduceToNat, Nat.reduceLT, h0, h1, h5, hd, hw, sub_line hlt, encL_eq, k20, k21, hy]
    refine ⟨by omega, by omega, ?_⟩
    exact l7a b1 b2 fs hcnt ls hll st Q n (i + 1) _ (by omega) h0 h1 rfl hT
theorem l7b (cs : List Int) (n0 : Nat) (hcl : cs.length = n0) (hn0 : n0 ≤ 40) (C D : Nat) (st : St) (hc : Fw.look C st.heap = some (.cells none (cntV cs))) (hd' : Fw.look D st.heap = some (.cells none (cntV cs))) (Q : Sig → FE → St → Prop) : ∀ (n i : Nat) (e : FE), i + n = n0 →
    e 8 = .mslice C 0 n0 (some n0) → e 10 = .mslice D 0 n0 (some n0) → e 11 = .int .i64 i → (∀ e', Q (.exit 2) e' st) → WLoop cx ir7L1 e st Q
  | 0, i, e, hi, h8, h10, h11, hT => by
    refine WLoop.rnd (c := _) ir7L1.eq_1 ?_
    have hd : decide ((i : Int) < (n0 : Int)) = false := by simp; omega
    simp (config := {contextual := true, implicitDefEqProofs := false, maxSteps := 4000000}) only [go_sem, ↓reduceIte, Bool.false_eq_true, Nat.reduceEqDiff, Nat.reduceAdd, Int.reduceLE, Int.reduceLT, Int.reduceEq, Int.reduceToNat, Int.toNat_natCast, Int.cast_ofNat_Int, Int.natCast_one, Nat.reduceMod, Nat.reduceDiv, UInt8.reduceToNat, Nat.reduceLT, h8, h10, h11, hd]
    exact hT _
  | n + 1, i, e, hi, h8, h10, h11, hT => by
    refine WLoop.rnd (c := _) ir7L1.eq_1 ?_
    have hlt : i < cs.length := by omega
    have hd : decide ((i : Int) < (n0 : Int)) = true := by simp; omega
    have hw := wrap_one (i := i) (by omega)
    have hy : ∀ v : Int, decide (v ≠ v) = false := fun v => by simp
    simp (config := {contextual := true, implicitDefEqProofs := false, maxSteps := 4000000}) only [go_sem, ↓reduceIte, Bool.false_eq_true, Nat.reduceEqDiff, Nat.reduceAdd, Int.reduceLE, Int.reduceLT, Int.reduceEq, Int.reduceToNat, Int.toNat_natCast, Int.cast_ofNat_Int, Int.natCast_one, Nat.reduceMod, Nat.reduceDiv, UInt8.reduceToNat, Nat.reduceLT, h8, h10, h11, hd, hw, hc, hd', sub_cnt hlt, hy]
    refine ⟨by omega, by omega, ?_⟩
    exact l7b cs n0 hcl hn0 C D st hc hd' Q n (i + 1) _ (by omega) h8 h10 rfl hT
theorem ceq_refl (x y z : Int) : cellsEq [.int, .int, .int] [.int .i64 x, .int .i64 y, .int .i64 z] [.int .i64 x, .int .i64 y, .int .i64 z] = some true := by simp [cellsEq, cellEqK]
theorem resR_match (fs : List Form) (ls : List Line) : resR (lowM ls fs (List.replicate fs.length 0)) (9, 1, 1) = matchF fs ls := rfl
set_option maxHeartbeats 4000000 in
theorem law7 (fs : List Form) (b1 b2 : Bool) (ls : List Line) : CallW cx 7 [slv b1 fs.length (encFs fs), slv b2 ls.length (encLs ls)] { heap := [], next := 0, low := 0 } fun v _ => v = .bool true := by
  refine CallW.fn' (fn := ir7) rfl rfl (by kernel_rfl) ir7.eq_1 ?_
  have k12 := fun st K => c12 fs b1 st K
  have k16 := fun st K => c16 ls b2 st K
  by_cases hr : 0 ≤ roomFs fs 40
  case neg =>
    have hx : decide (0 ≤ roomFs fs 40) = false := by simp; omega
    simp (config := {contextual := true, implicitDefEqProofs := false, maxSteps := 4000000}) only [go_sem, ↓reduceIte, Bool.false_eq_true, Nat.reduceEqDiff, Nat.reduceAdd, Int.reduceLE, Int.reduceLT, Int.reduceEq, Int.reduceToNat, Int.toNat_natCast, Int.cast_ofNat_Int, Int.natCast_one, Nat.reduceMod, Nat.reduceDiv, UInt8.reduceToNat, Nat.reduceLT, c9y, k12, hx]
  obtain ⟨hsm, hc⟩ := room_small fs 40 (by omega) hr
  have hcnt : cntFs fs ≤ 40 := by omega
  have hflen := cntFs_length fs
  have hx : decide (0 ≤ roomFs fs 40) = true := by simp [hr]
  by_cases hlf : 0 ≤ leftLs ls 300
  case neg =>
    have hy : decide (0 ≤ leftLs ls 300) = false := by simp; omega
    simp (config := {contextual := true, implicitDefEqProofs := false, maxSteps := 4000000}) only [go_sem, ↓reduceIte, Bool.false_eq_true, Nat.reduceEqDiff, Nat.reduceAdd, Int.reduceLE, Int.reduceLT, Int.reduceEq, Int.reduceToNat, Int.toNat_natCast, Int.cast_ofNat_Int, Int.natCast_one, Nat.reduceMod, Nat.reduceDiv, UInt8.reduceToNat, Nat.reduceLT, c9y, k12, k16, hx, hy]
  obtain ⟨hfew, hcl0⟩ := left_few ls 300 (by omega) (by omega) hlf
  have hcl : cntLs ls ≤ 300 := by omega
  have hy : decide (0 ≤ leftLs ls 300) = true := by simp [hlf]
  have hllen := cntLs_length ls
  simp (config := {contextual := true, implicitDefEqProofs := false, maxSteps := 4000000}) only [go_sem, ↓reduceIte, Bool.false_eq_true, Nat.reduceEqDiff, Nat.reduceAdd, Int.reduceLE, Int.reduceLT, Int.reduceEq, Int.reduceToNat, Int.toNat_natCast, Int.cast_ofNat_Int, Int.natCast_one, Nat.reduceMod, Nat.reduceDiv, UInt8.reduceToNat, Nat.reduceLT, c9y, k12, k16, hx, hy]
  refine l7a b1 b2 fs (by omega) ls (by omega) _ _ ls.length 0 _ (by omega) rfl rfl rfl fun e' h0 h1 => ?_
  have k17 := fun st K => c17 fs hsm hcnt b1 st K
  rw [← check_eq fs hsm] at k17
  by_cases hv : checkS fs = 0
  case neg =>
    have hu : decide (checkS fs ≠ 0) = true := by simp [hv]
    simp (config := {contextual := true, implicitDefEqProofs := false, maxSteps := 4000000}) only [go_sem, ↓reduceIte, Bool.false_eq_true, Nat.reduceEqDiff, Nat.reduceAdd, Int.reduceLE, Int.reduceLT, Int.reduceEq, Int.reduceToNat, Int.toNat_natCast, Int.cast_ofNat_Int, Int.natCast_one, Nat.reduceMod, Nat.reduceDiv, UInt8.reduceToNat, Nat.reduceLT, h0, h1, k17, hu]
  rw [hv] at k17
  have hok := ok_of_check hv
  have k15a := fun st K => c15 fs hsm hcnt hv b1 b2 .no ls hfew hcl st K
  have k23 := fun st K => c23 ls fs b1 b2 (9, 1, 1) st K hsm hcnt hok hfew hcl
  rw [resR_match] at k23
  simp only [slo_no, encFl] at k15a k23
  generalize hg : matchF fs ls = g at *
  have hB : ∀ args s K, CallW cx 18 args s K = @CallB cx 18 args s ⟨K⟩ := fun _ _ _ => rfl
  have hB2 : ∀ args s K, CallW cx 22 args s K = @CallB cx 22 args s ⟨K⟩ := fun _ _ _ => rfl
  simp (config := {contextual := true, implicitDefEqProofs := false, maxSteps := 4000000}) only [go_sem, ↓reduceIte, Bool.false_eq_true, Nat.reduceEqDiff, Nat.reduceAdd, Int.reduceLE, Int.reduceLT, Int.reduceEq, Int.reduceToNat, Int.toNat_natCast, Int.cast_ofNat_Int, Int.natCast_one, Nat.reduceMod, Nat.reduceDiv, UInt8.reduceToNat, Nat.reduceLT, h0, h1, k17, k15a, hB, show decide ((0 : Int) ≠ 0) = false from rfl]
  have hcnt18 := fun s K hK => c18 fs hsm hcnt hv b1 b2 .no ls (by omega) s K hK
  simp only [slo_no] at hcnt18
  refine hcnt18 _ _ fun st' hC hlow hold hclk => ?_
  obtain ⟨hp, nx, lw⟩ := st'
  simp only at hC hlow hold hclk
  have hlw : lw = 0 := by omega
  subst hlw
  have hl0' := hold 0 (by omega)
  simp only [Fw.look, ↓reduceIte] at hl0'
  simp (config := {contextual := true, implicitDefEqProofs := false, maxSteps := 4000000}) only [go_sem, ↓reduceIte, Bool.false_eq_true, Nat.reduceEqDiff, Nat.reduceAdd, Int.reduceLE, Int.reduceLT, Int.reduceEq, Int.reduceToNat, Int.toNat_natCast, Int.cast_ofNat_Int, Int.natCast_one, Nat.reduceMod, Nat.reduceDiv, UInt8.reduceToNat, Nat.reduceLT, kb_k, h0, h1, hB2]
  have hcnt22 := fun s K hK => c22 fs hcnt b1 b2 .no ls (by omega) s K hK
  simp only [slo_no] at hcnt22
  refine hcnt22 _ _ fun st2 hC2 hlow2 hold2 hclk2 => ?_
  obtain ⟨hp2, nx2, lw2⟩ := st2
  simp only at hC2 hlow2 hold2 hclk2
  have hlw : lw2 = 0 := by omega
  subst hlw
  have hl02 := (hold2 0 (by omega)).trans hl0'
  have hl12 := (hold2 1 hC).trans hclk
  have hcsl : (countGo fs ls (List.replicate fs.length 0)).length = fs.length := by rw [countGo_length]; simp
  generalize hcs : countGo fs ls (List.replicate fs.length 0) = cs at *
  have hne : ∀ v : Int, decide (v ≠ v) = false := fun v => by simp
  simp (config := {contextual := true, implicitDefEqProofs := false, maxSteps := 4000000}) only [go_sem, ↓reduceIte, Bool.false_eq_true, Nat.reduceEqDiff, Nat.reduceAdd, Int.reduceLE, Int.reduceLT, Int.reduceEq, Int.reduceToNat, Int.toNat_natCast, Int.cast_ofNat_Int, Int.natCast_one, Nat.reduceMod, Nat.reduceDiv, UInt8.reduceToNat, Nat.reduceLT, kb_k, h0, h1, hl02, k23, hne, ceq_refl, show decide ((0 : Int) ≠ 0) = false from rfl, and_self, decide_true]
  refine l7b cs fs.length hcsl (by omega) 1 nx _ hl12 hclk2 _ fs.length 0 _ (by omega) rfl rfl rfl fun e'' => ?_
  simp (config := {contextual := true, implicitDefEqProofs := false, maxSteps := 4000000}) only [go_sem, ↓reduceIte, Bool.false_eq_true, Nat.reduceEqDiff, Nat.reduceAdd, Int.reduceLE, Int.reduceLT, Int.reduceEq, Int.reduceToNat, Int.toNat_natCast, Int.cast_ofNat_Int, Int.natCast_one, Nat.reduceMod, Nat.reduceDiv, UInt8.reduceToNat, Nat.reduceLT]
theorem hlaw7 (as0 : List AV) (h : TyArgs Try.prog Try.f7.params.toList as0) : ∃ k s', callF cx k 7 as0 st0 = some (.bool true, s') := by
  obtain ⟨a1, r1, rfl, h1, a2, r2, rfl, h2, h4⟩ : ∃ a1 r1, as0 = a1 :: r1 ∧ TyArg Try.prog 26 a1 ∧ ∃ a2 r2, r1 = a2 :: r2 ∧ TyArg Try.prog 30 a2 ∧ r2 = [] := h
  subst h4
  obtain ⟨b1, fs, rfl⟩ := TyArg_forms h1
  obtain ⟨b2, ls, rfl⟩ := TyArg_lines h2
  obtain ⟨k', v, s', h9, rfl⟩ := law7 fs b1 b2 ls
  exact ⟨k', s', h9⟩
end T10
