/- Parts of the proof, one behind the other. -/
import Derived.Test.YtgpfcgpgbflpgaaK10xa
/- Valid forms at every depth; the size of the example. -/
namespace T10
open Go Fw Go.Proofs
set_option maxRecDepth 100000
set_option linter.unusedSimpArgs false
set_option linter.unusedVariables false
inductive Deep (P : List Form → Prop) : List Form → Prop
  | mk {fs : List Form} (h : P fs) (hk : ∀ f ∈ fs, Deep P f.kids) : Deep P fs
theorem Deep.top {P : List Form → Prop} {fs : List Form} (h : Deep P fs) : P fs := by cases h with | mk h _ => exact h
theorem Deep.kids {P : List Form → Prop} {fs : List Form} (h : Deep P fs) : ∀ f ∈ fs, Deep P f.kids := by cases h with | mk _ h => exact h
def goodS (fs : List Form) : Prop := (∀ f ∈ fs, kindsF f = true ∧ limitsF f = true) ∧ dupGo [] fs = false
theorem deep_of : ∀ (fs : List Form) (d : Int), allS (eachC 3 kindsF) fs d = 0 → allS (eachC 6 limitsF) fs d = 0 → allS twiceC fs d = 0 → Deep goodS fs := by
  refine forms_ind fun fs ih => ?_
  intro d h1 h2 h3
  obtain ⟨a1, b1⟩ := allS_zero _ _ _ h1
  obtain ⟨a2, b2⟩ := allS_zero _ _ _ h2
  obtain ⟨a3, b3⟩ := allS_zero _ _ _ h3
  refine .mk ⟨fun f hf => ⟨?_, ?_⟩, ?_⟩ fun f hf => ih f hf (d + 1) (b1 f hf) (b2 f hf) (b3 f hf)
  · simp only [eachC] at a1
    split at a1
    · rename_i ha; exact List.all_eq_true.1 ha f hf
    · omega
  · simp only [eachC] at a2
    split at a2
    · rename_i ha; exact List.all_eq_true.1 ha f hf
    · omega
  · simp only [twiceC] at a3
    split at a3
    · omega
    · rename_i ha; simpa using ha
theorem deep_of_check {fs : List Form} (h : checkS fs = 0) : Deep goodS fs := by
  simp only [checkS, firstNZ] at h
  split at h
  · contradiction
  split at h
  · contradiction
  split at h
  · contradiction
  split at h
  · contradiction
  split at h
  · contradiction
  rename_i h3 h4 h5
  exact deep_of fs 0 (by simpa using h3) (by simpa using h4) (by simpa using h5)
theorem limits_iff (f : Form) (h : limitsF f = true) : 0 ≤ f.least ∧ f.least ≤ 1000 ∧ 1 ≤ f.most ∧ f.most ≤ 1000 ∧ f.least ≤ f.most := by
  simpa only [limitsF, Bool.and_eq_true, decide_eq_true_eq, and_assoc] using h
mutual
def szF : Form → Nat
  | .mk w an a kn k l m => l.toNat * (1 + szFs k)
def szFs : List Form → Nat
  | [] => 0
  | f :: fs => szF f + szFs fs
end
theorem szF_eq (f : Form) : szF f = f.least.toNat * (1 + szFs f.kids) := by cases f; simp only [szF, Form.least, Form.kids]
theorem sz_step (n least : Int) (S R : Nat) (hn : 0 ≤ n) (hn2 : n ≤ 1001) (hl : 0 < least) (hl2 : least ≤ 1000) :
    min 1001 (min 1001 (n + least * (1 + min 1001 (S : Int))) + (R : Int)) = min 1001 (n + ((least.toNat * (1 + S) + R : Nat) : Int)) := by
  obtain ⟨m, rfl⟩ : ∃ m : Nat, least = (m : Int) := ⟨least.toNat, by omega⟩
  rw [Int.toNat_natCast]
  by_cases hS : S ≤ 1001
  · rw [show min (1001 : Int) (S : Int) = S by omega]
    have h1 : ((m * (1 + S) + R : Nat) : Int) = (m : Int) * (1 + (S : Int)) + R := by push_cast; rfl
    rw [h1]
    generalize (m : Int) * (1 + (S : Int)) = X
    omega
  · rw [show min (1001 : Int) (S : Int) = 1001 by omega]
    have h1 : 1 * (1 + S) ≤ m * (1 + S) := Nat.mul_le_mul_right _ (by omega)
    have h2 : (1 : Int) * (1 + 1001) ≤ (m : Int) * (1 + 1001) := Int.mul_le_mul_of_nonneg_right (by omega) (by omega)
    generalize (m : Int) * (1 + 1001) = X at *
    generalize m * (1 + S) = Y at *
    omega
theorem l38 (b : Bool) (fs : List Form) (hcnt : fs.length ≤ 40) (hl : ∀ f ∈ fs, limitsF f = true) (L : Nat)
    (hk : ∀ f ∈ fs, ∀ (b : Bool) (s : St) (K : AV → St → Prop), CallW cx 38 [slv b f.kids.length (encFs f.kids)] s K = K (.int .i64 (min 1001 (szFs f.kids : Int))) s) (Q : Sig → FE → St → Prop) : ∀ (n i : Nat) (a : Int) (e : FE) (st : St), i + n = fs.length → 0 ≤ a → a ≤ 1001 → st.low = L → L ≤ st.next →
    e 3 = .int .i64 a → e 6 = slv b fs.length (encFs fs) → e 7 = .int .i64 fs.length → e 8 = .int .i64 i →
    (∀ e' st', st'.low = L → e' 3 = .int .i64 (min 1001 (a + (szFs (fs.drop i) : Int))) → Q (.exit 0) e' st') → WLoop cx ir38L0 e st Q
  | 0, i, a, e, st, hi, ha, ha2, hL, hLn, h3, h6, h7, h8, hT => by
    refine WLoop.rnd (c := _) ir38L0.eq_1 ?_
    have hd : decide ((i : Int) < (fs.length : Int)) = false := by simp; omega
    simp (config := {contextual := true, implicitDefEqProofs := false, maxSteps := 4000000}) only [go_sem, ↓reduceIte, Bool.false_eq_true, Nat.reduceEqDiff, Nat.reduceAdd, Int.reduceLE, Int.reduceLT, Int.reduceEq, Int.reduceToNat, Int.toNat_natCast, Int.cast_ofNat_Int, Int.natCast_one, Nat.reduceMod, Nat.reduceDiv, UInt8.reduceToNat, Nat.reduceLT, h3, h6, h7, h8, hd]
    refine hT _ _ hL ?_
    rw [List.drop_eq_nil_of_le (by omega)]
    simp only [szFs]
    rw [show min (1001 : Int) (a + ((0 : Nat) : Int)) = a by omega]
    exact h3
  | n + 1, i, a, e, st, hi, ha, ha2, hL, hLn, h3, h6, h7, h8, hT => by
    refine WLoop.rnd (c := _) ir38L0.eq_1 ?_
    have hd : decide ((i : Int) < (fs.length : Int)) = true := by simp; omega
    have hw := wrap_one (i := i) (by omega)
    have hlt : i < fs.length := by omega
    have hmem := List.getElem_mem hlt
    obtain ⟨g1, g2, _⟩ := limits_iff _ (hl _ hmem)
    have hmin : min st.low st.next = st.low := by omega
    have k38 := fun st K => hk fs[i] hmem fs[i].kn st K
    rw [List.drop_eq_getElem_cons hlt] at hT
    simp only [szFs, szF_eq] at hT
    by_cases hp : 0 < fs[i].least
    · have hx : decide (0 < fs[i].least) = true := by simp [hp]
      have hS : (0 : Int) ≤ min 1001 (szFs fs[i].kids : Int) ∧ min 1001 (szFs fs[i].kids : Int) ≤ 1001 := by omega
      have hstep := sz_step a fs[i].least (szFs fs[i].kids) (szFs (fs.drop (i + 1))) ha ha2 hp g2
      rw [← hstep] at hT
      generalize min 1001 (szFs fs[i].kids : Int) = S at *
      have hm1 : 0 ≤ fs[i].least * (1 + S) := Int.mul_nonneg (by omega) (by omega)
      have hm2 : fs[i].least * (1 + S) ≤ 1000 * 1002 := by
        have q1 := Int.mul_le_mul_of_nonneg_right g2 (show (0 : Int) ≤ 1 + S by omega)
        omega
      have w1 : IntKind.i64.wrap (1 + S) = 1 + S := wrap_i64 (by omega) (by omega)
      have w2 : IntKind.i64.wrap (fs[i].least * (1 + S)) = fs[i].least * (1 + S) := wrap_i64 (by omega) (by omega)
      have w3 : IntKind.i64.wrap (a + fs[i].least * (1 + S)) = a + fs[i].least * (1 + S) := wrap_i64 (by omega) (by omega)
      simp (config := {contextual := true, implicitDefEqProofs := false, maxSteps := 4000000}) only [go_sem, ↓reduceIte, Bool.false_eq_true, Nat.reduceEqDiff, Nat.reduceAdd, Int.reduceLE, Int.reduceLT, Int.reduceEq, Int.reduceToNat, Int.toNat_natCast, Int.cast_ofNat_Int, Int.natCast_one, Nat.reduceMod, Nat.reduceDiv, UInt8.reduceToNat, Nat.reduceLT, h3, h6, h7, h8, hd, hw, hx, sub_form hlt, encF_eq, k38, w1, w2, w3, hmin, and_self, decide_true]
      refine ⟨by omega, ?_⟩
      exact l38 b fs hcnt hl L hk Q n (i + 1) _ _ _ (by omega) (by omega) (by omega) hL (by simp only; omega) rfl h6 h7 rfl hT
    · have hx : decide (0 < fs[i].least) = false := by simp [hp]
      have h0 : fs[i].least.toNat = 0 := by omega
      rw [h0, Nat.zero_mul, Nat.zero_add] at hT
      simp (config := {contextual := true, implicitDefEqProofs := false, maxSteps := 4000000}) only [go_sem, ↓reduceIte, Bool.false_eq_true, Nat.reduceEqDiff, Nat.reduceAdd, Int.reduceLE, Int.reduceLT, Int.reduceEq, Int.reduceToNat, Int.toNat_natCast, Int.cast_ofNat_Int, Int.natCast_one, Nat.reduceMod, Nat.reduceDiv, UInt8.reduceToNat, Nat.reduceLT, h3, h6, h7, h8, hd, hw, hx, sub_form hlt, encF_eq, hmin]
      refine ⟨by omega, ?_⟩
      exact l38 b fs hcnt hl L hk Q n (i + 1) a _ _ (by omega) ha ha2 hL (by simp only; omega) h3 h6 h7 rfl hT
theorem c38 : ∀ (fs : List Form) (b : Bool) (s : St) (K : AV → St → Prop), cntFs fs ≤ 40 → Deep goodS fs → CallW cx 38 [slv b fs.length (encFs fs)] s K = K (.int .i64 (min 1001 (szFs fs : Int))) s := by
  refine forms_ind fun fs ih => ?_
  intro b s K hcnt hg
  have hlen := cntFs_length fs
  refine CallW.eq (CallW.fn' (fn := ir38) rfl rfl (by kernel_rfl) ir38.eq_1 ?_) K
  simp (config := {contextual := true, implicitDefEqProofs := false, maxSteps := 4000000}) only [go_sem, ↓reduceIte, Bool.false_eq_true, Nat.reduceEqDiff, Nat.reduceAdd, Int.reduceLE, Int.reduceLT, Int.reduceEq, Int.reduceToNat, Int.toNat_natCast, Int.cast_ofNat_Int, Int.natCast_one, Nat.reduceMod, Nat.reduceDiv, UInt8.reduceToNat, Nat.reduceLT]
  refine l38 b fs (by omega) (fun f hf => (hg.top.1 f hf).2) s.next (fun f hf b s K => ih f hf b s K (by have := cntFs_mem f hf; omega) (hg.kids f hf)) _ fs.length 0 0 _ _ (by omega) (by omega) (by omega) rfl (by simp) rfl rfl rfl rfl ?_
  intro e' st' hl h3
  rw [List.drop_zero] at h3
  simp (config := {contextual := true, implicitDefEqProofs := false, maxSteps := 4000000}) only [go_sem, ↓reduceIte, Bool.false_eq_true, Nat.reduceEqDiff, Nat.reduceAdd, Int.reduceLE, Int.reduceLT, Int.reduceEq, Int.reduceToNat, Int.toNat_natCast, Int.cast_ofNat_Int, Int.natCast_one, Nat.reduceMod, Nat.reduceDiv, UInt8.reduceToNat, Nat.reduceLT, h3]
  rw [LeaveW_int _ _ (by omega)]
  exact ⟨by congr 1; omega, rfl⟩
end T10
