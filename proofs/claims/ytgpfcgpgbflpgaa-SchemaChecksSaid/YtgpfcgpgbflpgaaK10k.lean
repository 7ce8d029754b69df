/- What both checks of forms compute. -/
import Derived.Test.YtgpfcgpgbflpgaaK10j
namespace T10
open Go Fw Go.Proofs
set_option maxRecDepth 100000
set_option linter.unusedSimpArgs false
set_option linter.unusedVariables false
def firstNZ : List Int → Int
  | [] => 0
  | v :: vs => if v ≠ 0 then v else firstNZ vs
theorem l13 (b : Bool) (fs : List Form) (cs : List AV) (vs : List Int) (hlen : cs.length = vs.length) (hl5 : cs.length ≤ 100) (st : St)
    (hcall : ∀ (i : Nat) (h : i < cs.length) (K : AV → St → Prop), CallW cx 37 [slv b fs.length (encFs fs), .int .i64 0, cs[i]] st K = K (.int .i64 (vs.getD i 0)) st)
    (Q : Sig → FE → St → Prop) : ∀ (n i : Nat) (e : FE), i + n = cs.length → e 0 = slv b fs.length (encFs fs) → e 17 = .slice cs cs.length .full → e 18 = .int .i64 cs.length → e 19 = .int .i64 i →
    (firstNZ (vs.drop i) = 0 → ∀ e', Q (.exit 0) e' st) → (firstNZ (vs.drop i) ≠ 0 → ∀ e', e' 2 = .int .i64 (firstNZ (vs.drop i)) → Q .ret e' st) → WLoop cx ir13L0 e st Q
  | 0, i, e, hi, h0, h17, h18, h19, hT, hF => by
    refine WLoop.rnd (c := _) ir13L0.eq_1 ?_
    have hd : decide ((i : Int) < (cs.length : Int)) = false := by simp; omega
    simp (config := {contextual := true, implicitDefEqProofs := false, maxSteps := 4000000}) only [go_sem, ↓reduceIte, Bool.false_eq_true, Nat.reduceEqDiff, Nat.reduceAdd, Int.reduceLE, Int.reduceLT, Int.reduceEq, Int.reduceToNat, Int.toNat_natCast, Int.cast_ofNat_Int, Int.natCast_one, Nat.reduceMod, Nat.reduceDiv, UInt8.reduceToNat, Nat.reduceLT, h17, h18, h19, hd]
    exact hT (by rw [List.drop_eq_nil_of_le (by omega)]; rfl) _
  | n + 1, i, e, hi, h0, h17, h18, h19, hT, hF => by
    refine WLoop.rnd (c := _) ir13L0.eq_1 ?_
    have hd : decide ((i : Int) < (cs.length : Int)) = true := by simp; omega
    have hw := wrap_one (i := i) (by omega)
    have hlt : i < cs.length := by omega
    have hlt2 : i < vs.length := by omega
    have hs := sub_one hlt
    have hg : cs.getD i AV.undef = cs[i] := by simp [List.getD, hlt]
    rw [hg] at hs
    have hc := hcall i hlt
    have hgv : vs.getD i 0 = vs[i] := by simp [List.getD, hlt2]
    rw [hgv] at hc
    rw [List.drop_eq_getElem_cons hlt2] at hT hF
    simp only [firstNZ] at hT hF
    simp (config := {contextual := true, implicitDefEqProofs := false, maxSteps := 4000000}) only [go_sem, ↓reduceIte, Bool.false_eq_true, Nat.reduceEqDiff, Nat.reduceAdd, Int.reduceLE, Int.reduceLT, Int.reduceEq, Int.reduceToNat, Int.toNat_natCast, Int.cast_ofNat_Int, Int.natCast_one, Nat.reduceMod, Nat.reduceDiv, UInt8.reduceToNat, Nat.reduceLT, h0, h17, h18, h19, hd, hw, hs, hc]
    refine ⟨by omega, ?_⟩
    by_cases hv : vs[i] = 0
    · have hx : decide (vs[i] ≠ 0) = false := by simp [hv]
      rw [hx, pif_false]
      rw [if_neg (by simp [hv])] at hT hF
      exact l13 b fs cs vs hlen hl5 st hcall Q n (i + 1) _ (by omega) h0 h17 h18 rfl hT hF
    · have hx : decide (vs[i] ≠ 0) = true := by simp [hv]
      rw [hx, pif_true]
      rw [if_pos hv] at hF
      exact hF hv _ rfl
def checkS (fs : List Form) : Int := firstNZ [allS deepC fs 0, allS (eachC 4 fun f => nameB f.word) fs 0, allS (eachC 3 kindsF) fs 0, allS (eachC 6 limitsF) fs 0, allS twiceC fs 0]
theorem c13 (fs : List Form) (hsm : smallFs fs) (hcnt : cntFs fs ≤ 40) (b : Bool) (s : St) (K : AV → St → Prop) : CallW cx 13 [slv b fs.length (encFs fs)] s K = K (.int .i64 (checkS fs)) s := by
  refine CallW.eq (CallW.fn' (fn := ir13) rfl rfl (by kernel_rfl) ir13.eq_1 ?_) K
  simp (config := {contextual := true, implicitDefEqProofs := false, maxSteps := 4000000}) only [go_sem, ↓reduceIte, Bool.false_eq_true, Nat.reduceEqDiff, Nat.reduceAdd, Int.reduceLE, Int.reduceLT, Int.reduceEq, Int.reduceToNat, Int.toNat_natCast, Int.cast_ofNat_Int, Int.natCast_one, Nat.reduceMod, Nat.reduceDiv, UInt8.reduceToNat, Nat.reduceLT, c33, fillF]
  refine l13 b fs _ [allS deepC fs 0, allS (eachC 4 fun f => nameB f.word) fs 0, allS (eachC 3 kindsF) fs 0, allS (eachC 6 limitsF) fs 0, allS twiceC fs 0] rfl (by simp) _ ?_ _ 5 0 _ rfl rfl rfl rfl rfl ?_ ?_
  · intro i hi K
    have hi5 : i < 5 := hi
    have hsame : ∀ st : St, Same st.next st.heap st := fun st => ⟨Nat.le_refl _, fun _ _ => rfl⟩
    match i, hi5 with
    | 0, _ => exact c37 _ _ _ _ (deepOk _ _) fs b 0 _ K hsm (by omega) hcnt (by omega) (hsame _)
    | 1, _ => exact c37 _ _ _ _ (eachOk 4 (fun f => nameB f.word) 34 good34 (s.next + 1) s.next _ (some 61) (some 28) _ (by simp) (by simp) (by simp [Fw.look]) (by simp [Fw.look])) fs b 0 _ K hsm (by omega) hcnt (by omega) (hsame _)
    | 2, _ => exact c37 _ _ _ _ (eachOk 3 kindsF 36 good36 (s.next + 3) (s.next + 2) _ (some 61) (some 28) _ (by simp) (by simp) (by simp [Fw.look]) (by simp [Fw.look])) fs b 0 _ K hsm (by omega) hcnt (by omega) (hsame _)
    | 3, _ => exact c37 _ _ _ _ (eachOk 6 limitsF 32 good32 (s.next + 5) (s.next + 4) _ (some 61) (some 28) _ (by simp) (by simp) (by simp [Fw.look]) (by simp [Fw.look])) fs b 0 _ K hsm (by omega) hcnt (by omega) (hsame _)
    | 4, _ => exact c37 _ _ _ _ (twiceOk _ _) fs b 0 _ K hsm (by omega) hcnt (by omega) (hsame _)
  · intro h e'
    rw [List.drop_zero] at h
    simp (config := {contextual := true, implicitDefEqProofs := false, maxSteps := 4000000}) only [go_sem, ↓reduceIte, Bool.false_eq_true, Nat.reduceEqDiff, Nat.reduceAdd, Int.reduceLE, Int.reduceLT, Int.reduceEq, Int.reduceToNat, Int.toNat_natCast, Int.cast_ofNat_Int, Int.natCast_one, Nat.reduceMod, Nat.reduceDiv, UInt8.reduceToNat, Nat.reduceLT, checkS, h]
  · intro h e' h2
    rw [List.drop_zero] at h2
    simp (config := {contextual := true, implicitDefEqProofs := false, maxSteps := 4000000}) only [go_sem, ↓reduceIte, Bool.false_eq_true, Nat.reduceEqDiff, Nat.reduceAdd, Int.reduceLE, Int.reduceLT, Int.reduceEq, Int.reduceToNat, Int.toNat_natCast, Int.cast_ofNat_Int, Int.natCast_one, Nat.reduceMod, Nat.reduceDiv, UInt8.reduceToNat, Nat.reduceLT, checkS, h2]

/- the reference -/
mutual
def dF : Form → Int → Int
  | .mk w an a kn k l m, n => if k.isEmpty then n else max n (1 + dGo k 0)
def dGo : List Form → Int → Int
  | [], n => n
  | f :: fs, n => dGo fs (dF f n)
end
theorem dF_eq (f : Form) (n : Int) : dF f n = if f.kids.isEmpty then n else max n (1 + dGo f.kids 0) := by cases f; simp only [dF, Form.kids]; rfl
theorem dGo_bound : ∀ (fs : List Form) (n : Int), 0 ≤ n → n ≤ dGo fs n ∧ dGo fs n ≤ max n (cntFs fs) := by
  refine forms_ind fun fs ih => ?_
  induction fs with
  | nil => intro n hn; simp only [dGo, cntFs]; omega
  | cons f fs ih2 =>
    intro n hn
    simp only [dGo, cntFs, cntF_eq, dF_eq]
    have hk := ih f (by simp) 0 (by omega)
    have := ih2 (fun g hg => ih g (by simp [hg])) (if f.kids.isEmpty = true then n else max n (1 + dGo f.kids 0)) (by split <;> omega)
    split at this <;> rename_i hq <;> simp only [hq] <;> simp only [if_true, Bool.false_eq_true, if_false] <;> omega
theorem l42 (b : Bool) (fs : List Form) (hcnt : cntFs fs ≤ 40) (st : St) (ih : ∀ f ∈ fs, ∀ (b : Bool) (K : AV → St → Prop), CallW cx 42 [slv b f.kids.length (encFs f.kids)] st K = K (.int .i64 (dGo f.kids 0)) st) (Q : Sig → FE → St → Prop) :
    ∀ (n i : Nat) (d : Int) (e : FE), i + n = fs.length → 0 ≤ d → d ≤ 40 → e 0 = slv b fs.length (encFs fs) → e 3 = .int .i64 d → e 4 = .int .i64 i → (∀ e', e' 3 = .int .i64 (dGo (fs.drop i) d) → Q (.exit 0) e' st) → WLoop cx ir42L0 e st Q
  | 0, i, d, e, hi, hd0, hd1, h0, h3, h4, hT => by
    refine WLoop.rnd (c := _) ir42L0.eq_1 ?_
    have hd : decide ((i : Int) < (fs.length : Int)) = false := by simp; omega
    simp (config := {contextual := true, implicitDefEqProofs := false, maxSteps := 4000000}) only [go_sem, ↓reduceIte, Bool.false_eq_true, Nat.reduceEqDiff, Nat.reduceAdd, Int.reduceLE, Int.reduceLT, Int.reduceEq, Int.reduceToNat, Int.toNat_natCast, Int.cast_ofNat_Int, Int.natCast_one, Nat.reduceMod, Nat.reduceDiv, UInt8.reduceToNat, Nat.reduceLT, h0, h3, h4, hd]
    rw [List.drop_eq_nil_of_le (by omega)] at hT
    exact hT _ h3
  | n + 1, i, d, e, hi, hd0, hd1, h0, h3, h4, hT => by
    refine WLoop.rnd (c := _) ir42L0.eq_1 ?_
    have hd : decide ((i : Int) < (fs.length : Int)) = true := by simp; omega
    have hlen := cntFs_length fs
    have hw := wrap_one (i := i) (by omega)
    have hlt : i < fs.length := by omega
    have hc := fun K => ih fs[i] (List.getElem_mem hlt) fs[i].kn K
    have hb := dGo_bound fs[i].kids 0 (by omega)
    have hm := cntFs_mem fs[i] (List.getElem_mem hlt)
    have hw2 : IntKind.i64.wrap (1 + dGo fs[i].kids 0) = 1 + dGo fs[i].kids 0 := wrap_i64 (by omega) (by omega)
    rw [List.drop_eq_getElem_cons hlt] at hT
    simp only [dGo, dF_eq] at hT
    cases hk : fs[i].kids.isEmpty with
    | true =>
      have hk2 : fs[i].kids = [] := by simpa using hk
      have hx : decide (0 < (fs[i].kids.length : Int)) = false := by simp [hk2]
      simp (config := {contextual := true, implicitDefEqProofs := false, maxSteps := 4000000}) only [go_sem, ↓reduceIte, Bool.false_eq_true, Nat.reduceEqDiff, Nat.reduceAdd, Int.reduceLE, Int.reduceLT, Int.reduceEq, Int.reduceToNat, Int.toNat_natCast, Int.cast_ofNat_Int, Int.natCast_one, Nat.reduceMod, Nat.reduceDiv, UInt8.reduceToNat, Nat.reduceLT, h0, h3, h4, hd, hw, sub_kids hlt, hx]
      rw [hk, if_pos rfl] at hT
      refine ⟨by omega, ?_⟩
      exact l42 b fs hcnt st ih Q n (i + 1) d _ (by omega) hd0 hd1 h0 h3 rfl hT
    | false =>
      have hk2 : fs[i].kids ≠ [] := by intro h; simp [h] at hk
      have hp : 0 < fs[i].kids.length := List.length_pos_iff.2 hk2
      have hx : decide (0 < (fs[i].kids.length : Int)) = true := by simp; omega
      simp (config := {contextual := true, implicitDefEqProofs := false, maxSteps := 4000000}) only [go_sem, ↓reduceIte, Bool.false_eq_true, Nat.reduceEqDiff, Nat.reduceAdd, Int.reduceLE, Int.reduceLT, Int.reduceEq, Int.reduceToNat, Int.toNat_natCast, Int.cast_ofNat_Int, Int.natCast_one, Nat.reduceMod, Nat.reduceDiv, UInt8.reduceToNat, Nat.reduceLT, h0, h3, h4, hd, hw, hw2, sub_kids hlt, hx, hc]
      rw [hk] at hT
      simp only [Bool.false_eq_true, if_false] at hT
      refine ⟨by omega, by omega, ?_⟩
      exact l42 b fs hcnt st ih Q n (i + 1) _ _ (by omega) (by omega) (by omega) h0 rfl rfl hT
theorem c42 : ∀ (fs : List Form) (b : Bool) (s : St) (K : AV → St → Prop), cntFs fs ≤ 40 → CallW cx 42 [slv b fs.length (encFs fs)] s K = K (.int .i64 (dGo fs 0)) s := by
  refine forms_ind fun fs ih => ?_
  intro b s K hcnt
  refine CallW.eq (CallW.fn' (fn := ir42) rfl rfl (by kernel_rfl) ir42.eq_1 ?_) K
  simp (config := {contextual := true, implicitDefEqProofs := false, maxSteps := 4000000}) only [go_sem, ↓reduceIte, Bool.false_eq_true, Nat.reduceEqDiff, Nat.reduceAdd, Int.reduceLE, Int.reduceLT, Int.reduceEq, Int.reduceToNat, Int.toNat_natCast, Int.cast_ofNat_Int, Int.natCast_one, Nat.reduceMod, Nat.reduceDiv, UInt8.reduceToNat, Nat.reduceLT]
  refine l42 b fs hcnt _ (fun f hf b K => ih f hf b _ K (by have := cntFs_mem f hf; omega)) _ fs.length 0 0 _ (by omega) (by omega) (by omega) rfl rfl rfl ?_
  intro e' h3
  rw [List.drop_zero] at h3
  simp (config := {contextual := true, implicitDefEqProofs := false, maxSteps := 4000000}) only [go_sem, ↓reduceIte, Bool.false_eq_true, Nat.reduceEqDiff, Nat.reduceAdd, Int.reduceLE, Int.reduceLT, Int.reduceEq, Int.reduceToNat, Int.toNat_natCast, Int.cast_ofNat_Int, Int.natCast_one, Nat.reduceMod, Nat.reduceDiv, UInt8.reduceToNat, Nat.reduceLT, h3]
theorem c28m (a : List UInt8) (ha : a ∈ kindsL) (s : St) (K : AV → St → Prop) : CallW cx 28 [.str a] s K = K (.bool true) s := by
  refine CallW.eq (CallW.fn' (fn := ir28) rfl rfl (by kernel_rfl) ir28.eq_1 ?_) K
  simp (config := {contextual := true, implicitDefEqProofs := false, maxSteps := 4000000}) only [go_sem, ↓reduceIte, Bool.false_eq_true, Nat.reduceEqDiff, Nat.reduceAdd, Int.reduceLE, Int.reduceLT, Int.reduceEq, Int.reduceToNat, Int.toNat_natCast, Int.cast_ofNat_Int, Int.natCast_one, Nat.reduceMod, Nat.reduceDiv, UInt8.reduceToNat, Nat.reduceLT, c49]
  refine l28 kindsL (by decide) a _ _ 9 0 _ rfl rfl rfl rfl ?_ ?_
  · intro h; exact absurd ha h
  · intro _ e' h2
    simp (config := {contextual := true, implicitDefEqProofs := false, maxSteps := 4000000}) only [go_sem, ↓reduceIte, Bool.false_eq_true, Nat.reduceEqDiff, Nat.reduceAdd, Int.reduceLE, Int.reduceLT, Int.reduceEq, Int.reduceToNat, Int.toNat_natCast, Int.cast_ofNat_Int, Int.natCast_one, Nat.reduceMod, Nat.reduceDiv, UInt8.reduceToNat, Nat.reduceLT, h2]
theorem c28g (a : List UInt8) (s : St) (K : AV → St → Prop) : CallW cx 28 [.str a] s K = K (.bool (knownB a)) s := by
  by_cases h : a ∈ kindsL
  · rw [show knownB a = true by simp [knownB, h]]; exact c28m a h s K
  · rw [show knownB a = (decide (2 ≤ a.length) && decide (a.getD 0 0 = 61)) by simp [knownB, h, eqB]]; exact c28 a h s K
def starB (a : List UInt8) : Bool := decide (2 ≤ a.length) && decide (a.getD (a.length - 1) 0 = 42) && !decide (a = [61, 42])
def starW (a : List UInt8) : List UInt8 := if starB a = true then a.take (a.length - 1) else a
theorem star_eq (c : UInt8) : decide ((c.toNat : Int) = 42) = decide (c = 42) := by
  rw [Bool.eq_iff_iff, decide_eq_true_eq, decide_eq_true_eq]
  exact ⟨fun h => byte_eq (n := 42) h, fun h => by rw [h]; rfl⟩
theorem c56 (a : List UInt8) (ha : a.length ≤ 4611686018427387904) (s : St) (K : AV → St → Prop) : CallW cx 56 [.str a] s K = K (.tuple [.str (starW a), .bool (starB a)]) s := by
  refine CallW.eq (CallW.fn' (fn := ir56) rfl rfl (by kernel_rfl) ir56.eq_1 ?_) K
  by_cases h : 2 ≤ a.length
  · have hx : decide (2 ≤ (a.length : Int)) = true := by simp; omega
    have hy : decide (2 ≤ a.length) = true := by simp [h]
    have hw : IntKind.i64.wrap ((a.length : Int) - 1) = ((a.length - 1 : Nat) : Int) := by rw [wrap_i64 (by omega) (by omega)]; omega
    cases h1 : decide (a.getD (a.length - 1) 0 = 42) with
    | false =>
      have hb : starB a = false := by simp only [starB, h1, Bool.and_false, Bool.false_and]
      simp (config := {contextual := true, implicitDefEqProofs := false, maxSteps := 4000000}) only [go_sem, ↓reduceIte, Bool.false_eq_true, Nat.reduceEqDiff, Nat.reduceAdd, Int.reduceLE, Int.reduceLT, Int.reduceEq, Int.reduceToNat, Int.toNat_natCast, Int.cast_ofNat_Int, Int.natCast_one, Nat.reduceMod, Nat.reduceDiv, UInt8.reduceToNat, Nat.reduceLT, hx, hw, star_eq, h1]
      simp only [starW, hb]
      refine ⟨by omega, by omega, ?_⟩; simp
    | true =>
      cases h2 : decide (a = [61, 42]) with
      | true =>
        have h3 : decide (a ≠ [61, 42]) = false := by simp at h2; simp [h2]
        have hb : starB a = false := by simp only [starB, h2, Bool.not_true, Bool.and_false]
        simp (config := {contextual := true, implicitDefEqProofs := false, maxSteps := 4000000}) only [go_sem, ↓reduceIte, Bool.false_eq_true, Nat.reduceEqDiff, Nat.reduceAdd, Int.reduceLE, Int.reduceLT, Int.reduceEq, Int.reduceToNat, Int.toNat_natCast, Int.cast_ofNat_Int, Int.natCast_one, Nat.reduceMod, Nat.reduceDiv, UInt8.reduceToNat, Nat.reduceLT, hx, hw, star_eq, h1, h3]
        simp only [starW, hb]
        refine ⟨by omega, by omega, ?_⟩; simp
      | false =>
        have h3 : decide (a ≠ [61, 42]) = true := by simp at h2; simp [h2]
        have hb : starB a = true := by simp only [starB, h1, h2, hy]; rfl
        simp (config := {contextual := true, implicitDefEqProofs := false, maxSteps := 4000000}) only [go_sem, ↓reduceIte, Bool.false_eq_true, Nat.reduceEqDiff, Nat.reduceAdd, Int.reduceLE, Int.reduceLT, Int.reduceEq, Int.reduceToNat, Int.toNat_natCast, Int.cast_ofNat_Int, Int.natCast_one, Nat.reduceMod, Nat.reduceDiv, UInt8.reduceToNat, Nat.reduceLT, hx, hw, star_eq, h1, h3]
        simp only [starW, hb]
        refine ⟨by omega, by omega, by omega, ?_⟩; simp
  · have hx : decide (2 ≤ (a.length : Int)) = false := by simp; omega
    have hy : decide (2 ≤ a.length) = false := by simp [h]
    have hb : starB a = false := by simp only [starB, hy, Bool.false_and]
    simp (config := {contextual := true, implicitDefEqProofs := false, maxSteps := 4000000}) only [go_sem, ↓reduceIte, Bool.false_eq_true, Nat.reduceEqDiff, Nat.reduceAdd, Int.reduceLE, Int.reduceLT, Int.reduceEq, Int.reduceToNat, Int.toNat_natCast, Int.cast_ofNat_Int, Int.natCast_one, Nat.reduceMod, Nat.reduceDiv, UInt8.reduceToNat, Nat.reduceLT, hx]
    simp only [starW, hb]; simp
end T10
