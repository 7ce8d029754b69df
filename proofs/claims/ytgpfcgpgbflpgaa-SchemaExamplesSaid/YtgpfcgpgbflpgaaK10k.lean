/- Parts of the proof, one behind the other. -/
import Derived.Test.YtgpfcgpgbflpgaaK10f
/- What both checks of forms compute. -/
namespace T10
open Go Fw Go.Proofs
set_option maxRecDepth 100000
set_option linter.unusedSimpArgs false
set_option linter.unusedVariables false
def firstNZ : List Int → Int
  | [] => 0
  | v :: vs => if v ≠ 0 then v else firstNZ vs
theorem l13 (b : Bool) (fs : List Form) (cs : List AV) (vs : List Int) (hlen : cs.length = vs.length) (hl5 : cs.length ≤ 100) (st : St)
    (hcall : ∀ (i : Nat) (h : i < cs.length) (K : AV → St → Prop), CallW cx 37 [slv b fs.length (encFs fs), .int .i64 0, cs[i]] st K = K (.int .i64 (vs.getD i 0)) st)
    (Q : Sig → FE → St → Prop) : ∀ (n i : Nat) (e : FE), i + n = cs.length → e 0 = slv b fs.length (encFs fs) → e 17 = .slice cs cs.length .full → e 18 = .int .i64 cs.length → e 19 = .int .i64 i →
    (firstNZ (vs.drop i) = 0 → ∀ e', Q (.exit 0) e' st) → (firstNZ (vs.drop i) ≠ 0 → ∀ e', e' 2 = .int .i64 (firstNZ (vs.drop i)) → Q .ret e' st) → WLoop cx ir13L0 e st Q
  | 0, i, e, hi, h0, h17, h18, h19, hT, hF => by
    refine WLoop.rnd (c := _) ir13L0.eq_1 ?_
    have hd : decide ((i : Int) < (cs.length : Int)) = false := by simp; omega
    simp (config := {contextual := true, implicitDefEqProofs := false, maxSteps := 4000000}) only [go_sem, ↓reduceIte, Bool.false_eq_true, Nat.reduceEqDiff, Nat.reduceAdd, Int.reduceLE, Int.reduceLT, Int.reduceEq, Int.reduceToNat, Int.toNat_natCast, Int.cast_ofNat_Int, Int.natCast_one, Nat.reduceMod, Nat.reduceDiv, UInt8.reduceToNat, Nat.reduceLT, h17, h18, h19, hd]
    exact hT (by rw [List.drop_eq_nil_of_le (by omega)]; rfl) _
  | n + 1, i, e, hi, h0, h17, h18, h19, hT, hF => by
    refine WLoop.rnd (c := _) ir13L0.eq_1 ?_
    have hd : decide ((i : Int) < (cs.length : Int)) = true := by simp; omega
    have hw := wrap_one (i := i) (by omega)
    have hlt : i < cs.length := by omega
    have hlt2 : i < vs.length := by omega
    have hs := sub_one hlt
    have hg : cs.getD i AV.undef = cs[i] := by simp [List.getD, hlt]
    rw [hg] at hs
    have hc := hcall i hlt
    have hgv : vs.getD i 0 = vs[i] := by simp [List.getD, hlt2]
    rw [hgv] at hc
    rw [List.drop_eq_getElem_cons hlt2] at hT hF
    simp only [firstNZ] at hT hF
    simp (config := {contextual := true, implicitDefEqProofs := false, maxSteps := 4000000}) only [go_sem, ↓reduceIte, Bool.false_eq_true, Nat.reduceEqDiff, Nat.reduceAdd, Int.reduceLE, Int.reduceLT, Int.reduceEq, Int.reduceToNat, Int.toNat_natCast, Int.cast_ofNat_Int, Int.natCast_one, Nat.reduceMod, Nat.reduceDiv, UInt8.reduceToNat, Nat.reduceLT, h0, h17, h18, h19, hd, hw, hs, hc]
    refine ⟨by omega, ?_⟩
    by_cases hv : vs[i] = 0
    · have hx : decide (vs[i] ≠ 0) = false := by simp [hv]
      rw [hx, pif_false]
      rw [if_neg (by simp [hv])] at hT hF
      exact l13 b fs cs vs hlen hl5 st hcall Q n (i + 1) _ (by omega) h0 h17 h18 rfl hT hF
    · have hx : decide (vs[i] ≠ 0) = true := by simp [hv]
      rw [hx, pif_true]
      rw [if_pos hv] at hF
      exact hF hv _ rfl
def checkS (fs : List Form) : Int := firstNZ [allS deepC fs 0, allS (eachC 4 fun f => nameB f.word) fs 0, allS (eachC 3 kindsF) fs 0, allS (eachC 6 limitsF) fs 0, allS twiceC fs 0]
theorem c13 (fs : List Form) (hsm : smallFs fs) (hcnt : cntFs fs ≤ 40) (b : Bool) (s : St) (K : AV → St → Prop) : CallW cx 13 [slv b fs.length (encFs fs)] s K = K (.int .i64 (checkS fs)) s := by
  refine CallW.eq (CallW.fn' (fn := ir13) rfl rfl (by kernel_rfl) ir13.eq_1 ?_) K
  simp (config := {contextual := true, implicitDefEqProofs := false, maxSteps := 4000000}) only [go_sem, ↓reduceIte, Bool.false_eq_true, Nat.reduceEqDiff, Nat.reduceAdd, Int.reduceLE, Int.reduceLT, Int.reduceEq, Int.reduceToNat, Int.toNat_natCast, Int.cast_ofNat_Int, Int.natCast_one, Nat.reduceMod, Nat.reduceDiv, UInt8.reduceToNat, Nat.reduceLT, c33, fillF]
  refine l13 b fs _ [allS deepC fs 0, allS (eachC 4 fun f => nameB f.word) fs 0, allS (eachC 3 kindsF) fs 0, allS (eachC 6 limitsF) fs 0, allS twiceC fs 0] rfl (by simp) _ ?_ _ 5 0 _ rfl rfl rfl rfl rfl ?_ ?_
  · intro i hi K
    have hi5 : i < 5 := hi
    have hsame : ∀ st : St, Same st.next st.heap st := fun st => ⟨Nat.le_refl _, fun _ _ => rfl⟩
    match i, hi5 with
    | 0, _ => exact c37 _ _ _ _ (deepOk _ _) fs b 0 _ K hsm (by omega) hcnt (by omega) (hsame _)
    | 1, _ => exact c37 _ _ _ _ (eachOk 4 (fun f => nameB f.word) 34 good34 (s.next + 1) s.next _ (some 61) (some 28) _ (by simp) (by simp) (by simp [Fw.look]) (by simp [Fw.look])) fs b 0 _ K hsm (by omega) hcnt (by omega) (hsame _)
    | 2, _ => exact c37 _ _ _ _ (eachOk 3 kindsF 36 good36 (s.next + 3) (s.next + 2) _ (some 61) (some 28) _ (by simp) (by simp) (by simp [Fw.look]) (by simp [Fw.look])) fs b 0 _ K hsm (by omega) hcnt (by omega) (hsame _)
    | 3, _ => exact c37 _ _ _ _ (eachOk 6 limitsF 32 good32 (s.next + 5) (s.next + 4) _ (some 61) (some 28) _ (by simp) (by simp) (by simp [Fw.look]) (by simp [Fw.look])) fs b 0 _ K hsm (by omega) hcnt (by omega) (hsame _)
    | 4, _ => exact c37 _ _ _ _ (twiceOk _ _) fs b 0 _ K hsm (by omega) hcnt (by omega) (hsame _)
  · intro h e'
    rw [List.drop_zero] at h
    simp (config := {contextual := true, implicitDefEqProofs := false, maxSteps := 4000000}) only [go_sem, ↓reduceIte, Bool.false_eq_true, Nat.reduceEqDiff, Nat.reduceAdd, Int.reduceLE, Int.reduceLT, Int.reduceEq, Int.reduceToNat, Int.toNat_natCast, Int.cast_ofNat_Int, Int.natCast_one, Nat.reduceMod, Nat.reduceDiv, UInt8.reduceToNat, Nat.reduceLT, checkS, h]
  · intro h e' h2
    rw [List.drop_zero] at h2
    simp (config := {contextual := true, implicitDefEqProofs := false, maxSteps := 4000000}) only [go_sem, ↓reduceIte, Bool.false_eq_true, Nat.reduceEqDiff, Nat.reduceAdd, Int.reduceLE, Int.reduceLT, Int.reduceEq, Int.reduceToNat, Int.toNat_natCast, Int.cast_ofNat_Int, Int.natCast_one, Nat.reduceMod, Nat.reduceDiv, UInt8.reduceToNat, Nat.reduceLT, checkS, h2]

/- the reference -/
mutual
def dF : Form → Int → Int
  | .mk w an a kn k l m, n => if k.isEmpty then n else max n (1 + dGo k 0)
def dGo : List Form → Int → Int
  | [], n => n
  | f :: fs, n => dGo fs (dF f n)
end
theorem dF_eq (f : Form) (n : Int) : dF f n = if f.kids.isEmpty then n else max n (1 + dGo f.kids 0) := by cases f; simp only [dF, Form.kids]; rfl
theorem dGo_bound : ∀ (fs : List Form) (n : Int), 0 ≤ n → n ≤ dGo fs n ∧ dGo fs n ≤ max n (cntFs fs) := by
  refine forms_ind fun fs ih => ?_
  induction fs with
  | nil => intro n hn; simp only [dGo, cntFs]; omega
  | cons f fs ih2 =>
    intro n hn
    simp only [dGo, cntFs, cntF_eq, dF_eq]
    have hk := ih f (by simp) 0 (by omega)
    have := ih2 (fun g hg => ih g (by simp [hg])) (if f.kids.isEmpty = true then n else max n (1 + dGo f.kids 0)) (by split <;> omega)
    split at this <;> rename_i hq <;> simp only [hq] <;> simp only [if_true, Bool.false_eq_true, if_false] <;> omega
theorem l42 (b : Bool) (fs : List Form) (hcnt : cntFs fs ≤ 40) (st : St) (ih : ∀ f ∈ fs, ∀ (b : Bool) (K : AV → St → Prop), CallW cx 42 [slv b f.kids.length (encFs f.kids)] st K = K (.int .i64 (dGo f.kids 0)) st) (Q : Sig → FE → St → Prop) :
    ∀ (n i : Nat) (d : Int) (e : FE), i + n = fs.length → 0 ≤ d → d ≤ 40 → e 0 = slv b fs.length (encFs fs) → e 3 = .int .i64 d → e 4 = .int .i64 i → (∀ e', e' 3 = .int .i64 (dGo (fs.drop i) d) → Q (.exit 0) e' st) → WLoop cx ir42L0 e st Q
  | 0, i, d, e, hi, hd0, hd1, h0, h3, h4, hT => by
    refine WLoop.rnd (c := _) ir42L0.eq_1 ?_
    have hd : decide ((i : Int) < (fs.length : Int)) = false := by simp; omega
    simp (config := {contextual := true, implicitDefEqProofs := false, maxSteps := 4000000}) only [go_sem, ↓reduceIte, Bool.false_eq_true, Nat.reduceEqDiff, Nat.reduceAdd, Int.reduceLE, Int.reduceLT, Int.reduceEq, Int.reduceToNat, Int.toNat_natCast, Int.cast_ofNat_Int, Int.natCast_one, Nat.reduceMod, Nat.reduceDiv, UInt8.reduceToNat, Nat.reduceLT, h0, h3, h4, hd]
    rw [List.drop_eq_nil_of_le (by omega)] at hT
    exact hT _ h3
  | n + 1, i, d, e, hi, hd0, hd1, h0, h3, h4, hT => by
    refine WLoop.rnd (c := _) ir42L0.eq_1 ?_
    have hd : decide ((i : Int) < (fs.length : Int)) = true := by simp; omega
    have hlen := cntFs_length fs
    have hw := wrap_one (i := i) (by omega)
    have hlt : i < fs.length := by omega
    have hc := fun K => ih fs[i] (List.getElem_mem hlt) fs[i].kn K
    have hb := dGo_bound fs[i].kids 0 (by omega)
    have hm := cntFs_mem fs[i] (List.getElem_mem hlt)
    have hw2 : IntKind.i64.wrap (1 + dGo fs[i].kids 0) = 1 + dGo fs[i].kids 0 := wrap_i64 (by omega) (by omega)
    rw [List.drop_eq_getElem_cons hlt] at hT
    simp only [dGo, dF_eq] at hT
    cases hk : fs[i].kids.isEmpty with
    | true =>
      have hk2 : fs[i].kids = [] := by simpa using hk
      have hx : decide (0 < (fs[i].kids.length : Int)) = false := by simp [hk2]
      simp (config := {contextual := true, implicitDefEqProofs := false, maxSteps := 4000000}) only [go_sem, ↓reduceIte, Bool.false_eq_true, Nat.reduceEqDiff, Nat.reduceAdd, Int.reduceLE, Int.reduceLT, Int.reduceEq, Int.reduceToNat, Int.toNat_natCast, Int.cast_ofNat_Int, Int.natCast_one, Nat.reduceMod, Nat.reduceDiv, UInt8.reduceToNat, Nat.reduceLT, h0, h3, h4, hd, hw, sub_kids hlt, hx]
      rw [hk, if_pos rfl] at hT
      refine ⟨by omega, ?_⟩
      exact l42 b fs hcnt st ih Q n (i + 1) d _ (by omega) hd0 hd1 h0 h3 rfl hT
    | false =>
      have hk2 : fs[i].kids ≠ [] := by intro h; simp [h] at hk
      have hp : 0 < fs[i].kids.length := List.length_pos_iff.2 hk2
      have hx : decide (0 < (fs[i].kids.length : Int)) = true := by simp; omega
      simp (config := {contextual := true, implicitDefEqProofs := false, maxSteps := 4000000}) only [go_sem, ↓reduceIte, Bool.false_eq_true, Nat.reduceEqDiff, Nat.reduceAdd, Int.reduceLE, Int.reduceLT, Int.reduceEq, Int.reduceToNat, Int.toNat_natCast, Int.cast_ofNat_Int, Int.natCast_one, Nat.reduceMod, Nat.reduceDiv, UInt8.reduceToNat, Nat.reduceLT, h0, h3, h4, hd, hw, hw2, sub_kids hlt, hx, hc]
      rw [hk] at hT
      simp only [Bool.false_eq_true, if_false] at hT
      refine ⟨by omega, by omega, ?_⟩
      exact l42 b fs hcnt st ih Q n (i + 1) _ _ (by omega) (by omega) (by omega) h0 rfl rfl hT
theorem c42 : ∀ (fs : List Form) (b : Bool) (s : St) (K : AV → St → Prop), cntFs fs ≤ 40 → CallW cx 42 [slv b fs.length (encFs fs)] s K = K (.int .i64 (dGo fs 0)) s := by
  refine forms_ind fun fs ih => ?_
  intro b s K hcnt
  refine CallW.eq (CallW.fn' (fn := ir42) rfl rfl (by kernel_rfl) ir42.eq_1 ?_) K
  simp (config := {contextual := true, implicitDefEqProofs := false, maxSteps := 4000000}) only [go_sem, ↓reduceIte, Bool.false_eq_true, Nat.reduceEqDiff, Nat.reduceAdd, Int.reduceLE, Int.reduceLT, Int.reduceEq, Int.reduceToNat, Int.toNat_natCast, Int.cast_ofNat_Int, Int.natCast_one, Nat.reduceMod, Nat.reduceDiv, UInt8.reduceToNat, Nat.reduceLT]
  refine l42 b fs hcnt _ (fun f hf b K => ih f hf b _ K (by have := cntFs_mem f hf; omega)) _ fs.length 0 0 _ (by omega) (by omega) (by omega) rfl rfl rfl ?_
  intro e' h3
  rw [List.drop_zero] at h3
  simp (config := {contextual := true, implicitDefEqProofs := false, maxSteps := 4000000}) only [go_sem, ↓reduceIte, Bool.false_eq_true, Nat.reduceEqDiff, Nat.reduceAdd, Int.reduceLE, Int.reduceLT, Int.reduceEq, Int.reduceToNat, Int.toNat_natCast, Int.cast_ofNat_Int, Int.natCast_one, Nat.reduceMod, Nat.reduceDiv, UInt8.reduceToNat, Nat.reduceLT, h3]
theorem c28m (a : List UInt8) (ha : a ∈ kindsL) (s : St) (K : AV → St → Prop) : CallW cx 28 [.str a] s K = K (.bool true) s := by
  refine CallW.eq (CallW.fn' (fn := ir28) rfl rfl (by kernel_rfl) ir28.eq_1 ?_) K
  simp (config := {contextual := true, implicitDefEqProofs := false, maxSteps := 4000000}) only [go_sem, ↓reduceIte, Bool.false_eq_true, Nat.reduceEqDiff, Nat.reduceAdd, Int.reduceLE, Int.reduceLT, Int.reduceEq, Int.reduceToNat, Int.toNat_natCast, Int.cast_ofNat_Int, Int.natCast_one, Nat.reduceMod, Nat.reduceDiv, UInt8.reduceToNat, Nat.reduceLT, c49]
  refine l28 kindsL (by decide) a _ _ 9 0 _ rfl rfl rfl rfl ?_ ?_
  · intro h; exact absurd ha h
  · intro _ e' h2
    simp (config := {contextual := true, implicitDefEqProofs := false, maxSteps := 4000000}) only [go_sem, ↓reduceIte, Bool.false_eq_true, Nat.reduceEqDiff, Nat.reduceAdd, Int.reduceLE, Int.reduceLT, Int.reduceEq, Int.reduceToNat, Int.toNat_natCast, Int.cast_ofNat_Int, Int.natCast_one, Nat.reduceMod, Nat.reduceDiv, UInt8.reduceToNat, Nat.reduceLT, h2]
theorem c28g (a : List UInt8) (s : St) (K : AV → St → Prop) : CallW cx 28 [.str a] s K = K (.bool (knownB a)) s := by
  by_cases h : a ∈ kindsL
  · rw [show knownB a = true by simp [knownB, h]]; exact c28m a h s K
  · rw [show knownB a = (decide (2 ≤ a.length) && decide (a.getD 0 0 = 61)) by simp [knownB, h, eqB]]; exact c28 a h s K
def starB (a : List UInt8) : Bool := decide (2 ≤ a.length) && decide (a.getD (a.length - 1) 0 = 42) && !decide (a = [61, 42])
def starW (a : List UInt8) : List UInt8 := if starB a = true then a.take (a.length - 1) else a
theorem star_eq (c : UInt8) : decide ((c.toNat : Int) = 42) = decide (c = 42) := by
  rw [Bool.eq_iff_iff, decide_eq_true_eq, decide_eq_true_eq]
  exact ⟨fun h => byte_eq (n := 42) h, fun h => by rw [h]; rfl⟩
theorem c56 (a : List UInt8) (ha : a.length ≤ 4611686018427387904) (s : St) (K : AV → St → Prop) : CallW cx 56 [.str a] s K = K (.tuple [.str (starW a), .bool (starB a)]) s := by
  refine CallW.eq (CallW.fn' (fn := ir56) rfl rfl (by kernel_rfl) ir56.eq_1 ?_) K
  by_cases h : 2 ≤ a.length
  · have hx : decide (2 ≤ (a.length : Int)) = true := by simp; omega
    have hy : decide (2 ≤ a.length) = true := by simp [h]
    have hw : IntKind.i64.wrap ((a.length : Int) - 1) = ((a.length - 1 : Nat) : Int) := by rw [wrap_i64 (by omega) (by omega)]; omega
    cases h1 : decide (a.getD (a.length - 1) 0 = 42) with
    | false =>
      have hb : starB a = false := by simp only [starB, h1, Bool.and_false, Bool.false_and]
      simp (config := {contextual := true, implicitDefEqProofs := false, maxSteps := 4000000}) only [go_sem, ↓reduceIte, Bool.false_eq_true, Nat.reduceEqDiff, Nat.reduceAdd, Int.reduceLE, Int.reduceLT, Int.reduceEq, Int.reduceToNat, Int.toNat_natCast, Int.cast_ofNat_Int, Int.natCast_one, Nat.reduceMod, Nat.reduceDiv, UInt8.reduceToNat, Nat.reduceLT, hx, hw, star_eq, h1]
      simp only [starW, hb]
      refine ⟨by omega, by omega, ?_⟩; simp
    | true =>
      cases h2 : decide (a = [61, 42]) with
      | true =>
        have h3 : decide (a ≠ [61, 42]) = false := by simp at h2; simp [h2]
        have hb : starB a = false := by simp only [starB, h2, Bool.not_true, Bool.and_false]
        simp (config := {contextual := true, implicitDefEqProofs := false, maxSteps := 4000000}) only [go_sem, ↓reduceIte, Bool.false_eq_true, Nat.reduceEqDiff, Nat.reduceAdd, Int.reduceLE, Int.reduceLT, Int.reduceEq, Int.reduceToNat, Int.toNat_natCast, Int.cast_ofNat_Int, Int.natCast_one, Nat.reduceMod, Nat.reduceDiv, UInt8.reduceToNat, Nat.reduceLT, hx, hw, star_eq, h1, h3]
        simp only [starW, hb]
        refine ⟨by omega, by omega, ?_⟩; simp
      | false =>
        have h3 : decide (a ≠ [61, 42]) = true := by simp at h2; simp [h2]
        have hb : starB a = true := by simp only [starB, h1, h2, hy]; rfl
        simp (config := {contextual := true, implicitDefEqProofs := false, maxSteps := 4000000}) only [go_sem, ↓reduceIte, Bool.false_eq_true, Nat.reduceEqDiff, Nat.reduceAdd, Int.reduceLE, Int.reduceLT, Int.reduceEq, Int.reduceToNat, Int.toNat_natCast, Int.cast_ofNat_Int, Int.natCast_one, Nat.reduceMod, Nat.reduceDiv, UInt8.reduceToNat, Nat.reduceLT, hx, hw, star_eq, h1, h3]
        simp only [starW, hb]
        refine ⟨by omega, by omega, by omega, ?_⟩; simp
  · have hx : decide (2 ≤ (a.length : Int)) = false := by simp; omega
    have hy : decide (2 ≤ a.length) = false := by simp [h]
    have hb : starB a = false := by simp only [starB, hy, Bool.false_and]
    simp (config := {contextual := true, implicitDefEqProofs := false, maxSteps := 4000000}) only [go_sem, ↓reduceIte, Bool.false_eq_true, Nat.reduceEqDiff, Nat.reduceAdd, Int.reduceLE, Int.reduceLT, Int.reduceEq, Int.reduceToNat, Int.toNat_natCast, Int.cast_ofNat_Int, Int.natCast_one, Nat.reduceMod, Nat.reduceDiv, UInt8.reduceToNat, Nat.reduceLT, hx]
    simp only [starW, hb]; simp
end T10

/- What the reference's check of forms computes. -/
namespace T10
open Go Fw Go.Proofs
set_option maxRecDepth 100000
set_option linter.unusedSimpArgs false
set_option linter.unusedVariables false
def kindsRok (n : Nat) : List (List UInt8) → Nat → Bool
  | [], _ => true
  | a :: l, i => (knownB (starW a) && !(starB a && decide (i + 1 < n))) && kindsRok n l (i + 1)
def kindsR (f : Form) : Bool := kindsRok f.args.length f.args 0
theorem l43a (f : Form) (hl : f.args.length ≤ 12) (hs : ∀ a ∈ f.args, a.length ≤ 100) (p : Nat) (st : St) (hp : Fw.look p st.heap = some (.cells (some 55) [.str f.word, slv f.an f.args.length (f.args.map AV.str), slv f.kn f.kids.length (encFs f.kids), .int .i64 f.least, .int .i64 f.most])) (v0 v1 v5 : AV) (Q : Sig → FE → St → Prop) :
    ∀ (n k : Nat) (e : FE), k + n = f.args.length → e 0 = v0 → e 1 = v1 → e 5 = v5 → e 6 = .ptr p 0 → e 7 = .int .i64 k →
    (kindsRok f.args.length (f.args.drop k) k = true → ∀ e', e' 0 = v0 → e' 1 = v1 → e' 5 = v5 → e' 6 = .ptr p 0 → Q (.exit 5) e' st) → (kindsRok f.args.length (f.args.drop k) k = false → ∀ e', e' 4 = .bool true → Q .ret e' st) → WLoop cx ir43L0 e st Q
  | 0, k, e, hk, h0, h1, h5, h6, h7, hT, hF => by
    refine WLoop.rnd (c := _) ir43L0.eq_1 ?_
    have hd : decide ((k : Int) < (f.args.length : Int)) = false := by simp; omega
    simp (config := {contextual := true, implicitDefEqProofs := false, maxSteps := 4000000}) only [go_sem, ↓reduceIte, Bool.false_eq_true, Nat.reduceEqDiff, Nat.reduceAdd, Int.reduceLE, Int.reduceLT, Int.reduceEq, Int.reduceToNat, Int.toNat_natCast, Int.cast_ofNat_Int, Int.natCast_one, Nat.reduceMod, Nat.reduceDiv, UInt8.reduceToNat, Nat.reduceLT, h6, h7, hd, hp]
    exact hT (by rw [List.drop_eq_nil_of_le (by omega)]; rfl) _ h0 h1 h5 h6
  | n + 1, k, e, hk, h0, h1, h5, h6, h7, hT, hF => by
    refine WLoop.rnd (c := _) ir43L0.eq_1 ?_
    have hd : decide ((k : Int) < (f.args.length : Int)) = true := by simp; omega
    have hw := wrap_one (i := k) (by omega)
    have hlt : k < f.args.length := by omega
    have hw2 : IntKind.i64.wrap ((f.args.length : Int) - 1) = ((f.args.length - 1 : Nat) : Int) := by rw [wrap_i64 (by omega) (by omega)]; omega
    have hz : decide ((k : Int) < ((f.args.length - 1 : Nat) : Int)) = decide (k + 1 < f.args.length) := by
      rw [Bool.eq_iff_iff, decide_eq_true_eq, decide_eq_true_eq]; omega
    have hlen := hs _ (List.getElem_mem hlt)
    have k56 := fun st K => c56 f.args[k] (by omega) st K
    rw [List.drop_eq_getElem_cons hlt] at hT hF
    simp only [kindsRok] at hT hF
    have next : ∀ e', (knownB (starW f.args[k]) && !(starB f.args[k] && decide (k + 1 < f.args.length))) = true → e' 0 = v0 → e' 1 = v1 → e' 5 = v5 → e' 6 = .ptr p 0 → e' 7 = .int .i64 ((k + 1 : Nat) : Int) → WLoop cx ir43L0 e' st Q := fun e' hb k0 k1 k5 k6 k7 => by
      rw [hb, Bool.true_and] at hT hF
      exact l43a f hl hs p st hp v0 v1 v5 Q n (k + 1) e' (by omega) k0 k1 k5 k6 k7 hT hF
    simp (config := {contextual := true, implicitDefEqProofs := false, maxSteps := 4000000}) only [go_sem, ↓reduceIte, Bool.false_eq_true, Nat.reduceEqDiff, Nat.reduceAdd, Int.reduceLE, Int.reduceLT, Int.reduceEq, Int.reduceToNat, Int.toNat_natCast, Int.cast_ofNat_Int, Int.natCast_one, Nat.reduceMod, Nat.reduceDiv, UInt8.reduceToNat, Nat.reduceLT, h6, h7, hd, hw, hw2, hz, sub_str hlt, k56, c28g, hp]
    refine ⟨by omega, ?_⟩
    cases hA : knownB (starW f.args[k]) <;> cases hB : starB f.args[k] <;> cases hC : decide (k + 1 < f.args.length) <;> simp only [pif, Bool.not_true, Bool.not_false, if_true, Bool.false_eq_true, if_false]
    all_goals first
      | exact next _ (by rw [hA, hB, hC]; rfl) h0 h1 h5 h6 rfl
      | exact hF (by rw [hA, hB, hC]; rfl) _ rfl
def wordsL (fs : List Form) : List (List UInt8) := fs.map Form.word
theorem l43b (b : Bool) (fs : List Form) (hcnt : fs.length ≤ 40) (i : Nat) (hi : i < fs.length) (f : Form) (p : Nat) (st : St) (hp : Fw.look p st.heap = some (.cells (some 55) [.str f.word, slv f.an f.args.length (f.args.map AV.str), slv f.kn f.kids.length (encFs f.kids), .int .i64 f.least, .int .i64 f.most])) (v1 : AV) (Q : Sig → FE → St → Prop) :
    ∀ (n k : Nat) (e : FE), k + n = i → e 0 = slv b fs.length (encFs fs) → e 1 = v1 → e 5 = .int .i64 i → e 6 = .ptr p 0 → e 10 = .int .i64 k →
    (f.word ∉ (wordsL (fs.take i)).drop k → ∀ e', e' 0 = slv b fs.length (encFs fs) → e' 1 = v1 → e' 5 = .int .i64 i → e' 6 = .ptr p 0 → Q (.exit 3) e' st) → (f.word ∈ (wordsL (fs.take i)).drop k → ∀ e', e' 4 = .bool true → Q .ret e' st) → WLoop cx ir43L1 e st Q
  | 0, k, e, hk, h0, h1, h5, h6, h10, hT, hF => by
    refine WLoop.rnd (c := _) ir43L1.eq_1 ?_
    have hd : decide ((k : Int) < (i : Int)) = false := by simp; omega
    simp (config := {contextual := true, implicitDefEqProofs := false, maxSteps := 4000000}) only [go_sem, ↓reduceIte, Bool.false_eq_true, Nat.reduceEqDiff, Nat.reduceAdd, Int.reduceLE, Int.reduceLT, Int.reduceEq, Int.reduceToNat, Int.toNat_natCast, Int.cast_ofNat_Int, Int.natCast_one, Nat.reduceMod, Nat.reduceDiv, UInt8.reduceToNat, Nat.reduceLT, h5, h10, hd]
    refine hT ?_ _ h0 h1 h5 h6
    rw [List.drop_eq_nil_of_le (by simp [wordsL]; omega)]; simp
  | n + 1, k, e, hk, h0, h1, h5, h6, h10, hT, hF => by
    refine WLoop.rnd (c := _) ir43L1.eq_1 ?_
    have hd : decide ((k : Int) < (i : Int)) = true := by simp; omega
    have hw := wrap_one (i := k) (by omega)
    have hlt : k < fs.length := by omega
    have hk2 : k < (wordsL (fs.take i)).length := by simp [wordsL]; omega
    have hwk : (wordsL (fs.take i))[k] = fs[k].word := by simp [wordsL]
    rw [List.drop_eq_getElem_cons hk2, hwk] at hT hF
    by_cases hq : fs[k].word = f.word
    · have hx : decide (fs[k].word = f.word) = true := by simp [hq]
      simp (config := {contextual := true, implicitDefEqProofs := false, maxSteps := 4000000}) only [go_sem, ↓reduceIte, Bool.false_eq_true, Nat.reduceEqDiff, Nat.reduceAdd, Int.reduceLE, Int.reduceLT, Int.reduceEq, Int.reduceToNat, Int.toNat_natCast, Int.cast_ofNat_Int, Int.natCast_one, Nat.reduceMod, Nat.reduceDiv, UInt8.reduceToNat, Nat.reduceLT, h0, h5, h6, h10, hd, hw, sub_word hlt, hp, hx]
      exact ⟨by omega, hF (by rw [hq]; exact List.mem_cons_self) _ rfl⟩
    · have hx : decide (fs[k].word = f.word) = false := by simp [hq]
      simp (config := {contextual := true, implicitDefEqProofs := false, maxSteps := 4000000}) only [go_sem, ↓reduceIte, Bool.false_eq_true, Nat.reduceEqDiff, Nat.reduceAdd, Int.reduceLE, Int.reduceLT, Int.reduceEq, Int.reduceToNat, Int.toNat_natCast, Int.cast_ofNat_Int, Int.natCast_one, Nat.reduceMod, Nat.reduceDiv, UInt8.reduceToNat, Nat.reduceLT, h0, h5, h6, h10, hd, hw, sub_word hlt, hp, hx]
      refine ⟨by omega, ?_⟩
      refine l43b b fs hcnt i hi f p st hp v1 Q n (k + 1) _ (by omega) h0 h1 h5 h6 rfl (fun h => hT ?_) (fun h => hF (List.mem_cons_of_mem _ h))
      intro hm
      rcases List.mem_cons.1 hm with hm | hm
      · exact hq hm.symm
      · exact h hm
def badD (d : Int) (ws : List (List UInt8)) (f : Form) : Bool := if d = 1 then !nameB f.word else if d = 2 then !kindsR f else if d = 3 then !limitsF f else decide (f.word ∈ ws)
mutual
def smF (d : Int) : Form → Bool
  | .mk w an a kn k l m => smGo d [] k
def smGo (d : Int) : List (List UInt8) → List Form → Bool
  | _, [] => false
  | ws, f :: fs => badD d ws f || smF d f || smGo d (ws ++ [f.word]) fs
end
theorem smF_eq (d : Int) (f : Form) : smF d f = smGo d [] f.kids := by cases f; simp only [smF, Form.kids]
theorem wordsL_take (fs : List Form) (i : Nat) (h : i < fs.length) : wordsL (fs.take (i + 1)) = wordsL (fs.take i) ++ [fs[i].word] := by
  rw [List.take_succ_eq_append_getElem h]; simp only [wordsL, List.map_append, List.map_cons, List.map_nil]
theorem l43 (d : Int) (hd4 : d = 1 ∨ d = 2 ∨ d = 3 ∨ d = 4) (b : Bool) (fs : List Form) (hsm : smallFs fs) (hcnt : fs.length ≤ 40) (L : Nat)
    (ih : ∀ f ∈ fs, ∀ (b : Bool) (st : St) (K : AV → St → Prop), CallW cx 43 [slv b f.kids.length (encFs f.kids), .int .i64 d] st K = K (.bool (smGo d [] f.kids)) st) (Q : Sig → FE → St → Prop) :
    ∀ (n i : Nat) (e : FE) (st : St), i + n = fs.length → st.low = L → L ≤ st.next → e 0 = slv b fs.length (encFs fs) → e 1 = .int .i64 d → e 5 = .int .i64 i →
    (smGo d (wordsL (fs.take i)) (fs.drop i) = false → ∀ e' st', st'.low = L → Q (.exit 0) e' st') → (smGo d (wordsL (fs.take i)) (fs.drop i) = true → ∀ e' st', st'.low = L → e' 4 = .bool true → Q .ret e' st') → WLoop cx ir43L2 e st Q
  | 0, i, e, st, hi, hL, hLn, h0, h1, h5, hT, hF => by
    refine WLoop.rnd (c := _) ir43L2.eq_1 ?_
    have hd : decide ((i : Int) < (fs.length : Int)) = false := by simp; omega
    simp (config := {contextual := true, implicitDefEqProofs := false, maxSteps := 4000000}) only [go_sem, ↓reduceIte, Bool.false_eq_true, Nat.reduceEqDiff, Nat.reduceAdd, Int.reduceLE, Int.reduceLT, Int.reduceEq, Int.reduceToNat, Int.toNat_natCast, Int.cast_ofNat_Int, Int.natCast_one, Nat.reduceMod, Nat.reduceDiv, UInt8.reduceToNat, Nat.reduceLT, h0, h5, hd]
    exact hT (by rw [List.drop_eq_nil_of_le (by omega)]; simp only [smGo]) _ _ hL
  | n + 1, i, e, st, hi, hL, hLn, h0, h1, h5, hT, hF => by
    have hd : decide ((i : Int) < (fs.length : Int)) = true := by simp; omega
    have hw := wrap_one (i := i) (by omega)
    have hlt : i < fs.length := by omega
    have hmin : min st.low st.next = st.low := by omega
    have hsf := smallFs_mem hsm _ (List.getElem_mem hlt)
    rw [smallF_eq] at hsf
    have hc := fun st K => ih fs[i] (List.getElem_mem hlt) fs[i].kn st K
    have k26 := fun st K => c26 fs[i].word (by omega) st K
    rw [List.drop_eq_getElem_cons hlt] at hT hF
    simp only [smGo, smF_eq] at hT hF
    -- what follows once the form itself is found good
    have next : badD d (wordsL (fs.take i)) fs[i] = false → ∀ e' st', st'.low = L → L ≤ st'.next → smGo d [] fs[i].kids = false → e' 0 = slv b fs.length (encFs fs) → e' 1 = .int .i64 d → e' 5 = .int .i64 ((i + 1 : Nat) : Int) → WLoop cx ir43L2 e' st' Q := fun hb e' st' k1 k2 hg k3 k4 k5 => by
      rw [hb, hg, Bool.false_or, Bool.false_or, ← wordsL_take fs i hlt] at hT hF
      exact l43 d hd4 b fs hsm hcnt L ih Q n (i + 1) e' st' (by omega) k1 k2 k3 k4 k5 hT hF
    have bad : badD d (wordsL (fs.take i)) fs[i] = true → ∀ e' st', st'.low = L → e' 4 = .bool true → Q .ret e' st' := fun hb => hF (by rw [hb]; rfl)
    have kid : smGo d [] fs[i].kids = true → ∀ e' st', st'.low = L → e' 4 = .bool true → Q .ret e' st' := fun hb => hF (by rw [hb, Bool.or_true]; rfl)
    clear hT hF
    refine WLoop.rnd (c := _) ir43L2.eq_1 ?_
    rcases hd4 with rfl | rfl | rfl | rfl
    · have hbd : badD 1 (wordsL (fs.take i)) fs[i] = !nameB fs[i].word := rfl
      rw [hbd] at next bad
      simp (config := {contextual := true, implicitDefEqProofs := false, maxSteps := 4000000}) only [go_sem, ↓reduceIte, Bool.false_eq_true, Nat.reduceEqDiff, Nat.reduceAdd, Int.reduceLE, Int.reduceLT, Int.reduceEq, Int.reduceToNat, Int.toNat_natCast, Int.cast_ofNat_Int, Int.natCast_one, Nat.reduceMod, Nat.reduceDiv, UInt8.reduceToNat, Nat.reduceLT, h0, h1, h5, hd, hw, sub_form hlt, encF_eq, hmin, k26, hc]
      refine ⟨by omega, ?_⟩
      cases hn : nameB fs[i].word with
      | false => exact bad (by rw [hn]; rfl) _ _ hL rfl
      | true =>
        cases hg : smGo 1 [] fs[i].kids with
        | true => exact kid hg _ _ hL rfl
        | false => exact next (by rw [hn]; rfl) _ _ hL (by simp only; omega) hg h0 h1 rfl
    · have hbd : badD 2 (wordsL (fs.take i)) fs[i] = !kindsR fs[i] := rfl
      rw [hbd] at next bad
      simp (config := {contextual := true, implicitDefEqProofs := false, maxSteps := 4000000}) only [go_sem, ↓reduceIte, Bool.false_eq_true, Nat.reduceEqDiff, Nat.reduceAdd, Int.reduceLE, Int.reduceLT, Int.reduceEq, Int.reduceToNat, Int.toNat_natCast, Int.cast_ofNat_Int, Int.natCast_one, Nat.reduceMod, Nat.reduceDiv, UInt8.reduceToNat, Nat.reduceLT, h0, h1, h5, hd, hw, sub_form hlt, encF_eq, hmin]
      refine ⟨by omega, ?_⟩
      refine l43a fs[i] hsf.2.1 hsf.2.2.1 st.next _ (by simp [Fw.look]) _ _ _ _ fs[i].args.length 0 _ (by omega) h0 h1 h5 rfl rfl ?_ ?_
      · intro hk e' k0 k1 k5 k6
        rw [List.drop_zero] at hk
        have hkr : kindsR fs[i] = true := hk
        simp (config := {contextual := true, implicitDefEqProofs := false, maxSteps := 4000000}) only [go_sem, ↓reduceIte, Bool.false_eq_true, Nat.reduceEqDiff, Nat.reduceAdd, Int.reduceLE, Int.reduceLT, Int.reduceEq, Int.reduceToNat, Int.toNat_natCast, Int.cast_ofNat_Int, Int.natCast_one, Nat.reduceMod, Nat.reduceDiv, UInt8.reduceToNat, Nat.reduceLT, k0, k1, k5, k6, hw, hc]
        cases hg : smGo 2 [] fs[i].kids with
        | true => exact kid hg _ _ hL rfl
        | false => exact next (by rw [hkr]; rfl) _ _ hL (by simp only; omega) hg k0 k1 rfl
      · intro hk e' k4
        rw [List.drop_zero] at hk
        have hkr : kindsR fs[i] = false := hk
        simp (config := {contextual := true, implicitDefEqProofs := false, maxSteps := 4000000}) only [go_sem, ↓reduceIte, Bool.false_eq_true, Nat.reduceEqDiff, Nat.reduceAdd, Int.reduceLE, Int.reduceLT, Int.reduceEq, Int.reduceToNat, Int.toNat_natCast, Int.cast_ofNat_Int, Int.natCast_one, Nat.reduceMod, Nat.reduceDiv, UInt8.reduceToNat, Nat.reduceLT, k4]
        exact bad (by rw [hkr]; rfl) _ _ hL k4
    · have hbd : badD 3 (wordsL (fs.take i)) fs[i] = !limitsF fs[i] := rfl
      rw [hbd] at next bad
      have n1 : decide (fs[i].least < 0) = !decide (0 ≤ fs[i].least) := by rw [← decide_not]; congr 1; simp
      have n2 : decide (1000 < fs[i].least) = !decide (fs[i].least ≤ 1000) := by rw [← decide_not]; congr 1; simp
      have n3 : decide (fs[i].most < 1) = !decide (1 ≤ fs[i].most) := by rw [← decide_not]; congr 1; simp
      have n4 : decide (1000 < fs[i].most) = !decide (fs[i].most ≤ 1000) := by rw [← decide_not]; congr 1; simp
      have n5 : decide (fs[i].most < fs[i].least) = !decide (fs[i].least ≤ fs[i].most) := by rw [← decide_not]; congr 1; simp
      simp only [limitsF] at next bad
      simp (config := {contextual := true, implicitDefEqProofs := false, maxSteps := 4000000}) only [go_sem, ↓reduceIte, Bool.false_eq_true, Nat.reduceEqDiff, Nat.reduceAdd, Int.reduceLE, Int.reduceLT, Int.reduceEq, Int.reduceToNat, Int.toNat_natCast, Int.cast_ofNat_Int, Int.natCast_one, Nat.reduceMod, Nat.reduceDiv, UInt8.reduceToNat, Nat.reduceLT, h0, h1, h5, hd, hw, sub_form hlt, encF_eq, hmin, hc]
      refine ⟨by omega, ?_⟩
      rw [n1, n2, n3, n4, n5]
      cases hg : smGo 3 [] fs[i].kids <;> cases a1 : decide (0 ≤ fs[i].least) <;> cases a2 : decide (fs[i].least ≤ 1000) <;> cases a3 : decide (1 ≤ fs[i].most) <;> cases a4 : decide (fs[i].most ≤ 1000) <;> cases a5 : decide (fs[i].least ≤ fs[i].most) <;> simp only [pif, Bool.not_true, Bool.not_false, if_true, Bool.false_eq_true, if_false]
      all_goals first
        | exact bad (by rw [a1, a2, a3, a4, a5]; rfl) _ _ hL rfl
        | exact kid hg _ _ hL rfl
        | exact next (by rw [a1, a2, a3, a4, a5]; rfl) _ _ hL (by simp only; omega) hg h0 h1 rfl
    · have hbd : badD 4 (wordsL (fs.take i)) fs[i] = decide (fs[i].word ∈ wordsL (fs.take i)) := rfl
      rw [hbd] at next bad
      simp (config := {contextual := true, implicitDefEqProofs := false, maxSteps := 4000000}) only [go_sem, ↓reduceIte, Bool.false_eq_true, Nat.reduceEqDiff, Nat.reduceAdd, Int.reduceLE, Int.reduceLT, Int.reduceEq, Int.reduceToNat, Int.toNat_natCast, Int.cast_ofNat_Int, Int.natCast_one, Nat.reduceMod, Nat.reduceDiv, UInt8.reduceToNat, Nat.reduceLT, h0, h1, h5, hd, hw, sub_form hlt, encF_eq, hmin]
      refine ⟨by omega, ?_⟩
      refine l43b b fs hcnt i hlt fs[i] st.next _ (by simp [Fw.look]) _ _ i 0 _ (by omega) h0 h1 h5 rfl rfl ?_ ?_
      · intro hk e' k0 k1 k5 k6
        rw [List.drop_zero] at hk
        simp (config := {contextual := true, implicitDefEqProofs := false, maxSteps := 4000000}) only [go_sem, ↓reduceIte, Bool.false_eq_true, Nat.reduceEqDiff, Nat.reduceAdd, Int.reduceLE, Int.reduceLT, Int.reduceEq, Int.reduceToNat, Int.toNat_natCast, Int.cast_ofNat_Int, Int.natCast_one, Nat.reduceMod, Nat.reduceDiv, UInt8.reduceToNat, Nat.reduceLT, k0, k1, k5, k6, hw, hc]
        cases hg : smGo 4 [] fs[i].kids with
        | true => exact kid hg _ _ hL rfl
        | false => exact next (by simp [hk]) _ _ hL (by simp only; omega) hg k0 k1 rfl
      · intro hk e' k4
        rw [List.drop_zero] at hk
        simp (config := {contextual := true, implicitDefEqProofs := false, maxSteps := 4000000}) only [go_sem, ↓reduceIte, Bool.false_eq_true, Nat.reduceEqDiff, Nat.reduceAdd, Int.reduceLE, Int.reduceLT, Int.reduceEq, Int.reduceToNat, Int.toNat_natCast, Int.cast_ofNat_Int, Int.natCast_one, Nat.reduceMod, Nat.reduceDiv, UInt8.reduceToNat, Nat.reduceLT, k4]
        exact bad (by simp [hk]) _ _ hL k4
theorem c43 (d : Int) (hd4 : d = 1 ∨ d = 2 ∨ d = 3 ∨ d = 4) : ∀ (fs : List Form) (b : Bool) (s : St) (K : AV → St → Prop), smallFs fs → cntFs fs ≤ 40 → CallW cx 43 [slv b fs.length (encFs fs), .int .i64 d] s K = K (.bool (smGo d [] fs)) s := by
  refine forms_ind fun fs ih => ?_
  intro b s K hsm hcnt
  have hlen := cntFs_length fs
  refine CallW.eq (CallW.fn' (fn := ir43) rfl rfl (by kernel_rfl) ir43.eq_1 ?_) K
  simp (config := {contextual := true, implicitDefEqProofs := false, maxSteps := 4000000}) only [go_sem, ↓reduceIte, Bool.false_eq_true, Nat.reduceEqDiff, Nat.reduceAdd, Int.reduceLE, Int.reduceLT, Int.reduceEq, Int.reduceToNat, Int.toNat_natCast, Int.cast_ofNat_Int, Int.natCast_one, Nat.reduceMod, Nat.reduceDiv, UInt8.reduceToNat, Nat.reduceLT]
  refine l43 d hd4 b fs hsm (by omega) s.next (fun f hf b st K => ?_) _ fs.length 0 _ _ (by omega) rfl (Nat.le_refl _) rfl rfl rfl ?_ ?_
  · have h1 := cntFs_mem f hf
    have h2 := smallFs_mem hsm f hf
    rw [smallF_eq] at h2
    exact ih f hf b st K h2.2.2.2 (by omega)
  · intro h e' st' hl
    have h' : smGo d [] fs = false := h
    simp (config := {contextual := true, implicitDefEqProofs := false, maxSteps := 4000000}) only [go_sem, ↓reduceIte, Bool.false_eq_true, Nat.reduceEqDiff, Nat.reduceAdd, Int.reduceLE, Int.reduceLT, Int.reduceEq, Int.reduceToNat, Int.toNat_natCast, Int.cast_ofNat_Int, Int.natCast_one, Nat.reduceMod, Nat.reduceDiv, UInt8.reduceToNat, Nat.reduceLT]
    rw [LeaveW_bool _ (by omega)]
    exact ⟨by rw [h'], rfl⟩
  · intro h e' st' hl h4
    have h' : smGo d [] fs = true := h
    simp (config := {contextual := true, implicitDefEqProofs := false, maxSteps := 4000000}) only [go_sem, ↓reduceIte, Bool.false_eq_true, Nat.reduceEqDiff, Nat.reduceAdd, Int.reduceLE, Int.reduceLT, Int.reduceEq, Int.reduceToNat, Int.toNat_natCast, Int.cast_ofNat_Int, Int.natCast_one, Nat.reduceMod, Nat.reduceDiv, UInt8.reduceToNat, Nat.reduceLT, h4]
    rw [LeaveW_bool _ (by omega)]
    exact ⟨by rw [h'], rfl⟩
end T10

/- Both checks of forms answer alike. -/
namespace T10
open Go Fw Go.Proofs
set_option maxRecDepth 100000
set_option linter.unusedSimpArgs false
set_option linter.unusedVariables false
def firstC : List (Bool × Int) → Int
  | [] => 0
  | (c, v) :: vs => if c = true then v else firstC vs
def smList (fs : List Form) : List (Bool × Int) := [(smGo 1 [] fs, 4), (smGo 2 [] fs, 3), (smGo 3 [] fs, 6), (smGo 4 [] fs, 5)]
def codesL : List Int := [4, 3, 6, 5]
theorem l17 (fs : List Form) (hsm : smallFs fs) (hcnt : cntFs fs ≤ 40) (b : Bool) (st : St) (Q : Sig → FE → St → Prop) : ∀ (n i : Nat) (e : FE), i + n = 4 → e 0 = slv b fs.length (encFs fs) → e 3 = .slice (codesL.map (AV.int .i64)) 4 .full → e 4 = .int .i64 i →
    (firstC ((smList fs).drop i) = 0 → ∀ e', Q (.exit 0) e' st) → (firstC ((smList fs).drop i) ≠ 0 → ∀ e', e' 2 = .int .i64 (firstC ((smList fs).drop i)) → Q .ret e' st) → WLoop cx ir17L0 e st Q
  | 0, i, e, hi, h0, h3, h4, hT, hF => by
    refine WLoop.rnd (c := _) ir17L0.eq_1 ?_
    have hd : decide ((i : Int) < 4) = false := by simp; omega
    simp (config := {contextual := true, implicitDefEqProofs := false, maxSteps := 4000000}) only [go_sem, ↓reduceIte, Bool.false_eq_true, Nat.reduceEqDiff, Nat.reduceAdd, Int.reduceLE, Int.reduceLT, Int.reduceEq, Int.reduceToNat, Int.toNat_natCast, Int.cast_ofNat_Int, Int.natCast_one, Nat.reduceMod, Nat.reduceDiv, UInt8.reduceToNat, Nat.reduceLT, h3, h4, hd]
    refine hT ?_ _
    rw [List.drop_eq_nil_of_le (by simp [smList]; omega)]; rfl
  | n + 1, i, e, hi, h0, h3, h4, hT, hF => by
    refine WLoop.rnd (c := _) ir17L0.eq_1 ?_
    have hd : decide ((i : Int) < 4) = true := by simp; omega
    have hw := wrap_one (i := i) (by omega)
    have hi4 : i < 4 := by omega
    have hd4 : ((i + 1 : Nat) : Int) = 1 ∨ ((i + 1 : Nat) : Int) = 2 ∨ ((i + 1 : Nat) : Int) = 3 ∨ ((i + 1 : Nat) : Int) = 4 := by omega
    have hc := fun K => c43 _ hd4 fs b st K hsm hcnt
    have hs : sub (codesL.map (AV.int .i64)) i 1 = some [.int .i64 (codesL.getD i 0)] := by
      match i, hi4 with
      | 0, _ => rfl
      | 1, _ => rfl
      | 2, _ => rfl
      | 3, _ => rfl
    have hm : (smList fs).drop i = (smGo ((i + 1 : Nat) : Int) [] fs, codesL.getD i 0) :: (smList fs).drop (i + 1) := by
      match i, hi4 with
      | 0, _ => rfl
      | 1, _ => rfl
      | 2, _ => rfl
      | 3, _ => rfl
    have hnz : codesL.getD i 0 ≠ 0 := by
      match i, hi4 with
      | 0, _ => decide
      | 1, _ => decide
      | 2, _ => decide
      | 3, _ => decide
    rw [hm] at hT hF
    simp only [firstC] at hT hF
    simp (config := {contextual := true, implicitDefEqProofs := false, maxSteps := 4000000}) only [go_sem, ↓reduceIte, Bool.false_eq_true, Nat.reduceEqDiff, Nat.reduceAdd, Int.reduceLE, Int.reduceLT, Int.reduceEq, Int.reduceToNat, Int.toNat_natCast, Int.cast_ofNat_Int, Int.natCast_one, Nat.reduceMod, Nat.reduceDiv, UInt8.reduceToNat, Nat.reduceLT, h0, h3, h4, hd, hw, hc, hs]
    cases hg : smGo ((i + 1 : Nat) : Int) [] fs with
    | true =>
      rw [hg] at hF
      simp only [if_true] at hF
      rw [pif_true]
      exact ⟨⟨by omega, by omega⟩, hF hnz _ rfl⟩
    | false =>
      rw [hg] at hT hF
      simp only [Bool.false_eq_true, if_false] at hT hF
      rw [pif_false]
      exact l17 fs hsm hcnt b st Q n (i + 1) _ (by omega) h0 h3 rfl hT hF
def checkR (fs : List Form) : Int := if 6 < dGo fs 0 then 7 else firstC (smList fs)
theorem c17 (fs : List Form) (hsm : smallFs fs) (hcnt : cntFs fs ≤ 40) (b : Bool) (s : St) (K : AV → St → Prop) : CallW cx 17 [slv b fs.length (encFs fs)] s K = K (.int .i64 (checkR fs)) s := by
  refine CallW.eq (CallW.fn' (fn := ir17) rfl rfl (by kernel_rfl) ir17.eq_1 ?_) K
  have k42 := fun st K => c42 fs b st K hcnt
  by_cases h : 6 < dGo fs 0
  · have hx : decide (6 < dGo fs 0) = true := by simp [h]
    simp (config := {contextual := true, implicitDefEqProofs := false, maxSteps := 4000000}) only [go_sem, ↓reduceIte, Bool.false_eq_true, Nat.reduceEqDiff, Nat.reduceAdd, Int.reduceLE, Int.reduceLT, Int.reduceEq, Int.reduceToNat, Int.toNat_natCast, Int.cast_ofNat_Int, Int.natCast_one, Nat.reduceMod, Nat.reduceDiv, UInt8.reduceToNat, Nat.reduceLT, k42, hx]
    simp [checkR, h]
  · have hx : decide (6 < dGo fs 0) = false := by simp; omega
    have hr : checkR fs = firstC (smList fs) := by simp [checkR, h]
    simp (config := {contextual := true, implicitDefEqProofs := false, maxSteps := 4000000}) only [go_sem, ↓reduceIte, Bool.false_eq_true, Nat.reduceEqDiff, Nat.reduceAdd, Int.reduceLE, Int.reduceLT, Int.reduceEq, Int.reduceToNat, Int.toNat_natCast, Int.cast_ofNat_Int, Int.natCast_one, Nat.reduceMod, Nat.reduceDiv, UInt8.reduceToNat, Nat.reduceLT, k42, hx, fillF]
    refine l17 fs hsm hcnt b _ _ 4 0 _ rfl rfl rfl rfl ?_ ?_
    · intro h e'
      rw [List.drop_zero] at h
      simp (config := {contextual := true, implicitDefEqProofs := false, maxSteps := 4000000}) only [go_sem, ↓reduceIte, Bool.false_eq_true, Nat.reduceEqDiff, Nat.reduceAdd, Int.reduceLE, Int.reduceLT, Int.reduceEq, Int.reduceToNat, Int.toNat_natCast, Int.cast_ofNat_Int, Int.natCast_one, Nat.reduceMod, Nat.reduceDiv, UInt8.reduceToNat, Nat.reduceLT, hr, h]
    · intro h e' h2
      rw [List.drop_zero] at h2
      simp (config := {contextual := true, implicitDefEqProofs := false, maxSteps := 4000000}) only [go_sem, ↓reduceIte, Bool.false_eq_true, Nat.reduceEqDiff, Nat.reduceAdd, Int.reduceLE, Int.reduceLT, Int.reduceEq, Int.reduceToNat, Int.toNat_natCast, Int.cast_ofNat_Int, Int.natCast_one, Nat.reduceMod, Nat.reduceDiv, UInt8.reduceToNat, Nat.reduceLT, hr, h2]

/- the plain law -/
theorem allS_deep : ∀ (fs : List Form) (d : Int), 0 ≤ d → allS deepC fs d = if fs ≠ [] ∧ 6 < d + dGo fs 0 then 7 else 0 := by
  have acc : ∀ (fs : List Form) (n : Int), 0 ≤ n → dGo fs n = max n (dGo fs 0) := by
    refine forms_ind fun fs ih => ?_
    induction fs with
    | nil => intro n hn; simp only [dGo]; omega
    | cons f fs ih2 =>
      intro n hn
      simp only [dGo, dF_eq]
      have ih2 := ih2 fun g hg => ih g (by simp [hg])
      have hb := dGo_bound f.kids 0 (by omega)
      split
      · exact ih2 n hn
      · rw [ih2 _ (by omega), ih2 (max 0 (1 + dGo f.kids 0)) (by omega)]; omega
  refine forms_ind fun fs ih => ?_
  intro d hd
  have go : ∀ l : List Form, (∀ f ∈ l, f ∈ fs) → allGo deepC l d = if 6 < d + dGo l 0 ∧ 0 < dGo l 0 then 7 else 0 := by
    intro l
    induction l with
    | nil => intro _; simp [allGo, dGo]
    | cons f l ih3 =>
      intro hl
      have ih3 := ih3 fun g hg => hl g (by simp [hg])
      have ihf := ih f (hl f (by simp)) (d + 1) (by omega)
      simp only [allGo, allF_eq, dGo, dF_eq]
      have hb := dGo_bound f.kids 0 (by omega)
      have hbl := dGo_bound l 0 (by omega)
      rw [ihf, ih3]
      by_cases hk : f.kids = []
      · simp only [hk, List.isEmpty_nil, if_true, ne_eq, not_true_eq_false, false_and, if_false]
      · have hke : f.kids.isEmpty = false := by simpa using hk
        simp only [hke, Bool.false_eq_true, if_false, ne_eq, hk, not_false_eq_true, true_and]
        rw [acc l (max 0 (1 + dGo f.kids 0)) (by omega)]
        by_cases h1 : 6 < d + 1 + dGo f.kids 0
        · rw [if_pos h1]; simp only [show ((7 : Int) = 0) = False by simp, not_false_eq_true, if_true]
          rw [if_pos (by omega)]
        · rw [if_neg h1]; simp only [not_true_eq_false, if_false]
          by_cases h2 : 6 < d + dGo l 0 ∧ 0 < dGo l 0
          · rw [if_pos h2, if_pos (by omega)]
          · rw [if_neg h2, if_neg (by omega)]
  unfold allS
  rw [go fs fun _ h => h]
  have hb := dGo_bound fs 0 (by omega)
  by_cases hf : fs = []
  · subst hf; simp [deepC, dGo]
  · simp only [deepC, ne_eq, hf, not_false_eq_true, true_and]
    by_cases h6 : 6 < d
    · have : 6 < d + dGo fs 0 := by omega
      simp [h6, this]
    · rw [if_neg h6]
      simp only [not_true_eq_false, if_false]
      by_cases h7 : 6 < d + dGo fs 0
      · rw [if_pos h7, if_pos (by omega)]
      · rw [if_neg h7, if_neg (by omega)]

/-- a check of each form by itself -/
theorem allS_each (ev : Int) (hev : ev ≠ 0) (good : Form → Bool) (dd : Int) (hbad : ∀ ws f, smallF f → badD dd ws f = !good f) : ∀ (fs : List Form) (d : Int), smallFs fs → ∀ ws, allS (eachC ev good) fs d = if smGo dd ws fs = true then ev else 0 := by
  refine forms_ind fun fs ih => ?_
  intro d hsm ws
  have go : ∀ (l : List Form) (ws : List (List UInt8)), (∀ f ∈ l, f ∈ fs) → smGo dd ws l = (!l.all good || decide (allGo (eachC ev good) l d ≠ 0)) ∧ (allGo (eachC ev good) l d = ev ∨ allGo (eachC ev good) l d = 0) := by
    intro l
    induction l with
    | nil => intro ws _; simp [smGo, allGo]
    | cons f l ih3 =>
      intro ws hl
      have hfm := hl f (by simp)
      have hsf := smallFs_mem hsm f hfm
      have hsk := hsf
      rw [smallF_eq] at hsk
      obtain ⟨h1, h2⟩ := ih3 (ws ++ [f.word]) fun g hg => hl g (by simp [hg])
      have ihf := ih f hfm (d + 1) hsk.2.2.2 []
      simp only [smGo, allGo, allF_eq, smF_eq, hbad ws f hsf, h1, ihf, List.all_cons]
      cases smGo dd [] f.kids <;> cases good f <;> cases l.all good <;> simp [hev] <;> (try rcases h2 with h2 | h2 <;> simp [h2, hev])
  obtain ⟨h1, h2⟩ := go fs ws fun _ h => h
  rw [h1]
  unfold allS
  have he : eachC ev good fs d = if fs.all good = true then 0 else ev := rfl
  rw [he]
  by_cases ha : fs.all good = true
  · simp only [ha, if_true]
    rcases h2 with h2 | h2 <;> simp [h2, hev]
  · have ha' : fs.all good = false := by simpa using ha
    simp [ha', hev]

theorem dup_eq : ∀ (fs : List Form) (ws : List (List UInt8)) (d : Int), smGo 4 ws fs = (dupGo ws fs || fs.any fun f => smGo 4 [] f.kids)
  | [], ws, d => by simp [smGo, dupGo]
  | f :: fs, ws, d => by
    simp only [smGo, dupGo, smF_eq, dup_eq fs _ d, List.any_cons, badD]
    simp only [show ((4 : Int) = 1) = False by simp, show ((4 : Int) = 2) = False by simp, show ((4 : Int) = 3) = False by simp, if_false]
    cases decide (f.word ∈ ws) <;> cases smGo 4 [] f.kids <;> cases dupGo (ws ++ [f.word]) fs <;> simp
theorem allS_twice : ∀ (fs : List Form) (d : Int), allS twiceC fs d = if smGo 4 [] fs = true then 5 else 0 := by
  refine forms_ind fun fs ih => ?_
  intro d
  have go : ∀ (l : List Form), (∀ f ∈ l, f ∈ fs) → allGo twiceC l d = if (l.any fun f => smGo 4 [] f.kids) = true then 5 else 0 := by
    intro l
    induction l with
    | nil => intro _; simp [allGo]
    | cons f l ih3 =>
      intro hl
      have ihf := ih f (hl f (by simp)) (d + 1)
      simp only [allGo, allF_eq, ihf, ih3 fun g hg => hl g (by simp [hg]), List.any_cons]
      by_cases hq : smGo 4 [] f.kids = true <;> simp [hq]
  unfold allS
  rw [go fs fun _ h => h, dup_eq fs [] 0]
  simp only [twiceC]
  by_cases hq : dupGo [] fs = true <;> simp [hq]

theorem starW_len {a : List UInt8} (h : a = [42]) : True := trivial
theorem split_star (a : List UInt8) : (splitB a = starB a ∧ splitW a = starW a) ∨ (a = [42] ∧ splitW a = []) := by
  by_cases h2 : 2 ≤ a.length
  · left
    have hb : splitB a = starB a := by
      simp only [splitB, starB, endsStar]
      have hy : decide (2 ≤ a.length) = true := by simp [h2]
      have hz : decide (1 ≤ a.length) = true := by simp; omega
      have hd := drop_at (a := a) (i := a.length - 1) (by omega)
      rw [show a.length - 1 + 1 = a.length by omega, List.drop_length] at hd
      rw [hy, hz, hd, Bool.true_and, Bool.true_and]
      have : decide ([a.getD (a.length - 1) 0] = [42]) = decide (a.getD (a.length - 1) 0 = 42) := by
        congr 1; simp
      rw [this, Bool.and_comm]
    exact ⟨hb, by simp only [splitW, starW, hb]⟩
  · match a, h2 with
    | [], _ => left; exact ⟨rfl, rfl⟩
    | [c], _ =>
      by_cases hc : c = 42
      · right; subst hc; exact ⟨rfl, rfl⟩
      · left
        have h1 : splitB [c] = false := by simp [splitB, endsStar, hc]
        have h3 : starB [c] = false := by simp [starB]
        exact ⟨by rw [h1, h3], by simp [splitW, starW, h1, h3]⟩
    | _ :: _ :: _, h2 => simp at h2
theorem kinds_eq (n : Nat) : ∀ (l : List (List UInt8)) (i : Nat), kindsOk n l i = kindsRok n l i
  | [], _ => rfl
  | a :: l, i => by
    simp only [kindsOk, kindsRok, kinds_eq n l (i + 1)]
    rcases split_star a with ⟨h1, h2⟩ | ⟨rfl, h2⟩
    · rw [h1, h2]
    · rw [h2]
      have h3 : knownB [] = false := by decide
      have h4 : knownB (starW [42]) = false := by decide
      rw [h3, h4]; rfl
theorem check_eq (fs : List Form) (hsm : smallFs fs) : checkS fs = checkR fs := by
  have h1 := allS_deep fs 0 (by omega)
  have h2 := allS_each 4 (by omega) (fun f => nameB f.word) 1 (fun ws f _ => rfl) fs 0 hsm []
  have h3 := allS_each 3 (by omega) kindsF 2 (fun ws f _ => by show (!kindsR f) = _; rw [show kindsR f = kindsF f from (kinds_eq _ _ _).symm]) fs 0 hsm []
  have h4 := allS_each 6 (by omega) limitsF 3 (fun ws f _ => rfl) fs 0 hsm []
  have h5 := allS_twice fs 0
  by_cases h6 : 6 < dGo fs 0
  · have hf : fs ≠ [] := by intro hf; subst hf; simp [dGo] at h6
    have h1' : allS deepC fs 0 = 7 := by rw [h1, if_pos ⟨hf, by omega⟩]
    simp [checkS, checkR, firstNZ, h1', h6]
  · have h1' : allS deepC fs 0 = 0 := by rw [h1, if_neg (by omega)]
    simp only [checkS, checkR, smList, firstC, firstNZ, h1', h2, h3, h4, h5]
    by_cases q1 : smGo 1 [] fs = true <;> by_cases q2 : smGo 2 [] fs = true <;> by_cases q3 : smGo 3 [] fs = true <;> by_cases q4 : smGo 4 [] fs = true <;> simp [h6, q1, q2, q3, q4]
end T10
