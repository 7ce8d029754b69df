/- What the reference's check of forms computes. -/
import Derived.Test.YtgpfcgpgbflpgaaK10k
namespace T10
open Go Fw Go.Proofs
set_option maxRecDepth 100000
set_option linter.unusedSimpArgs false
set_option linter.unusedVariables false
def kindsRok (n : Nat) : List (List UInt8) → Nat → Bool
  | [], _ => true
  | a :: l, i => (knownB (starW a) && !(starB a && decide (i + 1 < n))) && kindsRok n l (i + 1)
def kindsR (f : Form) : Bool := kindsRok f.args.length f.args 0
theorem l43a (f : Form) (hl : f.args.length ≤ 12) (hs : ∀ a ∈ f.args, a.length ≤ 100) (p : Nat) (st : St) (hp : Fw.look p st.heap = some (.cells (some 55) [.str f.word, slv f.an f.args.length (f.args.map AV.str), slv f.kn f.kids.length (encFs f.kids), .int .i64 f.least, .int .i64 f.most])) (v0 v1 v5 : AV) (Q : Sig → FE → St → Prop) :
    ∀ (n k : Nat) (e : FE), k + n = f.args.length → e 0 = v0 → e 1 = v1 → e 5 = v5 → e 6 = .ptr p 0 → e 7 = .int .i64 k →
    (kindsRok f.args.length (f.args.drop k) k = true → ∀ e', e' 0 = v0 → e' 1 = v1 → e' 5 = v5 → e' 6 = .ptr p 0 → Q (.exit 5) e' st) → (kindsRok f.args.length (f.args.drop k) k = false → ∀ e', e' 4 = .bool true → Q .ret e' st) → WLoop cx ir43L0 e st Q
  | 0, k, e, hk, h0, h1, h5, h6, h7, hT, hF => by
    refine WLoop.rnd (c := _) ir43L0.eq_1 ?_
    have hd : decide ((k : Int) < (f.args.length : Int)) = false := by simp; omega
    simp (config := {contextual := true, implicitDefEqProofs := false, maxSteps := 4000000}) only [go_sem, ↓reduceIte, Bool.false_eq_true, Nat.reduceEqDiff, Nat.reduceAdd, Int.reduceLE, Int.reduceLT, Int.reduceEq, Int.reduceToNat, Int.toNat_natCast, Int.cast_ofNat_Int, Int.natCast_one, Nat.reduceMod, Nat.reduceDiv, UInt8.reduceToNat, Nat.reduceLT, h6, h7, hd, hp]
    exact hT (by rw [List.drop_eq_nil_of_le (by omega)]; rfl) _ h0 h1 h5 h6
  | n + 1, k, e, hk, h0, h1, h5, h6, h7, hT, hF => by
    refine WLoop.rnd (c := _) ir43L0.eq_1 ?_
    have hd : decide ((k : Int) < (f.args.length : Int)) = true := by simp; omega
    have hw := wrap_one (i := k) (by omega)
    have hlt : k < f.args.length := by omega
    have hw2 : IntKind.i64.wrap ((f.args.length : Int) - 1) = ((f.args.length - 1 : Nat) : Int) := by rw [wrap_i64 (by omega) (by omega)]; omega
    have hz : decide ((k : Int) < ((f.args.length - 1 : Nat) : Int)) = decide (k + 1 < f.args.length) := by
      rw [Bool.eq_iff_iff, decide_eq_true_eq, decide_eq_true_eq]; omega
    have hlen := hs _ (List.getElem_mem hlt)
    have k56 := fun st K => c56 f.args[k] (by omega) st K
    rw [List.drop_eq_getElem_cons hlt] at hT hF
    simp only [kindsRok] at hT hF
    have next : ∀ e', (knownB (starW f.args[k]) && !(starB f.args[k] && decide (k + 1 < f.args.length))) = true → e' 0 = v0 → e' 1 = v1 → e' 5 = v5 → e' 6 = .ptr p 0 → e' 7 = .int .i64 ((k + 1 : Nat) : Int) → WLoop cx ir43L0 e' st Q := fun e' hb k0 k1 k5 k6 k7 => by
      rw [hb, Bool.true_and] at hT hF
      exact l43a f hl hs p st hp v0 v1 v5 Q n (k + 1) e' (by omega) k0 k1 k5 k6 k7 hT hF
    simp (config := {contextual := true, implicitDefEqProofs := false, maxSteps := 4000000}) only [go_sem, ↓reduceIte, Bool.false_eq_true, Nat.reduceEqDiff, Nat.reduceAdd, Int.reduceLE, Int.reduceLT, Int.reduceEq, Int.reduceToNat, Int.toNat_natCast, Int.cast_ofNat_Int, Int.natCast_one, Nat.reduceMod, Nat.reduceDiv, UInt8.reduceToNat, Nat.reduceLT, h6, h7, hd, hw, hw2, hz, sub_str hlt, k56, c28g, hp]
    refine ⟨by omega, ?_⟩
    cases hA : knownB (starW f.args[k]) <;> cases hB : starB f.args[k] <;> cases hC : decide (k + 1 < f.args.length) <;> simp only [pif, Bool.not_true, Bool.not_false, if_true, Bool.false_eq_true, if_false]
    all_goals first
      | exact next _ (by rw [hA, hB, hC]; rfl) h0 h1 h5 h6 rfl
      | exact hF (by rw [hA, hB, hC]; rfl) _ rfl
def wordsL (fs : List Form) : List (List UInt8) := fs.map Form.word
theorem l43b (b : Bool) (fs : List Form) (hcnt : fs.length ≤ 40) (i : Nat) (hi : i < fs.length) (f : Form) (p : Nat) (st : St) (hp : Fw.look p st.heap = some (.cells (some 55) [.str f.word, slv f.an f.args.length (f.args.map AV.str), slv f.kn f.kids.length (encFs f.kids), .int .i64 f.least, .int .i64 f.most])) (v1 : AV) (Q : Sig → FE → St → Prop) :
    ∀ (n k : Nat) (e : FE), k + n = i → e 0 = slv b fs.length (encFs fs) → e 1 = v1 → e 5 = .int .i64 i → e 6 = .ptr p 0 → e 10 = .int .i64 k →
    (f.word ∉ (wordsL (fs.take i)).drop k → ∀ e', e' 0 = slv b fs.length (encFs fs) → e' 1 = v1 → e' 5 = .int .i64 i → e' 6 = .ptr p 0 → Q (.exit 3) e' st) → (f.word ∈ (wordsL (fs.take i)).drop k → ∀ e', e' 4 = .bool true → Q .ret e' st) → WLoop cx ir43L1 e st Q
  | 0, k, e, hk, h0, h1, h5, h6, h10, hT, hF => by
    refine WLoop.rnd (c := _) ir43L1.eq_1 ?_
    have hd : decide ((k : Int) < (i : Int)) = false := by simp; omega
    simp (config := {contextual := true, implicitDefEqProofs := false, maxSteps := 4000000}) only [go_sem, ↓reduceIte, Bool.false_eq_true, Nat.reduceEqDiff, Nat.reduceAdd, Int.reduceLE, Int.reduceLT, Int.reduceEq, Int.reduceToNat, Int.toNat_natCast, Int.cast_ofNat_Int, Int.natCast_one, Nat.reduceMod, Nat.reduceDiv, UInt8.reduceToNat, Nat.reduceLT, h5, h10, hd]
    refine hT ?_ _ h0 h1 h5 h6
    rw [List.drop_eq_nil_of_le (by simp [wordsL]; omega)]; simp
  | n + 1, k, e, hk, h0, h1, h5, h6, h10, hT, hF => by
    refine WLoop.rnd (c := _) ir43L1.eq_1 ?_
    have hd : decide ((k : Int) < (i : Int)) = true := by simp; omega
    have hw := wrap_one (i := k) (by omega)
    have hlt : k < fs.length := by omega
    have hk2 : k < (wordsL (fs.take i)).length := by simp [wordsL]; omega
    have hwk : (wordsL (fs.take i))[k] = fs[k].word := by simp [wordsL]
    rw [List.drop_eq_getElem_cons hk2, hwk] at hT hF
    by_cases hq : fs[k].word = f.word
    · have hx : decide (fs[k].word = f.word) = true := by simp [hq]
      simp (config := {contextual := true, implicitDefEqProofs := false, maxSteps := 4000000}) only [go_sem, ↓reduceIte, Bool.false_eq_true, Nat.reduceEqDiff, Nat.reduceAdd, Int.reduceLE, Int.reduceLT, Int.reduceEq, Int.reduceToNat, Int.toNat_natCast, Int.cast_ofNat_Int, Int.natCast_one, Nat.reduceMod, Nat.reduceDiv, UInt8.reduceToNat, Nat.reduceLT, h0, h5, h6, h10, hd, hw, sub_word hlt, hp, hx]
      exact ⟨by omega, hF (by rw [hq]; exact List.mem_cons_self) _ rfl⟩
    · have hx : decide (fs[k].word = f.word) = false := by simp [hq]
      simp (config := {contextual := true, implicitDefEqProofs := false, maxSteps := 4000000}) only [go_sem, ↓reduceIte, Bool.false_eq_true, Nat.reduceEqDiff, Nat.reduceAdd, Int.reduceLE, Int.reduceLT, Int.reduceEq, Int.reduceToNat, Int.toNat_natCast, Int.cast_ofNat_Int, Int.natCast_one, Nat.reduceMod, Nat.reduceDiv, UInt8.reduceToNat, Nat.reduceLT, h0, h5, h6, h10, hd, hw, sub_word hlt, hp, hx]
      refine ⟨by omega, ?_⟩
      refine l43b b fs hcnt i hi f p st hp v1 Q n (k + 1) _ (by omega) h0 h1 h5 h6 rfl (fun h => hT ?_) (fun h => hF (List.mem_cons_of_mem _ h))
      intro hm
      rcases List.mem_cons.1 hm with hm | hm
      · exact hq hm.symm
      · exact h hm
def badD (d : Int) (ws : List (List UInt8)) (f : Form) : Bool := if d = 1 then !nameB f.word else if d = 2 then !kindsR f else if d = 3 then !limitsF f else decide (f.word ∈ ws)
mutual
def smF (d : Int) : Form → Bool
  | .mk w an a kn k l m => smGo d [] k
def smGo (d : Int) : List (List UInt8) → List Form → Bool
  | _, [] => false
  | ws, f :: fs => badD d ws f || smF d f || smGo d (ws ++ [f.word]) fs
end
theorem smF_eq (d : Int) (f : Form) : smF d f = smGo d [] f.kids := by cases f; simp only [smF, Form.kids]
theorem wordsL_take (fs : List Form) (i : Nat) (h : i < fs.length) : wordsL (fs.take (i + 1)) = wordsL (fs.take i) ++ [fs[i].word] := by
  rw [List.take_succ_eq_append_getElem h]; simp only [wordsL, List.map_append, List.map_cons, List.map_nil]
theorem l43 (d : Int) (hd4 : d = 1 ∨ d = 2 ∨ d = 3 ∨ d = 4) (b : Bool) (fs : List Form) (hsm : smallFs fs) (hcnt : fs.length ≤ 40) (L : Nat)
    (ih : ∀ f ∈ fs, ∀ (b : Bool) (st : St) (K : AV → St → Prop), CallW cx 43 [slv b f.kids.length (encFs f.kids), .int .i64 d] st K = K (.bool (smGo d [] f.kids)) st) (Q : Sig → FE → St → Prop) :
    ∀ (n i : Nat) (e : FE) (st : St), i + n = fs.length → st.low = L → L ≤ st.next → e 0 = slv b fs.length (encFs fs) → e 1 = .int .i64 d → e 5 = .int .i64 i →
    (smGo d (wordsL (fs.take i)) (fs.drop i) = false → ∀ e' st', st'.low = L → Q (.exit 0) e' st') → (smGo d (wordsL (fs.take i)) (fs.drop i) = true → ∀ e' st', st'.low = L → e' 4 = .bool true → Q .ret e' st') → WLoop cx ir43L2 e st Q
  | 0, i, e, st, hi, hL, hLn, h0, h1, h5, hT, hF => by
    refine WLoop.rnd (c := _) ir43L2.eq_1 ?_
    have hd : decide ((i : Int) < (fs.length : Int)) = false := by simp; omega
    simp (config := {contextual := true, implicitDefEqProofs := false, maxSteps := 4000000}) only [go_sem, ↓reduceIte, Bool.false_eq_true, Nat.reduceEqDiff, Nat.reduceAdd, Int.reduceLE, Int.reduceLT, Int.reduceEq, Int.reduceToNat, Int.toNat_natCast, Int.cast_ofNat_Int, Int.natCast_one, Nat.reduceMod, Nat.reduceDiv, UInt8.reduceToNat, Nat.reduceLT, h0, h5, hd]
    exact hT (by rw [List.drop_eq_nil_of_le (by omega)]; simp only [smGo]) _ _ hL
  | n + 1, i, e, st, hi, hL, hLn, h0, h1, h5, hT, hF => by
    have hd : decide ((i : Int) < (fs.length : Int)) = true := by simp; omega
    have hw := wrap_one (i := i) (by omega)
    have hlt : i < fs.length := by omega
    have hmin : min st.low st.next = st.low := by omega
    have hsf := smallFs_mem hsm _ (List.getElem_mem hlt)
    rw [smallF_eq] at hsf
    have hc := fun st K => ih fs[i] (List.getElem_mem hlt) fs[i].kn st K
    have k26 := fun st K => c26 fs[i].word (by omega) st K
    rw [List.drop_eq_getElem_cons hlt] at hT hF
    simp only [smGo, smF_eq] at hT hF
    -- what follows once the form itself is found good
    have next : badD d (wordsL (fs.take i)) fs[i] = false → ∀ e' st', st'.low = L → L ≤ st'.next → smGo d [] fs[i].kids = false → e' 0 = slv b fs.length (encFs fs) → e' 1 = .int .i64 d → e' 5 = .int .i64 ((i + 1 : Nat) : Int) → WLoop cx ir43L2 e' st' Q := fun hb e' st' k1 k2 hg k3 k4 k5 => by
      rw [hb, hg, Bool.false_or, Bool.false_or, ← wordsL_take fs i hlt] at hT hF
      exact l43 d hd4 b fs hsm hcnt L ih Q n (i + 1) e' st' (by omega) k1 k2 k3 k4 k5 hT hF
    have bad : badD d (wordsL (fs.take i)) fs[i] = true → ∀ e' st', st'.low = L → e' 4 = .bool true → Q .ret e' st' := fun hb => hF (by rw [hb]; rfl)
    have kid : smGo d [] fs[i].kids = true → ∀ e' st', st'.low = L → e' 4 = .bool true → Q .ret e' st' := fun hb => hF (by rw [hb, Bool.or_true]; rfl)
    clear hT hF
    refine WLoop.rnd (c := _) ir43L2.eq_1 ?_
    rcases hd4 with rfl | rfl | rfl | rfl
    · have hbd : badD 1 (wordsL (fs.take i)) fs[i] = !nameB fs[i].word := rfl
      rw [hbd] at next bad
      simp (config := {contextual := true, implicitDefEqProofs := false, maxSteps := 4000000}) only [go_sem, ↓reduceIte, Bool.false_eq_true, Nat.reduceEqDiff, Nat.reduceAdd, Int.reduceLE, Int.reduceLT, Int.reduceEq, Int.reduceToNat, Int.toNat_natCast, Int.cast_ofNat_Int, Int.natCast_one, Nat.reduceMod, Nat.reduceDiv, UInt8.reduceToNat, Nat.reduceLT, h0, h1, h5, hd, hw, sub_form hlt, encF_eq, hmin, k26, hc]
      refine ⟨by omega, ?_⟩
      cases hn : nameB fs[i].word with
      | false => exact bad (by rw [hn]; rfl) _ _ hL rfl
      | true =>
        cases hg : smGo 1 [] fs[i].kids with
        | true => exact kid hg _ _ hL rfl
        | false => exact next (by rw [hn]; rfl) _ _ hL (by simp only; omega) hg h0 h1 rfl
    · have hbd : badD 2 (wordsL (fs.take i)) fs[i] = !kindsR fs[i] := rfl
      rw [hbd] at next bad
      simp (config := {contextual := true, implicitDefEqProofs := false, maxSteps := 4000000}) only [go_sem, ↓reduceIte, Bool.false_eq_true, Nat.reduceEqDiff, Nat.reduceAdd, Int.reduceLE, Int.reduceLT, Int.reduceEq, Int.reduceToNat, Int.toNat_natCast, Int.cast_ofNat_Int, Int.natCast_one, Nat.reduceMod, Nat.reduceDiv, UInt8.reduceToNat, Nat.reduceLT, h0, h1, h5, hd, hw, sub_form hlt, encF_eq, hmin]
      refine ⟨by omega, ?_⟩
      refine l43a fs[i] hsf.2.1 hsf.2.2.1 st.next _ (by simp [Fw.look]) _ _ _ _ fs[i].args.length 0 _ (by omega) h0 h1 h5 rfl rfl ?_ ?_
      · intro hk e' k0 k1 k5 k6
        rw [List.drop_zero] at hk
        have hkr : kindsR fs[i] = true := hk
        simp (config := {contextual := true, implicitDefEqProofs := false, maxSteps := 4000000}) only [go_sem, ↓reduceIte, Bool.false_eq_true, Nat.reduceEqDiff, Nat.reduceAdd, Int.reduceLE, Int.reduceLT, Int.reduceEq, Int.reduceToNat, Int.toNat_natCast, Int.cast_ofNat_Int, Int.natCast_one, Nat.reduceMod, Nat.reduceDiv, UInt8.reduceToNat, Nat.reduceLT, k0, k1, k5, k6, hw, hc]
        cases hg : smGo 2 [] fs[i].kids with
        | true => exact kid hg _ _ hL rfl
        | false => exact next (by rw [hkr]; rfl) _ _ hL (by simp only; omega) hg k0 k1 rfl
      · intro hk e' k4
        rw [List.drop_zero] at hk
        have hkr : kindsR fs[i] = false := hk
        simp (config := {contextual := true, implicitDefEqProofs := false, maxSteps := 4000000}) only [go_sem, ↓reduceIte, Bool.false_eq_true, Nat.reduceEqDiff, Nat.reduceAdd, Int.reduceLE, Int.reduceLT, Int.reduceEq, Int.reduceToNat, Int.toNat_natCast, Int.cast_ofNat_Int, Int.natCast_one, Nat.reduceMod, Nat.reduceDiv, UInt8.reduceToNat, Nat.reduceLT, k4]
        exact bad (by rw [hkr]; rfl) _ _ hL k4
    · have hbd : badD 3 (wordsL (fs.take i)) fs[i] = !limitsF fs[i] := rfl
      rw [hbd] at next bad
      have n1 : decide (fs[i].least < 0) = !decide (0 ≤ fs[i].least) := by rw [← decide_not]; congr 1; simp
      have n2 : decide (1000 < fs[i].least) = !decide (fs[i].least ≤ 1000) := by rw [← decide_not]; congr 1; simp
      have n3 : decide (fs[i].most < 1) = !decide (1 ≤ fs[i].most) := by rw [← decide_not]; congr 1; simp
      have n4 : decide (1000 < fs[i].most) = !decide (fs[i].most ≤ 1000) := by rw [← decide_not]; congr 1; simp
      have n5 : decide (fs[i].most < fs[i].least) = !decide (fs[i].least ≤ fs[i].most) := by rw [← decide_not]; congr 1; simp
      simp only [limitsF] at next bad
      simp (config := {contextual := true, implicitDefEqProofs := false, maxSteps := 4000000}) only [go_sem, ↓reduceIte, Bool.false_eq_true, Nat.reduceEqDiff, Nat.reduceAdd, Int.reduceLE, Int.reduceLT, Int.reduceEq, Int.reduceToNat, Int.toNat_natCast, Int.cast_ofNat_Int, Int.natCast_one, Nat.reduceMod, Nat.reduceDiv, UInt8.reduceToNat, Nat.reduceLT, h0, h1, h5, hd, hw, sub_form hlt, encF_eq, hmin, hc]
      refine ⟨by omega, ?_⟩
      rw [n1, n2, n3, n4, n5]
      cases hg : smGo 3 [] fs[i].kids <;> cases a1 : decide (0 ≤ fs[i].least) <;> cases a2 : decide (fs[i].least ≤ 1000) <;> cases a3 : decide (1 ≤ fs[i].most) <;> cases a4 : decide (fs[i].most ≤ 1000) <;> cases a5 : decide (fs[i].least ≤ fs[i].most) <;> simp only [pif, Bool.not_true, Bool.not_false, if_true, Bool.false_eq_true, if_false]
      all_goals first
        | exact bad (by rw [a1, a2, a3, a4, a5]; rfl) _ _ hL rfl
        | exact kid hg _ _ hL rfl
        | exact next (by rw [a1, a2, a3, a4, a5]; rfl) _ _ hL (by simp only; omega) hg h0 h1 rfl
    · have hbd : badD 4 (wordsL (fs.take i)) fs[i] = decide (fs[i].word ∈ wordsL (fs.take i)) := rfl
      rw [hbd] at next bad
      simp (config := {contextual := true, implicitDefEqProofs := false, maxSteps := 4000000}) only [go_sem, ↓reduceIte, Bool.false_eq_true, Nat.reduceEqDiff, Nat.reduceAdd, Int.reduceLE, Int.reduceLT, Int.reduceEq, Int.reduceToNat, Int.toNat_natCast, Int.cast_ofNat_Int, Int.natCast_one, Nat.reduceMod, Nat.reduceDiv, UInt8.reduceToNat, Nat.reduceLT, h0, h1, h5, hd, hw, sub_form hlt, encF_eq, hmin]
      refine ⟨by omega, ?_⟩
      refine l43b b fs hcnt i hlt fs[i] st.next _ (by simp [Fw.look]) _ _ i 0 _ (by omega) h0 h1 h5 rfl rfl ?_ ?_
      · intro hk e' k0 k1 k5 k6
        rw [List.drop_zero] at hk
        simp (config := {contextual := true, implicitDefEqProofs := false, maxSteps := 4000000}) only [go_sem, ↓reduceIte, Bool.false_eq_true, Nat.reduceEqDiff, Nat.reduceAdd, Int.reduceLE, Int.reduceLT, Int.reduceEq, Int.reduceToNat, Int.toNat_natCast, Int.cast_ofNat_Int, Int.natCast_one, Nat.reduceMod, Nat.reduceDiv, UInt8.reduceToNat, Nat.reduceLT, k0, k1, k5, k6, hw, hc]
        cases hg : smGo 4 [] fs[i].kids with
        | true => exact kid hg _ _ hL rfl
        | false => exact next (by simp [hk]) _ _ hL (by simp only; omega) hg k0 k1 rfl
      · intro hk e' k4
        rw [List.drop_zero] at hk
        simp (config := {contextual := true, implicitDefEqProofs := false, maxSteps := 4000000}) only [go_sem, ↓reduceIte, Bool.false_eq_true, Nat.reduceEqDiff, Nat.reduceAdd, Int.reduceLE, Int.reduceLT, Int.reduceEq, Int.reduceToNat, Int.toNat_natCast, Int.cast_ofNat_Int, Int.natCast_one, Nat.reduceMod, Nat.reduceDiv, UInt8.reduceToNat, Nat.reduceLT, k4]
        exact bad (by simp [hk]) _ _ hL k4
theorem c43 (d : Int) (hd4 : d = 1 ∨ d = 2 ∨ d = 3 ∨ d = 4) : ∀ (fs : List Form) (b : Bool) (s : St) (K : AV → St → Prop), smallFs fs → cntFs fs ≤ 40 → CallW cx 43 [slv b fs.length (encFs fs), .int .i64 d] s K = K (.bool (smGo d [] fs)) s := by
  refine forms_ind fun fs ih => ?_
  intro b s K hsm hcnt
  have hlen := cntFs_length fs
  refine CallW.eq (CallW.fn' (fn := ir43) rfl rfl (by kernel_rfl) ir43.eq_1 ?_) K
  simp (config := {contextual := true, implicitDefEqProofs := false, maxSteps := 4000000}) only [go_sem, ↓reduceIte, Bool.false_eq_true, Nat.reduceEqDiff, Nat.reduceAdd, Int.reduceLE, Int.reduceLT, Int.reduceEq, Int.reduceToNat, Int.toNat_natCast, Int.cast_ofNat_Int, Int.natCast_one, Nat.reduceMod, Nat.reduceDiv, UInt8.reduceToNat, Nat.reduceLT]
  refine l43 d hd4 b fs hsm (by omega) s.next (fun f hf b st K => ?_) _ fs.length 0 _ _ (by omega) rfl (Nat.le_refl _) rfl rfl rfl ?_ ?_
  · have h1 := cntFs_mem f hf
    have h2 := smallFs_mem hsm f hf
    rw [smallF_eq] at h2
    exact ih f hf b st K h2.2.2.2 (by omega)
  · intro h e' st' hl
    have h' : smGo d [] fs = false := h
    simp (config := {contextual := true, implicitDefEqProofs := false, maxSteps := 4000000}) only [go_sem, ↓reduceIte, Bool.false_eq_true, Nat.reduceEqDiff, Nat.reduceAdd, Int.reduceLE, Int.reduceLT, Int.reduceEq, Int.reduceToNat, Int.toNat_natCast, Int.cast_ofNat_Int, Int.natCast_one, Nat.reduceMod, Nat.reduceDiv, UInt8.reduceToNat, Nat.reduceLT]
    rw [LeaveW_bool _ (by omega)]
    exact ⟨by rw [h'], rfl⟩
  · intro h e' st' hl h4
    have h' : smGo d [] fs = true := h
    simp (config := {contextual := true, implicitDefEqProofs := false, maxSteps := 4000000}) only [go_sem, ↓reduceIte, Bool.false_eq_true, Nat.reduceEqDiff, Nat.reduceAdd, Int.reduceLE, Int.reduceLT, Int.reduceEq, Int.reduceToNat, Int.toNat_natCast, Int.cast_ofNat_Int, Int.natCast_one, Nat.reduceMod, Nat.reduceDiv, UInt8.reduceToNat, Nat.reduceLT, h4]
    rw [LeaveW_bool _ (by omega)]
    exact ⟨by rw [h'], rfl⟩
end T10
