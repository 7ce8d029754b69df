/- Parts of the proof, one behind the other. -/
import Derived.Test.YtgpfcgpgbflpgaaK10za
/- The reference's Match. -/
namespace T10
open Go Fw Go.Proofs
set_option maxRecDepth 100000
set_option linter.unusedSimpArgs false
set_option linter.unusedVariables false
theorem l23b (b : Bool) (fs : List Form) (hcnt : fs.length ≤ 40) (cs : List Int) (hcl : cs.length = fs.length) (x : Flt) (P R C : Nat) (st : St)
    (hpl : Fw.look P st.heap = some (.cells (some 34) [.int .i64 x.1, .int .i64 x.2.1, .int .i64 x.2.2])) (hrl : Fw.look R st.heap = some (.cells (some 34) [.int .i64 0, .int .i64 0, .int .i64 0])) (hclk : Fw.look C st.heap = some (.cells none (cntV cs))) (Q : Sig → FE → St → Prop) : ∀ (n i : Nat) (e : FE), i + n = fs.length →
    e 0 = slv b fs.length (encFs fs) → e 5 = .ptr P 0 → e 6 = .ptr R 0 → e 7 = .mslice C 0 fs.length (some fs.length) → e 13 = .int .i64 i →
    (lackB (fs.drop i) (cs.drop i) = false → ∀ e', e' 6 = .ptr R 0 → Q (.exit 2) e' st) →
    (lackB (fs.drop i) (cs.drop i) = true → ∀ e', e' 6 = .ptr R 0 → Q .ret e' { heap := put R (.cells (some 34) [.int .i64 x.1, .int .i64 x.2.1, .int .i64 x.2.2]) st.heap, next := st.next, low := min st.low R }) → WLoop cx ir23L1 e st Q
  | 0, i, e, hi, h0, h5, h6, h7, h13, hT, hF => by
    refine WLoop.rnd (c := _) ir23L1.eq_1 ?_
    have hd : decide ((i : Int) < (fs.length : Int)) = false := by simp; omega
    simp (config := {contextual := true, implicitDefEqProofs := false, maxSteps := 4000000}) only [go_sem, ↓reduceIte, Bool.false_eq_true, Nat.reduceEqDiff, Nat.reduceAdd, Int.reduceLE, Int.reduceLT, Int.reduceEq, Int.reduceToNat, Int.toNat_natCast, Int.cast_ofNat_Int, Int.natCast_one, Nat.reduceMod, Nat.reduceDiv, UInt8.reduceToNat, Nat.reduceLT, h0, h5, h6, h7, h13, hd]
    exact hT (by rw [List.drop_eq_nil_of_le (by omega)]; rfl) _ h6
  | n + 1, i, e, hi, h0, h5, h6, h7, h13, hT, hF => by
    refine WLoop.rnd (c := _) ir23L1.eq_1 ?_
    have hlt : i < fs.length := by omega
    have hjc : i < cs.length := by omega
    have hd : decide ((i : Int) < (fs.length : Int)) = true := by simp; omega
    have hw := wrap_one (i := i) (by omega)
    rw [lackB_getElem fs cs i hlt hjc] at hT hF
    cases hx : decide (cs[i] < fs[i].least) with
    | true =>
      rw [hx] at hF
      simp (config := {contextual := true, implicitDefEqProofs := false, maxSteps := 4000000}) only [go_sem, ↓reduceIte, Bool.false_eq_true, Nat.reduceEqDiff, Nat.reduceAdd, Int.reduceLE, Int.reduceLT, Int.reduceEq, Int.reduceToNat, Int.toNat_natCast, Int.cast_ofNat_Int, Int.natCast_one, Nat.reduceMod, Nat.reduceDiv, UInt8.reduceToNat, Nat.reduceLT, h0, h5, h6, h7, h13, hd, hw, hpl, hrl, hclk, sub_cnt hjc, sub_least hlt, hx]
      refine ⟨by omega, by omega, ?_⟩
      exact hF rfl _ h6
    | false =>
      rw [hx] at hT hF
      simp only [Bool.false_or] at hT hF
      simp (config := {contextual := true, implicitDefEqProofs := false, maxSteps := 4000000}) only [go_sem, ↓reduceIte, Bool.false_eq_true, Nat.reduceEqDiff, Nat.reduceAdd, Int.reduceLE, Int.reduceLT, Int.reduceEq, Int.reduceToNat, Int.toNat_natCast, Int.cast_ofNat_Int, Int.natCast_one, Nat.reduceMod, Nat.reduceDiv, UInt8.reduceToNat, Nat.reduceLT, h0, h5, h6, h7, h13, hd, hw, hpl, hrl, hclk, sub_cnt hjc, sub_least hlt, hx]
      refine ⟨by omega, by omega, ?_⟩
      exact l23b b fs hcnt cs hcl x P R C st hpl hrl hclk Q n (i + 1) _ (by omega) h0 h5 h6 h7 rfl hT hF
def KidsR (l : Line) : Prop := ∀ (fs : List Form) (b1 b2 : Bool) (x : Flt) (s : St) (K : AV → St → Prop), smallFs fs → cntFs fs ≤ 40 → okFs fs → fewLs l.kids → l.kids.length ≤ 300 →
  CallW cx 23 [slv b1 fs.length (encFs fs), slv b2 l.kids.length (encLs l.kids), encFl x] s K = K (encFl (resR (lowM l.kids fs (List.replicate fs.length 0)) x)) s
theorem l23a (b1 b2 : Bool) (fs : List Form) (hsm : smallFs fs) (hcnt : cntFs fs ≤ 40) (hok : okFs fs) (ls : List Line) (hfew : fewLs ls) (hll : ls.length ≤ 300) (hkids : ∀ l ∈ ls, KidsR l ∧ l.kids.length ≤ 300) (x : Flt) (P R C L : Nat) (Q : Sig → FE → St → Prop) :
    ∀ (n i : Nat) (cs : List Int) (e : FE) (st : St), i + n = ls.length → cs.length = fs.length → CsOk cs i → st.low = L → L ≤ R → L ≤ C → R ≠ C → P ≠ C → P < st.next → R < st.next → C < st.next → L ≤ st.next →
    Fw.look P st.heap = some (.cells (some 34) [.int .i64 x.1, .int .i64 x.2.1, .int .i64 x.2.2]) → Fw.look R st.heap = some (.cells (some 34) [.int .i64 0, .int .i64 0, .int .i64 0]) → Fw.look C st.heap = some (.cells none (cntV cs)) →
    e 0 = slv b1 fs.length (encFs fs) → e 1 = slv b2 ls.length (encLs ls) → e 5 = .ptr P 0 → e 6 = .ptr R 0 → e 7 = .mslice C 0 fs.length (some fs.length) → e 8 = .int .i64 i →
    (∀ cs' : List Int, cs'.length = fs.length → lowM (ls.drop i) fs cs = lowM [] fs cs' → ∀ e' st', st'.low = L → Fw.look P st'.heap = some (.cells (some 34) [.int .i64 x.1, .int .i64 x.2.1, .int .i64 x.2.2]) → Fw.look R st'.heap = some (.cells (some 34) [.int .i64 0, .int .i64 0, .int .i64 0]) → Fw.look C st'.heap = some (.cells none (cntV cs')) →
      e' 0 = slv b1 fs.length (encFs fs) → e' 5 = .ptr P 0 → e' 6 = .ptr R 0 → e' 7 = .mslice C 0 fs.length (some fs.length) → Q (.exit 0) e' st') →
    (∀ y : Flt, lowM (ls.drop i) fs cs = (y, false) → ∀ e' st', st'.low = L → Fw.look R st'.heap = some (.cells (some 34) [.int .i64 y.1, .int .i64 y.2.1, .int .i64 y.2.2]) → e' 6 = .ptr R 0 → Q .ret e' st') → WLoop cx ir23L0 e st Q
  | 0, i, cs, e, st, hi, hcl, hcs, hL, hLR, hLC, hRC, hPC, hP, hR, hC, hLn, hpl, hrl, hclk, h0, h1, h5, h6, h7, h8, hT, hF => by
    refine WLoop.rnd (c := _) ir23L0.eq_1 ?_
    have hd : decide ((i : Int) < (ls.length : Int)) = false := by simp; omega
    simp (config := {contextual := true, implicitDefEqProofs := false, maxSteps := 4000000}) only [go_sem, ↓reduceIte, Bool.false_eq_true, Nat.reduceEqDiff, Nat.reduceAdd, Int.reduceLE, Int.reduceLT, Int.reduceEq, Int.reduceToNat, Int.toNat_natCast, Int.cast_ofNat_Int, Int.natCast_one, Nat.reduceMod, Nat.reduceDiv, UInt8.reduceToNat, Nat.reduceLT, h1, h8, hd]
    refine hT cs hcl ?_ _ _ hL hpl hrl hclk h0 h5 h6 h7
    rw [List.drop_eq_nil_of_le (by omega)]
  | n + 1, i, cs, e, st, hi, hcl, hcs, hL, hLR, hLC, hRC, hPC, hP, hR, hC, hLn, hpl, hrl, hclk, h0, h1, h5, h6, h7, h8, hT, hF => by
    refine WLoop.rnd (c := _) ir23L0.eq_1 ?_
    have hd : decide ((i : Int) < (ls.length : Int)) = true := by simp; omega
    have hw := wrap_one (i := i) (by omega)
    have hlt : i < ls.length := by omega
    have hlen := cntFs_length fs
    have hmem := List.getElem_mem hlt
    obtain ⟨hko, hkl⟩ := hkids _ hmem
    have hfl := fewLs_mem hfew _ hmem
    rw [fewL_eq] at hfl
    have hmin : min st.low st.next = st.low := by omega
    have hmin2 : min st.low (st.next + 1) = st.low := by omega
    have hmin3 : min st.low (st.next + 1 + 1) = st.low := by omega
    have hminR : min st.low R = st.low := by omega
    have hminC : min st.low C = st.low := by omega
    have hne1 : (st.next = C) = False := by simp; omega
    have hne2 : (st.next = R) = False := by simp; omega
    have hne3 : (st.next + 1 = C) = False := by simp; omega
    have hne4 : (st.next + 1 = R) = False := by simp; omega
    have hne5 : (st.next + 1 + 1 = R) = False := by simp; omega
    have hne6 : (st.next + 1 = st.next) = False := by simp
    have hne7 : (st.next + 1 + 1 = st.next) = False := by simp only [eq_iff_iff, iff_false]; omega
    have hne8 : (R = C) = False := by simp [hRC]
    have hlC : ∀ o, Fw.look C (put C o st.heap) = some o := fun o => by rw [look_put, if_pos rfl, hclk]; rfl
    have hlR : ∀ o, Fw.look R (put C o st.heap) = Fw.look R st.heap := fun o => by rw [look_put, if_neg hRC]
    have hRR : ∀ o o', Fw.look R (put R o (put C o' st.heap)) = some o := fun o o' => by rw [look_put, if_pos rfl, hlR, hrl]; rfl
    have k21 := fun st K => c21 fs (by omega) b1 ls[i] st K
    have k46 := fun c st K => c46 c ls[i] st K
    simp only [faultV] at k46
    rw [List.drop_eq_getElem_cons hlt, lowM_cons] at hT hF
    rcases findL_range fs ls[i] with hfi | ⟨j, hfi, hj⟩
    · have hx : decide (findL fs ls[i] < 0) = true := by rw [hfi]; rfl
      simp (config := {contextual := true, implicitDefEqProofs := false, maxSteps := 4000000}) only [go_sem, ↓reduceIte, Bool.false_eq_true, Nat.reduceEqDiff, Nat.reduceAdd, Int.reduceLE, Int.reduceLT, Int.reduceEq, Int.reduceToNat, Int.toNat_natCast, Int.cast_ofNat_Int, Int.natCast_one, Nat.reduceMod, Nat.reduceDiv, UInt8.reduceToNat, Nat.reduceLT, h0, h1, h5, h6, h7, h8, hd, hw, sub_line hlt, encL_eq, hmin, hminR, hne1, hne2, k21, hx, k46, hrl]
      rw [if_pos (by omega)] at hF
      refine ⟨by omega, ?_⟩
      refine hF _ rfl _ _ hL ?_ h6
      simp only [Fw.look]
      rw [if_neg (by omega), look_put, if_pos rfl, hrl]; rfl
    · have hx : decide ((j : Int) < 0) = false := by simp
      have hjc : j < cs.length := by omega
      have hcj := hcs j hjc
      have hne : ls[i].toks ≠ [] := by
        intro h
        have : findL fs ls[i] = -1 := by simp [findL, isWord, h]
        omega
      have hfm := List.getElem_mem hj
      have hsf := smallFs_mem hsm _ hfm
      rw [smallF_eq] at hsf
      have hof := okFs_mem hok _ hfm
      rw [okF_eq] at hof
      have hkf : cntFs fs[j].kids ≤ 40 := by have := cntFs_mem fs[j] hfm; omega
      have k47 := fun st K => c47 fs[j] hsf.2.1 hsf.2.2.1 ls[i] hne hfl.1 hfl.2.1 st K
      have hw2 : IntKind.i64.wrap (cs[j] + 1) = cs[j] + 1 := wrap_i64 (by omega) (by omega)
      have hgf : fs.getD j default = fs[j] := by simp [List.getD, hj]
      have hgc : cs.getD j 0 = cs[j] := by simp [List.getD, hjc]
      have hjl : j < (cs.set j (cs[j] + 1)).length := by simpa using hjc
      have hsc : sub (cntV (cs.set j (cs[j] + 1))) j 1 = some [.int .i64 (cs[j] + 1)] := by rw [sub_cnt hjl]; simp
      have hside : (0 ≤ (j : Int) ∧ (j : Int) < (fs.length : Int)) := by omega
      have hside2 : (0 ≤ (i : Int) ∧ (i : Int) < (ls.length : Int)) := by omega
      rw [hfi, if_neg (by omega), Int.toNat_natCast, hgf, hgc, line_R ls[i] hne fs[j] hof.1] at hT hF
      by_cases hm : fs[j].most ≤ cs[j]
      · have hy : decide (fs[j].most < cs[j] + 1) = true := by simp; omega
        simp (config := {contextual := true, implicitDefEqProofs := false, maxSteps := 4000000}) only [go_sem, ↓reduceIte, Bool.false_eq_true, Nat.reduceEqDiff, Nat.reduceAdd, Int.reduceLE, Int.reduceLT, Int.reduceEq, Int.reduceToNat, Int.toNat_natCast, Int.cast_ofNat_Int, Int.natCast_one, Nat.reduceMod, Nat.reduceDiv, UInt8.reduceToNat, Nat.reduceLT, h0, h1, h5, h6, h7, h8, hd, hw, hw2, sub_line hlt, encL_eq, hmin, hmin2, hmin3, hminR, hminC, hne1, hne2, hne3, hne4, hne5, hne6, hne7, k21, hfi, hx, sub_form hj, encF_eq, sub_most hj, sub_cnt hjc, hclk, hrl, hlC, hlR, hsc, patch_cnt cs j _ hjc, hy, k46]
        rw [if_pos hm, if_pos (by simp)] at hF
        repeat' refine And.intro (by omega) ?_
        refine hF _ rfl _ _ hL ?_ h6
        simp only [Fw.look]
        rw [if_neg (by omega), hRR]
      have hy : decide (fs[j].most < cs[j] + 1) = false := by simp; omega
      rw [if_neg hm] at hT hF
      generalize ho : tokF ls[i] (tokR ls[i] fs[j].args) = o at *
      simp only [encFl] at k47
      by_cases hz : o.1 = 0
      case neg =>
        have hu : decide (o.1 ≠ 0) = true := by simp [hz]
        simp (config := {contextual := true, implicitDefEqProofs := false, maxSteps := 4000000}) only [go_sem, ↓reduceIte, Bool.false_eq_true, Nat.reduceEqDiff, Nat.reduceAdd, Int.reduceLE, Int.reduceLT, Int.reduceEq, Int.reduceToNat, Int.toNat_natCast, Int.cast_ofNat_Int, Int.natCast_one, Nat.reduceMod, Nat.reduceDiv, UInt8.reduceToNat, Nat.reduceLT, h0, h1, h5, h6, h7, h8, hd, hw, hw2, sub_line hlt, encL_eq, hmin, hmin2, hmin3, hminR, hminC, hne1, hne2, hne3, hne4, hne5, hne6, hne7, k21, hfi, hx, sub_form hj, encF_eq, sub_most hj, sub_cnt hjc, hclk, hrl, hlC, hlR, hsc, patch_cnt cs j _ hjc, hy, k47, hu]
        rw [if_pos (show o.1 ≠ 0 from hz), if_pos (show o.1 ≠ 0 from hz)] at hF
        repeat' refine And.intro (by omega) ?_
        refine hF _ rfl _ _ hL ?_ h6
        simp only [Fw.look]
        rw [if_neg (by omega), if_neg (by omega), hRR]
      have hu : decide (o.1 ≠ 0) = false := by simp [hz]
      rw [if_neg (show ¬ (o.1 ≠ 0) by simp [hz])] at hT hF
      have h3k : decide (0 < (fs[j].kids.length : Int)) = decide (0 < fs[j].kids.length) := by congr 1; simp
      by_cases h3 : ls[i].head = decide (0 < fs[j].kids.length)
      case neg =>
        have hv : (ls[i].head == decide (0 < fs[j].kids.length)) = false := by simpa using h3
        simp (config := {contextual := true, implicitDefEqProofs := false, maxSteps := 4000000}) only [go_sem, ↓reduceIte, Bool.false_eq_true, Nat.reduceEqDiff, Nat.reduceAdd, Int.reduceLE, Int.reduceLT, Int.reduceEq, Int.reduceToNat, Int.toNat_natCast, Int.cast_ofNat_Int, Int.natCast_one, Nat.reduceMod, Nat.reduceDiv, UInt8.reduceToNat, Nat.reduceLT, h0, h1, h5, h6, h7, h8, hd, hw, hw2, sub_line hlt, encL_eq, hmin, hmin2, hmin3, hminR, hminC, hne1, hne2, hne3, hne4, hne5, hne6, hne7, k21, hfi, hx, sub_form hj, encF_eq, sub_most hj, sub_cnt hjc, hclk, hrl, hlC, hlR, hsc, patch_cnt cs j _ hjc, hy, k47, hu, h3k, hv, k46, sub_kids hj]
        rw [if_pos (show ls[i].head ≠ decide (0 < fs[j].kids.length) from h3), if_pos (by simp)] at hF
        repeat' refine And.intro (by omega) ?_
        refine hF _ rfl _ _ hL ?_ h6
        simp only [Fw.look]
        rw [if_neg (by omega), if_neg (by omega), hRR]
      have hv : (ls[i].head == decide (0 < fs[j].kids.length)) = true := by simp [h3]
      rw [if_neg (show ¬ (ls[i].head ≠ decide (0 < fs[j].kids.length)) by simp [h3])] at hT hF
      have k23 := fun st K => hko fs[j].kids fs[j].kn ls[i].kn (9, ls[i].pos, posOf ls[i] 0) st K hsf.2.2.2 hkf hof.2 hfl.2.2 hkl
      generalize hq : resR (lowM ls[i].kids fs[j].kids (List.replicate fs[j].kids.length 0)) (9, ls[i].pos, posOf ls[i] 0) = q at *
      simp only [encFl] at k23
      by_cases ht : q.1 = 0
      · have ha : decide (q.1 ≠ 0) = false := by simp [ht]
        rw [if_neg (by simp [ht])] at hT hF
        simp (config := {contextual := true, implicitDefEqProofs := false, maxSteps := 4000000}) only [go_sem, ↓reduceIte, Bool.false_eq_true, Nat.reduceEqDiff, Nat.reduceAdd, Int.reduceLE, Int.reduceLT, Int.reduceEq, Int.reduceToNat, Int.toNat_natCast, Int.cast_ofNat_Int, Int.natCast_one, Nat.reduceMod, Nat.reduceDiv, UInt8.reduceToNat, Nat.reduceLT, h0, h1, h5, h6, h7, h8, hd, hw, hw2, sub_line hlt, encL_eq, hmin, hmin2, hmin3, hminR, hminC, hne1, hne2, hne3, hne4, hne5, hne6, hne7, k21, hfi, hx, sub_form hj, encF_eq, sub_most hj, sub_cnt hjc, hclk, hrl, hlC, hlR, hsc, patch_cnt cs j _ hjc, hy, k47, hu, h3k, hv, k46, sub_kids hj, k23, ha]
        repeat' refine And.intro (by omega) ?_
        refine l23a b1 b2 fs hsm hcnt hok ls hfew hll hkids x P R C L Q n (i + 1) (cs.set j (cs[j] + 1)) _ _ (by omega) (by simpa using hcl) (hcs.set j hjc) hL hLR hLC hRC hPC (by simp only; omega) (by simp only; omega) (by simp only; omega) (by simp only; omega) ?_ ?_ ?_ h0 h1 h5 h6 h7 rfl hT hF
        · simp only [Fw.look]
          rw [if_neg (by omega), if_neg (by omega), if_neg (by omega), look_put, if_neg hPC]; exact hpl
        · simp only [Fw.look]
          rw [if_neg (by omega), if_neg (by omega), if_neg (by omega), hlR]; exact hrl
        · simp only [Fw.look]
          rw [if_neg (by omega), if_neg (by omega), if_neg (by omega), hlC]
      · have ha : decide (q.1 ≠ 0) = true := by simp [ht]
        rw [if_pos ht] at hF
        simp (config := {contextual := true, implicitDefEqProofs := false, maxSteps := 4000000}) only [go_sem, ↓reduceIte, Bool.false_eq_true, Nat.reduceEqDiff, Nat.reduceAdd, Int.reduceLE, Int.reduceLT, Int.reduceEq, Int.reduceToNat, Int.toNat_natCast, Int.cast_ofNat_Int, Int.natCast_one, Nat.reduceMod, Nat.reduceDiv, UInt8.reduceToNat, Nat.reduceLT, h0, h1, h5, h6, h7, h8, hd, hw, hw2, sub_line hlt, encL_eq, hmin, hmin2, hmin3, hminR, hminC, hne1, hne2, hne3, hne4, hne5, hne6, hne7, k21, hfi, hx, sub_form hj, encF_eq, sub_most hj, sub_cnt hjc, hclk, hrl, hlC, hlR, hsc, patch_cnt cs j _ hjc, hy, k47, hu, h3k, hv, k46, sub_kids hj, k23, ha]
        repeat' refine And.intro (by omega) ?_
        refine hF _ rfl _ _ hL ?_ h6
        simp only [Fw.look]
        rw [if_neg (by omega), if_neg (by omega), if_neg (by omega), hRR]
theorem c23 : ∀ (ls : List Line) (fs : List Form) (b1 b2 : Bool) (x : Flt) (s : St) (K : AV → St → Prop), smallFs fs → cntFs fs ≤ 40 → okFs fs → fewLs ls → cntLs ls ≤ 300 →
    CallW cx 23 [slv b1 fs.length (encFs fs), slv b2 ls.length (encLs ls), encFl x] s K = K (encFl (resR (lowM ls fs (List.replicate fs.length 0)) x)) s := by
  refine lines_ind fun ls ih => ?_
  intro fs b1 b2 x s K hsm hcnt hok hfew hcl
  have hlen := cntFs_length fs
  have hllen := cntLs_length ls
  refine CallW.eq (CallW.fn' (fn := ir23) rfl rfl (by kernel_rfl) ir23.eq_1 ?_) K
  have hms := fun st => mksl_n st fs.length (by omega)
  simp (config := {contextual := true, implicitDefEqProofs := false, maxSteps := 4000000}) only [go_sem, ↓reduceIte, Bool.false_eq_true, Nat.reduceEqDiff, Nat.reduceAdd, Int.reduceLE, Int.reduceLT, Int.reduceEq, Int.reduceToNat, Int.toNat_natCast, Int.cast_ofNat_Int, Int.natCast_one, Nat.reduceMod, Nat.reduceDiv, UInt8.reduceToNat, Nat.reduceLT, hms, encFl]
  have hkids : ∀ l ∈ ls, KidsR l ∧ l.kids.length ≤ 300 := fun l hl => by
    have h1 := cntLs_mem l hl
    have h2 := cntLs_length l.kids
    exact ⟨fun fs b1 b2 x s K h3 h4 h5 h6 h7 => ih l hl fs b1 b2 x s K h3 h4 h5 h6 (by omega), by omega⟩
  refine l23a b1 b2 fs hsm hcnt hok ls hfew (by omega) hkids x s.next (s.next + 1) (s.next + 2) s.next _ ls.length 0 (List.replicate fs.length 0) _ _ (by omega) (by simp) (fun j h => by simp) rfl (by omega) (by omega) (by omega) (by omega) (by simp) (by simp) (by simp) (by simp) (by simp [Fw.look]) (by simp [Fw.look]) (by simp [Fw.look]) rfl rfl rfl rfl rfl rfl ?_ ?_
  · intro cs' hcl' hm e' st' hl hpl hrl hclk k0 k5 k6 k7
    rw [List.drop_zero] at hm
    rw [hm]
    have hmR : min st'.low (s.next + 1) = s.next := by omega
    simp (config := {contextual := true, implicitDefEqProofs := false, maxSteps := 4000000}) only [go_sem, ↓reduceIte, Bool.false_eq_true, Nat.reduceEqDiff, Nat.reduceAdd, Int.reduceLE, Int.reduceLT, Int.reduceEq, Int.reduceToNat, Int.toNat_natCast, Int.cast_ofNat_Int, Int.natCast_one, Nat.reduceMod, Nat.reduceDiv, UInt8.reduceToNat, Nat.reduceLT, k0]
    refine l23b b1 fs (by omega) cs' hcl' x s.next (s.next + 1) (s.next + 2) st' hpl hrl hclk _ fs.length 0 _ (by omega) k0 k5 k6 k7 rfl ?_ ?_
    · intro hlk e'' k62
      rw [List.drop_zero, List.drop_zero] at hlk
      simp (config := {contextual := true, implicitDefEqProofs := false, maxSteps := 4000000}) only [go_sem, ↓reduceIte, Bool.false_eq_true, Nat.reduceEqDiff, Nat.reduceAdd, Int.reduceLE, Int.reduceLT, Int.reduceEq, Int.reduceToNat, Int.toNat_natCast, Int.cast_ofNat_Int, Int.natCast_one, Nat.reduceMod, Nat.reduceDiv, UInt8.reduceToNat, Nat.reduceLT, k62, hrl, look_put, Option.isSome_some, lowM, hlk, hmR, resR]
      rfl
    · intro hlk e'' k62
      rw [List.drop_zero, List.drop_zero] at hlk
      simp (config := {contextual := true, implicitDefEqProofs := false, maxSteps := 4000000}) only [go_sem, ↓reduceIte, Bool.false_eq_true, Nat.reduceEqDiff, Nat.reduceAdd, Int.reduceLE, Int.reduceLT, Int.reduceEq, Int.reduceToNat, Int.toNat_natCast, Int.cast_ofNat_Int, Int.natCast_one, Nat.reduceMod, Nat.reduceDiv, UInt8.reduceToNat, Nat.reduceLT, k62, hrl, look_put, Option.isSome_some, lowM, hlk, hmR, resR]
      rfl
  · intro y hm e' st' hl hrl k6
    rw [List.drop_zero] at hm
    rw [hm]
    simp (config := {contextual := true, implicitDefEqProofs := false, maxSteps := 4000000}) only [go_sem, ↓reduceIte, Bool.false_eq_true, Nat.reduceEqDiff, Nat.reduceAdd, Int.reduceLE, Int.reduceLT, Int.reduceEq, Int.reduceToNat, Int.toNat_natCast, Int.cast_ofNat_Int, Int.natCast_one, Nat.reduceMod, Nat.reduceDiv, UInt8.reduceToNat, Nat.reduceLT, k6, hrl, resR]
    rw [LeaveW_agg rfl (by omega)]
    exact ⟨rfl, rfl⟩
end T10
