/- Parts of the proof, one behind the other. -/
import Derived.Test.YtgpfcgpgbflpgaaK10w
/- The reference's Find and Count. -/
namespace T10
open Go Fw Go.Proofs
set_option maxRecDepth 100000
set_option linter.unusedSimpArgs false
set_option linter.unusedVariables false
def findR (l : Line) (fs : List Form) (i : Nat) : Int := if isWord l = true then findGo (wordOf l) fs i else -1
theorem l21 (b : Bool) (fs : List Form) (hcnt : fs.length ≤ 40) (l : Line) (p : Nat) (st : St) (hp : p < st.next) (hpl : Fw.look p st.heap = some (.cells (some 49) [slt l.tn l.toks.length (encTs l.toks), .bool l.head, slv l.kn l.kids.length (encLs l.kids), .int .i64 l.pos])) (Q : Sig → FE → St → Prop) : ∀ (n i : Nat) (e : FE), i + n = fs.length →
    e 0 = slv b fs.length (encFs fs) → e 3 = .ptr p 0 → e 5 = .int .i64 i →
    (findR l (fs.drop i) i = -1 → ∀ e', Q (.exit 0) e' st) → (findR l (fs.drop i) i ≠ -1 → ∀ e', e' 4 = .int .i64 (findR l (fs.drop i) i) → Q .ret e' st) → WLoop cx ir21L0 e st Q
  | 0, i, e, hi, h0, h3, h5, hT, hF => by
    refine WLoop.rnd (c := _) ir21L0.eq_1 ?_
    have hd : decide ((i : Int) < (fs.length : Int)) = false := by simp; omega
    simp (config := {contextual := true, implicitDefEqProofs := false, maxSteps := 4000000}) only [go_sem, ↓reduceIte, Bool.false_eq_true, Nat.reduceEqDiff, Nat.reduceAdd, Int.reduceLE, Int.reduceLT, Int.reduceEq, Int.reduceToNat, Int.toNat_natCast, Int.cast_ofNat_Int, Int.natCast_one, Nat.reduceMod, Nat.reduceDiv, UInt8.reduceToNat, Nat.reduceLT, h0, h3, h5, hd]
    refine hT ?_ _
    rw [List.drop_eq_nil_of_le (by omega)]; unfold findR; simp [findGo]
  | n + 1, i, e, hi, h0, h3, h5, hT, hF => by
    refine WLoop.rnd (c := _) ir21L0.eq_1 ?_
    have hd : decide ((i : Int) < (fs.length : Int)) = true := by simp; omega
    have hw := wrap_one (i := i) (by omega)
    have hlt : i < fs.length := by omega
    rw [List.drop_eq_getElem_cons hlt] at hT hF
    by_cases hne : l.toks = []
    · have hx : decide (0 < (l.toks.length : Int)) = false := by simp [hne]
      have hiw : isWord l = false := by simp [isWord, hne]
      have hr : findR l (fs[i] :: fs.drop (i + 1)) i = findR l (fs.drop (i + 1)) (i + 1) := by simp [findR, hiw]
      rw [hr] at hT hF
      simp (config := {contextual := true, implicitDefEqProofs := false, maxSteps := 4000000}) only [go_sem, ↓reduceIte, Bool.false_eq_true, Nat.reduceEqDiff, Nat.reduceAdd, Int.reduceLE, Int.reduceLT, Int.reduceEq, Int.reduceToNat, Int.toNat_natCast, Int.cast_ofNat_Int, Int.natCast_one, Nat.reduceMod, Nat.reduceDiv, UInt8.reduceToNat, Nat.reduceLT, h0, h3, h5, hd, hw, hpl, hx]
      exact l21 b fs hcnt l p st hp hpl Q n (i + 1) _ (by omega) h0 h3 rfl hT hF
    · obtain ⟨ht0, hiw, hwd⟩ := tok0 hne
      have hx : decide (0 < (l.toks.length : Int)) = true := by simp; omega
      have sk : sub (encTs l.toks) 0 1 = some [.int .i64 l.toks[0].k] := by have := sub_tk ht0; simpa using this
      have stx : sub (encTs l.toks) 1 1 = some [.str l.toks[0].t] := by have := sub_tt ht0; simpa using this
      by_cases hk : l.toks[0].k = 1
      · have hy : decide (l.toks[0].k = 1) = true := by simp [hk]
        have hiw2 : isWord l = true := by rw [hiw]; exact hy
        by_cases hq : fs[i].word = wordOf l
        · have hz : decide (l.toks[0].t = fs[i].word) = true := by rw [← hwd]; simp [hq]
          have hr : findR l (fs[i] :: fs.drop (i + 1)) i = (i : Int) := by simp [findR, hiw2, findGo, hq]
          rw [hr] at hF
          simp (config := {contextual := true, implicitDefEqProofs := false, maxSteps := 4000000}) only [go_sem, ↓reduceIte, Bool.false_eq_true, Nat.reduceEqDiff, Nat.reduceAdd, Int.reduceLE, Int.reduceLT, Int.reduceEq, Int.reduceToNat, Int.toNat_natCast, Int.cast_ofNat_Int, Int.natCast_one, Nat.reduceMod, Nat.reduceDiv, UInt8.reduceToNat, Nat.reduceLT, h0, h3, h5, hd, hw, hpl, hx, hy, hz, sk, stx, sub_word hlt, Int.reduceMul, Nat.reduceMul, Nat.zero_mul]
          refine ⟨by omega, by omega, by omega, ?_⟩
          exact hF (by omega) _ rfl
        · have hz : decide (l.toks[0].t = fs[i].word) = false := by rw [← hwd]; simp; exact fun h => hq h.symm
          have hr : findR l (fs[i] :: fs.drop (i + 1)) i = findR l (fs.drop (i + 1)) (i + 1) := by simp [findR, hiw2, findGo, hq]
          rw [hr] at hT hF
          simp (config := {contextual := true, implicitDefEqProofs := false, maxSteps := 4000000}) only [go_sem, ↓reduceIte, Bool.false_eq_true, Nat.reduceEqDiff, Nat.reduceAdd, Int.reduceLE, Int.reduceLT, Int.reduceEq, Int.reduceToNat, Int.toNat_natCast, Int.cast_ofNat_Int, Int.natCast_one, Nat.reduceMod, Nat.reduceDiv, UInt8.reduceToNat, Nat.reduceLT, h0, h3, h5, hd, hw, hpl, hx, hy, hz, sk, stx, sub_word hlt, Int.reduceMul, Nat.reduceMul, Nat.zero_mul]
          refine ⟨by omega, by omega, by omega, ?_⟩
          exact l21 b fs hcnt l p st hp hpl Q n (i + 1) _ (by omega) h0 h3 rfl hT hF
      · have hy : decide (l.toks[0].k = 1) = false := by simp [hk]
        have hiw2 : isWord l = false := by rw [hiw]; exact hy
        have hr : findR l (fs[i] :: fs.drop (i + 1)) i = findR l (fs.drop (i + 1)) (i + 1) := by simp [findR, hiw2]
        rw [hr] at hT hF
        simp (config := {contextual := true, implicitDefEqProofs := false, maxSteps := 4000000}) only [go_sem, ↓reduceIte, Bool.false_eq_true, Nat.reduceEqDiff, Nat.reduceAdd, Int.reduceLE, Int.reduceLT, Int.reduceEq, Int.reduceToNat, Int.toNat_natCast, Int.cast_ofNat_Int, Int.natCast_one, Nat.reduceMod, Nat.reduceDiv, UInt8.reduceToNat, Nat.reduceLT, h0, h3, h5, hd, hw, hpl, hx, hy, sk, Int.reduceMul, Nat.reduceMul, Nat.zero_mul]
        refine ⟨by omega, ?_⟩
        exact l21 b fs hcnt l p st hp hpl Q n (i + 1) _ (by omega) h0 h3 rfl hT hF
theorem c21 (fs : List Form) (hcnt : fs.length ≤ 40) (b : Bool) (l : Line) (s : St) (K : AV → St → Prop) : CallW cx 21 [slv b fs.length (encFs fs), .agg [slt l.tn l.toks.length (encTs l.toks), .bool l.head, slv l.kn l.kids.length (encLs l.kids), .int .i64 l.pos]] s K = K (.int .i64 (findL fs l)) s := by
  refine CallW.eq (CallW.fn' (fn := ir21) rfl rfl (by kernel_rfl) ir21.eq_1 ?_) K
  simp (config := {contextual := true, implicitDefEqProofs := false, maxSteps := 4000000}) only [go_sem, ↓reduceIte, Bool.false_eq_true, Nat.reduceEqDiff, Nat.reduceAdd, Int.reduceLE, Int.reduceLT, Int.reduceEq, Int.reduceToNat, Int.toNat_natCast, Int.cast_ofNat_Int, Int.natCast_one, Nat.reduceMod, Nat.reduceDiv, UInt8.reduceToNat, Nat.reduceLT]
  refine l21 b fs hcnt l s.next _ (by simp) (by simp [Fw.look]) _ fs.length 0 _ (by omega) rfl rfl rfl ?_ ?_
  · intro h e'
    rw [List.drop_zero] at h
    simp (config := {contextual := true, implicitDefEqProofs := false, maxSteps := 4000000}) only [go_sem, ↓reduceIte, Bool.false_eq_true, Nat.reduceEqDiff, Nat.reduceAdd, Int.reduceLE, Int.reduceLT, Int.reduceEq, Int.reduceToNat, Int.toNat_natCast, Int.cast_ofNat_Int, Int.natCast_one, Nat.reduceMod, Nat.reduceDiv, UInt8.reduceToNat, Nat.reduceLT]
    rw [show findL fs l = -1 from h]
  · intro h e' h4
    rw [List.drop_zero] at h4
    simp (config := {contextual := true, implicitDefEqProofs := false, maxSteps := 4000000}) only [go_sem, ↓reduceIte, Bool.false_eq_true, Nat.reduceEqDiff, Nat.reduceAdd, Int.reduceLE, Int.reduceLT, Int.reduceEq, Int.reduceToNat, Int.toNat_natCast, Int.cast_ofNat_Int, Int.natCast_one, Nat.reduceMod, Nat.reduceDiv, UInt8.reduceToNat, Nat.reduceLT, h4]
    rfl
theorem l22 (o : Own) (b1 b2 : Bool) (fs : List Form) (hcnt : fs.length ≤ 40) (ls : List Line) (hll : ls.length ≤ 300) (C L : Nat) (h0' : List (Nat × AObj)) (N : Nat) (Q : Sig → FE → St → Prop) :
    ∀ (n i : Nat) (cs : List Int) (e : FE) (st : St), i + n = ls.length → cs.length = fs.length → CsOk cs i → st.low = L → L ≤ C → N ≤ C → C < st.next → L ≤ st.next → (∀ x, x < N → Fw.look x st.heap = Fw.look x h0') →
    Fw.look C st.heap = some (.cells none (cntV cs)) →
    e 0 = slv b1 fs.length (encFs fs) → e 5 = .mslice C 0 fs.length (some fs.length) → e 1 = slo o b2 ls.length (encLs ls) → e 6 = .int .i64 i →
    (∀ e' st', st'.low = L → C < st'.next → (∀ x, x < N → Fw.look x st'.heap = Fw.look x h0') → Fw.look C st'.heap = some (.cells none (cntV (countGo fs (ls.drop i) cs))) → e' 5 = .mslice C 0 fs.length (some fs.length) → Q (.exit 0) e' st') → WLoop cx ir22L0 e st Q
  | 0, i, cs, e, st, hi, hcl, hcs, hL, hLC, hNC, hC, hLn, hold, hclk, h0, h5, h1, h6, hT => by
    refine WLoop.rnd (c := _) ir22L0.eq_1 ?_
    have hd : decide ((i : Int) < (ls.length : Int)) = false := by simp; omega
    simp (config := {contextual := true, implicitDefEqProofs := false, maxSteps := 4000000}) only [go_sem, ↓reduceIte, Bool.false_eq_true, Nat.reduceEqDiff, Nat.reduceAdd, Int.reduceLE, Int.reduceLT, Int.reduceEq, Int.reduceToNat, Int.toNat_natCast, Int.cast_ofNat_Int, Int.natCast_one, Nat.reduceMod, Nat.reduceDiv, UInt8.reduceToNat, Nat.reduceLT, h0, h1, h5, h6, hd]
    rw [List.drop_eq_nil_of_le (by omega)] at hT
    exact hT _ _ hL hC hold hclk h5
  | n + 1, i, cs, e, st, hi, hcl, hcs, hL, hLC, hNC, hC, hLn, hold, hclk, h0, h5, h1, h6, hT => by
    refine WLoop.rnd (c := _) ir22L0.eq_1 ?_
    have hd : decide ((i : Int) < (ls.length : Int)) = true := by simp; omega
    have hw := wrap_one (i := i) (by omega)
    have hlt : i < ls.length := by omega
    have hminC : min st.low C = st.low := by omega
    have k21 := fun st K => c21 fs (by omega) b1 ls[i] st K
    rw [List.drop_eq_getElem_cons hlt] at hT
    simp only [countGo] at hT
    rcases findL_range fs ls[i] with hfi | ⟨j, hfi, hj⟩
    · have hx : decide (0 ≤ findL fs ls[i]) = false := by rw [hfi]; rfl
      simp (config := {contextual := true, implicitDefEqProofs := false, maxSteps := 4000000}) only [go_sem, ↓reduceIte, Bool.false_eq_true, Nat.reduceEqDiff, Nat.reduceAdd, Int.reduceLE, Int.reduceLT, Int.reduceEq, Int.reduceToNat, Int.toNat_natCast, Int.cast_ofNat_Int, Int.natCast_one, Nat.reduceMod, Nat.reduceDiv, UInt8.reduceToNat, Nat.reduceLT, h0, h1, h5, h6, hd, hw, sub_line hlt, encL_eq, k21, hx]
      rw [if_pos (by omega)] at hT
      refine ⟨by omega, ?_⟩
      have hcs' : CsOk cs (i + 1) := fun j h => by have := hcs j h; omega
      exact l22 o b1 b2 fs hcnt ls hll C L h0' N Q n (i + 1) cs _ _ (by omega) hcl hcs' hL hLC hNC hC hLn hold hclk h0 h5 h1 rfl hT
    · have hx : decide (0 ≤ (j : Int)) = true := by simp
      have hjc : j < cs.length := by omega
      have hcj := hcs j hjc
      have hw2 : IntKind.i64.wrap (cs[j] + 1) = cs[j] + 1 := wrap_i64 (by omega) (by omega)
      have hgc : cs.getD j 0 = cs[j] := by simp [List.getD, hjc]
      rw [hfi, if_neg (by omega), Int.toNat_natCast, hgc] at hT
      simp (config := {contextual := true, implicitDefEqProofs := false, maxSteps := 4000000}) only [go_sem, ↓reduceIte, Bool.false_eq_true, Nat.reduceEqDiff, Nat.reduceAdd, Int.reduceLE, Int.reduceLT, Int.reduceEq, Int.reduceToNat, Int.toNat_natCast, Int.cast_ofNat_Int, Int.natCast_one, Nat.reduceMod, Nat.reduceDiv, UInt8.reduceToNat, Nat.reduceLT, h0, h1, h5, h6, hd, hw, hw2, sub_line hlt, encL_eq, hminC, k21, hfi, hx, sub_cnt hjc, hclk, patch_cnt cs j _ hjc]
      refine ⟨by omega, by omega, by omega, ?_⟩
      refine l22 o b1 b2 fs hcnt ls hll C L h0' N Q n (i + 1) (cs.set j (cs[j] + 1)) _ _ (by omega) (by simpa using hcl) (hcs.set j hjc) hL hLC hNC hC hLn ?_ ?_ h0 h5 h1 rfl hT
      · intro x hxN
        rw [look_put, if_neg (by omega)]; exact hold x hxN
      · rw [look_put, if_pos rfl, hclk]; rfl
theorem c22 (fs : List Form) (hcnt : cntFs fs ≤ 40) (b1 b2 : Bool) (o : Own) (ls : List Line) (hll : ls.length ≤ 300) (s : St) (K : AV → St → Prop)
    (hK : ∀ st', s.next < st'.next → st'.low = min s.low s.next → (∀ x, x < s.next → Fw.look x st'.heap = Fw.look x s.heap) → Fw.look s.next st'.heap = some (.cells none (cntV (countGo fs ls (List.replicate fs.length 0)))) → K (.mslice s.next 0 fs.length (some fs.length)) st') :
    CallW cx 22 [slv b1 fs.length (encFs fs), slo o b2 ls.length (encLs ls)] s K := by
  have hlen := cntFs_length fs
  refine CallW.fn' (fn := ir22) rfl rfl (by kernel_rfl) ir22.eq_1 ?_
  have hms := fun st => mksl_n st fs.length (by omega)
  simp (config := {contextual := true, implicitDefEqProofs := false, maxSteps := 4000000}) only [go_sem, ↓reduceIte, Bool.false_eq_true, Nat.reduceEqDiff, Nat.reduceAdd, Int.reduceLE, Int.reduceLT, Int.reduceEq, Int.reduceToNat, Int.toNat_natCast, Int.cast_ofNat_Int, Int.natCast_one, Nat.reduceMod, Nat.reduceDiv, UInt8.reduceToNat, Nat.reduceLT, hms]
  refine l22 o b1 b2 fs (by omega) ls hll s.next s.next s.heap s.next _ ls.length 0 (List.replicate fs.length 0) _ _ (by omega) (by simp) (fun j h => by simp) rfl (Nat.le_refl _) (Nat.le_refl _) (by simp) (by simp) ?_ (by simp [Fw.look]) rfl rfl rfl rfl ?_
  · intro x hx
    simp only [Fw.look]; rw [if_neg (by omega)]
  · intro e' st' hl hC hold hclk k5
    rw [List.drop_zero] at hclk
    simp (config := {contextual := true, implicitDefEqProofs := false, maxSteps := 4000000}) only [go_sem, ↓reduceIte, Bool.false_eq_true, Nat.reduceEqDiff, Nat.reduceAdd, Int.reduceLE, Int.reduceLT, Int.reduceEq, Int.reduceToNat, Int.toNat_natCast, Int.cast_ofNat_Int, Int.natCast_one, Nat.reduceMod, Nat.reduceDiv, UInt8.reduceToNat, Nat.reduceLT, k5]
    rw [LeaveW_new rfl (by simp [AV.al, alAll, below])]
    exact hK _ hC (by simp only; omega) hold hclk
end T10
