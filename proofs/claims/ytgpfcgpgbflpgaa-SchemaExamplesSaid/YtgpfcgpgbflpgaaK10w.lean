/- Parts of the proof, one behind the other. -/
import Derived.Test.YtgpfcgpgbflpgaaK10v
/- Count; what SchemaLess asks of the reference. -/
namespace T10
open Go Fw Go.Proofs
set_option maxRecDepth 100000
set_option linter.unusedSimpArgs false
set_option linter.unusedVariables false
def countGo (fs : List Form) : List Line → List Int → List Int
  | [], cs => cs
  | l :: ls, cs => if findL fs l < 0 then countGo fs ls cs else countGo fs ls (cs.set (findL fs l).toNat (cs.getD (findL fs l).toNat 0 + 1))
theorem countGo_length (fs : List Form) : ∀ (ls : List Line) (cs : List Int), (countGo fs ls cs).length = cs.length
  | [], cs => rfl
  | l :: ls, cs => by simp only [countGo]; split <;> simp [countGo_length fs ls]
theorem countGo_get (fs : List Form) (k : Nat) : ∀ (ls : List Line) (cs : List Int), cs.length = fs.length → k < fs.length → (countGo fs ls cs).getD k 0 = cs.getD k 0 + occ fs k ls
  | [], cs, _, _ => by simp [countGo, occ]
  | l :: ls, cs, hc, hk => by
    simp only [countGo, occ_cons]
    rcases findL_range fs l with hfi | ⟨j, hfi, hj⟩
    · rw [if_pos (by omega), countGo_get fs k ls cs hc hk, if_neg (by omega)]; omega
    · rw [hfi, if_neg (by omega), Int.toNat_natCast, countGo_get fs k ls _ (by simpa using hc) hk]
      have hjc : j < cs.length := by omega
      by_cases hkj : k = j
      · subst hkj
        rw [if_pos rfl]
        have hs : (cs.set k (cs.getD k 0 + 1)).getD k 0 = cs.getD k 0 + 1 := by simp [List.getD, hjc]
        rw [hs]; omega
      · have hs : (cs.set j (cs.getD j 0 + 1)).getD k 0 = cs.getD k 0 := by
          simp [List.getD, List.getElem?_set, show ¬ j = k from fun e => hkj e.symm]
        rw [hs, if_neg (by omega)]; omega
theorem l18 (o : Own) (b1 b2 : Bool) (fs : List Form) (hcnt : fs.length ≤ 40) (ls : List Line) (hll : ls.length ≤ 300) (C L : Nat) (h0' : List (Nat × AObj)) (N : Nat) (Q : Sig → FE → St → Prop) :
    ∀ (n i : Nat) (cs : List Int) (e : FE) (st : St), i + n = ls.length → cs.length = fs.length → CsOk cs i → st.low = L → L ≤ C → N ≤ C → C < st.next → L ≤ st.next → (∀ x, x < N → Fw.look x st.heap = Fw.look x h0') →
    Fw.look C st.heap = some (.cells none (cntV cs)) →
    e 0 = slv b1 fs.length (encFs fs) → e 7 = .mslice C 0 fs.length (some fs.length) → e 19 = slo o b2 ls.length (encLs ls) → e 20 = .int .i64 ls.length → e 21 = .int .i64 i →
    (∀ e' st', st'.low = L → C < st'.next → (∀ x, x < N → Fw.look x st'.heap = Fw.look x h0') → Fw.look C st'.heap = some (.cells none (cntV (countGo fs (ls.drop i) cs))) → e' 7 = .mslice C 0 fs.length (some fs.length) → Q (.exit 0) e' st') → WLoop cx ir18L0 e st Q
  | 0, i, cs, e, st, hi, hcl, hcs, hL, hLC, hNC, hC, hLn, hold, hclk, h0, h7, h19, h20, h21, hT => by
    refine WLoop.rnd (c := _) ir18L0.eq_1 ?_
    have hd : decide ((i : Int) < (ls.length : Int)) = false := by simp; omega
    simp (config := {contextual := true, implicitDefEqProofs := false, maxSteps := 4000000}) only [go_sem, ↓reduceIte, Bool.false_eq_true, Nat.reduceEqDiff, Nat.reduceAdd, Int.reduceLE, Int.reduceLT, Int.reduceEq, Int.reduceToNat, Int.toNat_natCast, Int.cast_ofNat_Int, Int.natCast_one, Nat.reduceMod, Nat.reduceDiv, UInt8.reduceToNat, Nat.reduceLT, h19, h20, h21, hd]
    rw [List.drop_eq_nil_of_le (by omega)] at hT
    exact hT _ _ hL hC hold hclk h7
  | n + 1, i, cs, e, st, hi, hcl, hcs, hL, hLC, hNC, hC, hLn, hold, hclk, h0, h7, h19, h20, h21, hT => by
    refine WLoop.rnd (c := _) ir18L0.eq_1 ?_
    have hd : decide ((i : Int) < (ls.length : Int)) = true := by simp; omega
    have hw := wrap_one (i := i) (by omega)
    have hlt : i < ls.length := by omega
    have hmin : min st.low st.next = st.low := by omega
    have hminC : min st.low C = st.low := by omega
    have hne1 : (st.next = C) = False := by simp; omega
    have k20 := fun st K => c20 fs (by omega) b1 ls[i] st K
    rw [List.drop_eq_getElem_cons hlt] at hT
    simp only [countGo] at hT
    rcases findL_range fs ls[i] with hfi | ⟨j, hfi, hj⟩
    · have hx : decide (0 ≤ findL fs ls[i]) = false := by rw [hfi]; rfl
      simp (config := {contextual := true, implicitDefEqProofs := false, maxSteps := 4000000}) only [go_sem, ↓reduceIte, Bool.false_eq_true, Nat.reduceEqDiff, Nat.reduceAdd, Int.reduceLE, Int.reduceLT, Int.reduceEq, Int.reduceToNat, Int.toNat_natCast, Int.cast_ofNat_Int, Int.natCast_one, Nat.reduceMod, Nat.reduceDiv, UInt8.reduceToNat, Nat.reduceLT, h0, h7, h19, h20, h21, hd, hw, sub_line hlt, encL_eq, hmin, hne1, k20, hx]
      rw [if_pos (by omega)] at hT
      refine ⟨by omega, ?_⟩
      have hcs' : CsOk cs (i + 1) := fun j h => by have := hcs j h; omega
      exact l18 o b1 b2 fs hcnt ls hll C L h0' N Q n (i + 1) cs _ _ (by omega) hcl hcs' hL hLC hNC (by simp only; omega) (by simp only; omega)
        (fun x hx => by simp only [Fw.look]; rw [if_neg (by omega)]; exact hold x hx) (by simp only [Fw.look]; rw [if_neg (by omega)]; exact hclk) h0 h7 h19 h20 rfl hT
    · have hx : decide (0 ≤ (j : Int)) = true := by simp
      have hjc : j < cs.length := by omega
      have hcj := hcs j hjc
      have hw2 : IntKind.i64.wrap (cs[j] + 1) = cs[j] + 1 := wrap_i64 (by omega) (by omega)
      have hgc : cs.getD j 0 = cs[j] := by simp [List.getD, hjc]
      rw [hfi, if_neg (by omega), Int.toNat_natCast, hgc] at hT
      simp (config := {contextual := true, implicitDefEqProofs := false, maxSteps := 4000000}) only [go_sem, ↓reduceIte, Bool.false_eq_true, Nat.reduceEqDiff, Nat.reduceAdd, Int.reduceLE, Int.reduceLT, Int.reduceEq, Int.reduceToNat, Int.toNat_natCast, Int.cast_ofNat_Int, Int.natCast_one, Nat.reduceMod, Nat.reduceDiv, UInt8.reduceToNat, Nat.reduceLT, h0, h7, h19, h20, h21, hd, hw, hw2, sub_line hlt, encL_eq, hmin, hminC, hne1, k20, hfi, hx, sub_cnt hjc, hclk, patch_cnt cs j _ hjc]
      refine ⟨by omega, by omega, by omega, ?_⟩
      refine l18 o b1 b2 fs hcnt ls hll C L h0' N Q n (i + 1) (cs.set j (cs[j] + 1)) _ _ (by omega) (by simpa using hcl) (hcs.set j hjc) hL hLC hNC (by simp only; omega) (by simp only; omega) ?_ ?_ h0 h7 h19 h20 rfl hT
      · intro x hxN
        simp only [Fw.look]
        rw [if_neg (by omega), look_put, if_neg (by omega)]; exact hold x hxN
      · simp only [Fw.look]
        rw [if_neg (by omega), look_put, if_pos rfl, hclk]; rfl
class KB where
  k : AV → St → Prop
def CallB (c : Cx) (f : Nat) (args : List AV) (s : St) [i : KB] : Prop := CallW c f args s i.k
theorem c18 (fs : List Form) (hsm : smallFs fs) (hcnt : cntFs fs ≤ 40) (hv : checkS fs = 0) (b1 b2 : Bool) (o : Own) (ls : List Line) (hll : ls.length ≤ 300) (s : St) (K : AV → St → Prop)
    (hK : ∀ st', s.next < st'.next → st'.low = min s.low s.next → (∀ x, x < s.next → Fw.look x st'.heap = Fw.look x s.heap) → Fw.look s.next st'.heap = some (.cells none (cntV (countGo fs ls (List.replicate fs.length 0)))) → K (.tuple [.mslice s.next 0 fs.length (some fs.length), .int .i64 0]) st') :
    CallW cx 18 [slv b1 fs.length (encFs fs), slo o b2 ls.length (encLs ls)] s K := by
  have hlen := cntFs_length fs
  refine CallW.fn' (fn := ir18) rfl rfl (by kernel_rfl) ir18.eq_1 ?_
  have k13 := fun st K => c13 fs hsm hcnt b1 st K
  rw [hv] at k13
  have hms := fun st => mksl_n st fs.length (by omega)
  simp (config := {contextual := true, implicitDefEqProofs := false, maxSteps := 4000000}) only [go_sem, ↓reduceIte, Bool.false_eq_true, Nat.reduceEqDiff, Nat.reduceAdd, Int.reduceLE, Int.reduceLT, Int.reduceEq, Int.reduceToNat, Int.toNat_natCast, Int.cast_ofNat_Int, Int.natCast_one, Nat.reduceMod, Nat.reduceDiv, UInt8.reduceToNat, Nat.reduceLT, k13, hms, show decide ((0 : Int) ≠ 0) = false from rfl]
  refine l18 o b1 b2 fs (by omega) ls hll s.next s.next s.heap s.next _ ls.length 0 (List.replicate fs.length 0) _ _ (by omega) (by simp) (fun j h => by simp) rfl (Nat.le_refl _) (Nat.le_refl _) (by simp) (by simp) ?_ (by simp [Fw.look]) rfl rfl rfl rfl rfl ?_
  · intro x hx
    simp only [Fw.look]; rw [if_neg (by omega)]
  · intro e' st' hl hC hold hclk k7
    rw [List.drop_zero] at hclk
    simp (config := {contextual := true, implicitDefEqProofs := false, maxSteps := 4000000}) only [go_sem, ↓reduceIte, Bool.false_eq_true, Nat.reduceEqDiff, Nat.reduceAdd, Int.reduceLE, Int.reduceLT, Int.reduceEq, Int.reduceToNat, Int.toNat_natCast, Int.cast_ofNat_Int, Int.natCast_one, Nat.reduceMod, Nat.reduceDiv, UInt8.reduceToNat, Nat.reduceLT, k7]
    rw [LeaveW_new rfl (by simp [AV.al, alAll, below])]
    exact hK _ hC (by simp only; omega) hold hclk
theorem app_nil0 (s : St) (vs : List Line) (h0 : vs.length = 0) : appendA s 49 4 64 (.slice [] 0 .full) (.slice (encLs vs) vs.length .no) = some (.slice [] 0 .full, s) := by
  have hvs : vs = [] := List.eq_nil_of_length_eq_zero h0
  subst hvs
  simp [appendA, cellsOf, AV.count, encLs]
theorem app2 (hp : List (Nat × AObj)) (nx lw : Nat) (hlw : lw ≤ nx) (us vs : List Line) (hu : us.length ≤ 1000) (hv : vs.length ≤ 1000) : ∃ v1 h1 n1 o h2 n2,
    appendA { heap := hp, next := nx, low := lw } 49 4 64 (.slice [] 0 .full) (.slice (encLs us) us.length .no) = some (v1, { heap := h1, next := n1, low := lw }) ∧
    appendA { heap := h1, next := n1, low := lw } 49 4 64 v1 (.slice (encLs vs) vs.length .no) = some (.slice (encLs (us ++ vs)) (us.length + vs.length) o, { heap := h2, next := n2, low := lw }) ∧
    nx ≤ n2 ∧ ∀ x, x < nx → Fw.look x h2 = Fw.look x hp := by
  by_cases hu0 : us.length = 0
  · have hus : us = [] := List.eq_nil_of_length_eq_zero hu0
    by_cases hv0 : vs.length = 0
    · have hvs : vs = [] := List.eq_nil_of_length_eq_zero hv0
      subst hus hvs
      exact ⟨_, _, _, _, _, _, app_nil0 _ _ rfl, app_nil0 _ _ rfl, Nat.le_refl _, fun _ _ => rfl⟩
    · subst hus
      have h9 := app_nil { heap := hp, next := nx, low := lw } vs hv0 hv
      simp only [St.new] at h9
      refine ⟨.slice [] 0 .full, hp, nx, .tok nx vs.length, (nx, .tok 49 vs.length 4) :: hp, nx + 1, app_nil0 _ _ rfl, ?_, by omega, ?_⟩
      · simp only [List.nil_append, List.length_nil, Nat.zero_add]
        exact h9
      · intro x hx; simp only [Fw.look]; rw [if_neg (by omega)]
  · have h1 := app_nil { heap := hp, next := nx, low := lw } us hu0 hu
    simp only [St.new] at h1
    by_cases hv0 : vs.length = 0
    · refine ⟨_, _, _, _, _, _, h1, app_tok0 _ us vs nx us.length (by simp [Fw.look]) hv0, by simp, fun x hx => ?_⟩
      simp only [Fw.look]; rw [if_neg (by omega)]
    · have h2 := app_tok1 { heap := (nx, .tok 49 us.length 4) :: hp, next := nx + 1, low := lw } us vs nx us.length (by simp [Fw.look]) hv0 hu hv
      simp only [St.set, Nat.min_eq_left hlw] at h2
      refine ⟨_, _, _, _, _, _, h1, h2, by simp, fun x hx => ?_⟩
      rw [look_put, if_neg (by omega)]
      simp only [Fw.look]; rw [if_neg (by omega)]
theorem kb_k (K : AV → St → Prop) (v : AV) (s : St) : @KB.k ⟨K⟩ v s = K v s := rfl
theorem less_iff (fs : List Form) (ls : List Line) (hf : Fine fs ls) (k : Nat) (hk : k < ls.length) (j : Nat) (hj : findL fs ls[k] = (j : Int)) (hjl : j < fs.length) :
    Fine fs (ls.take k ++ ls.drop (k + 1)) ↔ (fs.getD j default).least < (occ fs j ls : Int) := by
  have hperm : ls.Perm (ls[k] :: (ls.take k ++ ls.drop (k + 1))) := by
    have h1 : ls = ls.take k ++ ls[k] :: ls.drop (k + 1) := by rw [← List.drop_eq_getElem_cons hk, List.take_append_drop]
    have h2 : (ls.take k ++ ls[k] :: ls.drop (k + 1)).Perm (ls[k] :: (ls.take k ++ ls.drop (k + 1))) := List.perm_middle
    exact (List.Perm.of_eq h1).trans h2
  have ho : ∀ i, occ fs i ls = occ fs i (ls.take k ++ ls.drop (k + 1)) + (if findL fs ls[k] = (i : Int) then 1 else 0) := fun i => by
    rw [← occ_cons]; exact hperm.countP_eq _
  have hoj := ho j
  rw [if_pos hj] at hoj
  constructor
  · intro h
    have := (h.2 j hjl).2
    omega
  · intro h
    refine ⟨fun l hl => hf.1 l (hperm.mem_iff.2 (List.mem_cons_of_mem _ hl)), fun i hi => ?_⟩
    obtain ⟨h1, h2⟩ := hf.2 i hi
    have hoi := ho i
    by_cases hij : i = j
    · subst hij
      exact ⟨fun _ => by have := h1 (by omega); omega, by omega⟩
    · rw [if_neg (by omega)] at hoi
      rw [hoi] at h1 h2
      exact ⟨by simpa using h1, by simpa using h2⟩
end T10
