/- Parts of the proof, one behind the other. -/
import Derived.Test.YtgpfcgpgbflpgaaK10xd
/- The example matches; without one of its lines it does not. -/
namespace T10
open Go Fw Go.Proofs
set_option maxRecDepth 100000
set_option linter.unusedSimpArgs false
set_option linter.unusedVariables false
theorem fits_samp (w : List UInt8) (hk : knownB w = true) : fitsT w (sampT w) = true := by
  by_cases hm : w ∈ kindsL
  · simp only [kindsL, List.mem_cons, List.not_mem_nil, or_false] at hm
    rcases hm with rfl | rfl | rfl | rfl | rfl | rfl | rfl | rfl | rfl <;> decide
  · have he : eqB w = true := by simpa [knownB, hm] using hk
    simp only [eqB, Bool.and_eq_true, decide_eq_true_eq] at he
    obtain ⟨hl, hc⟩ := he
    have n0 : (w = [119, 111, 114, 100]) = False := by simp; intro h; exact hm (h ▸ by decide)
    have n1 : (w = [110, 97, 109, 101]) = False := by simp; intro h; exact hm (h ▸ by decide)
    have n2 : (w = [112, 97, 116, 104]) = False := by simp; intro h; exact hm (h ▸ by decide)
    have n3 : (w = [110, 117, 109, 98, 101, 114]) = False := by simp; intro h; exact hm (h ▸ by decide)
    have n4 : (w = [119, 104, 111, 108, 101]) = False := by simp; intro h; exact hm (h ▸ by decide)
    have n5 : (w = [116, 101, 120, 116]) = False := by simp; intro h; exact hm (h ▸ by decide)
    have n6 : (w = [116, 105, 109, 101]) = False := by simp; intro h; exact hm (h ▸ by decide)
    have n7 : (w = [100, 97, 116, 101]) = False := by simp; intro h; exact hm (h ▸ by decide)
    have n8 : (w = [97, 110, 121]) = False := by simp; intro h; exact hm (h ▸ by decide)
    have hs : sampT w = if letB w = true then ⟨1, w.drop 1, 0, 0⟩ else ⟨6, w.drop 1, 0, 0⟩ := by
      simp only [sampT, n2, n3, n4, n5, n6, n7, or_self, if_false, sampE, hc, ne_eq, not_true_eq_false]
    rw [hs]
    cases letB w <;> simp [fitsT, fitsB, n0, n1, n2, n3, n4, n5, n6, n7, n8, hl, hc] <;> simpa using hc
theorem samp_len (w : List UInt8) (h : w.length ≤ 100) : (sampT w).t.length ≤ 2000 := by
  unfold sampT sampE
  repeat' split
  all_goals simp <;> omega
theorem tok_ex (l : Line) (n : Nat) : ∀ (us : List (List UInt8)) (i : Nat) (pre : List Tok), i + us.length = n → kindsOk n us i = true → l.toks = pre ++ exTs us → tokGo l us pre.length = none
  | [], i, pre, hi, hk, hl => by
    simp only [tokGo]; rw [if_neg (by rw [hl]; simp [exTs])]
  | a :: us, i, pre, hi, hk, hl => by
    simp only [kindsOk, Bool.and_eq_true] at hk
    obtain ⟨⟨h1, h2⟩, h3⟩ := hk
    simp only [tokGo]
    simp only [exTs] at hl
    cases hb : splitB a with
    | true =>
      rw [hb] at hl h2
      simp only [if_true] at hl ⊢
      have hus : us = [] := by
        simp only [Bool.true_and, Bool.not_eq_true', decide_eq_false_iff_not] at h2
        simp only [List.length_cons] at hi
        exact List.eq_nil_of_length_eq_zero (by omega)
      subst hus
      rw [hl]; simp [exTs, restBad]
    | false =>
      rw [hb] at hl
      simp only [Bool.false_eq_true, if_false] at hl ⊢
      have hg : l.toks[pre.length]? = some (sampT (splitW a)) := by rw [hl]; simp
      rw [hg]
      simp only [fits_samp _ h1, if_true]
      have := tok_ex l n us (i + 1) (pre ++ [sampT (splitW a)]) (by simp only [List.length_cons] at hi; omega) h3 (by rw [hl, List.append_assoc]; rfl)
      simpa using this
theorem occ_append (fs : List Form) (j : Nat) (us vs : List Line) : occ fs j (us ++ vs) = occ fs j us + occ fs j vs := by simp only [occ, List.countP_append]
theorem occ_rep (fs : List Form) (j : Nat) (l : Line) (m : Nat) : occ fs j (List.replicate m l) = if findL fs l = (j : Int) then m else 0 := by
  simp only [occ, List.countP_replicate, decide_eq_true_eq]
theorem dup_find : ∀ (fs : List Form) (ws : List (List UInt8)) (i : Nat), dupGo ws fs = false → ∀ (j : Nat) (h : j < fs.length), fs[j].word ∉ ws ∧ findGo fs[j].word fs i = ((i + j : Nat) : Int)
  | f :: fs, ws, i, hd, 0, h => by
    simp only [dupGo, Bool.or_eq_false_iff, decide_eq_false_iff_not] at hd
    exact ⟨hd.1, by simp [findGo]⟩
  | f :: fs, ws, i, hd, j + 1, h => by
    simp only [dupGo, Bool.or_eq_false_iff, decide_eq_false_iff_not] at hd
    obtain ⟨h1, h2⟩ := dup_find fs (ws ++ [f.word]) (i + 1) hd.2 j (by simpa using h)
    simp only [List.getElem_cons_succ]
    simp only [List.mem_append, List.mem_singleton, not_or] at h1
    refine ⟨h1.1, ?_⟩
    simp only [findGo]
    rw [if_neg (fun h => h1.2 h.symm), h2]
    congr 1; omega
theorem find_ex (fs : List Form) (hg : goodS fs) (j : Nat) (h : j < fs.length) : findL fs (exL fs[j]) = (j : Int) := by
  have h1 : isWord (exL fs[j]) = true := by simp [isWord, exL, Line.toks]
  have h2 : wordOf (exL fs[j]) = fs[j].word := by simp [wordOf, exL, Line.toks]
  simp only [findL, h1, if_true, h2]
  rw [(dup_find fs [] 0 hg.2 j h).2, Nat.zero_add]
theorem occ_ex (fs : List Form) (hg : goodS fs) (j : Nat) (hj : j < fs.length) : ∀ (n i : Nat), i + n = fs.length → occ fs j (exFs (fs.drop i)) = if i ≤ j then fs[j].least.toNat else 0
  | 0, i, hi => by
    rw [List.drop_eq_nil_of_le (by omega), if_neg (by omega)]; simp [exFs, occ]
  | n + 1, i, hi => by
    have hlt : i < fs.length := by omega
    rw [List.drop_eq_getElem_cons hlt]
    simp only [exFs, exF_eq, occ_append, occ_rep, find_ex fs hg i hlt, occ_ex fs hg j hj n (i + 1) (by omega)]
    by_cases hij : i = j
    · subst hij
      rw [if_pos rfl, if_neg (by omega), if_pos (by omega)]; rfl
    · rw [if_neg (by omega)]
      by_cases h2 : i ≤ j
      · rw [if_pos h2, if_pos (by omega), Nat.zero_add]
      · rw [if_neg h2, if_neg (by omega)]
theorem mem_ex : ∀ (fs : List Form) (l : Line), l ∈ exFs fs → ∃ (j : Nat) (h : j < fs.length), l = exL fs[j]
  | f :: fs, l, h => by
    simp only [exFs, exF_eq, List.mem_append, List.mem_replicate] at h
    rcases h with h | h
    · exact ⟨0, by simp, h.2⟩
    · obtain ⟨j, hj, rfl⟩ := mem_ex fs l h
      exact ⟨j + 1, by simpa using hj, rfl⟩
theorem low_fine {fs : List Form} {ls : List Line} (h : Fine fs ls) : lowOk (lowM ls fs (List.replicate fs.length 0)) := by
  have h1 := (match_iff fs ls).2 h
  simp only [matchF] at h1
  by_cases h2 : (lowM ls fs (List.replicate fs.length 0)).2 = true
  · rw [if_pos h2] at h1; simp at h1
  · rw [if_neg h2] at h1; exact ⟨h1, by simpa using h2⟩
theorem fine_ex : ∀ (fs : List Form), Deep goodS fs → Fine fs (exFs fs) := by
  refine forms_ind fun fs ih => ?_
  intro hg
  refine ⟨fun l hl => ?_, fun j hj => ?_⟩
  · obtain ⟨j, hj, rfl⟩ := mem_ex fs l hl
    refine ⟨j, find_ex fs hg.top j hj, hj, ?_⟩
    have hmem := List.getElem_mem hj
    obtain ⟨hkf, hlf⟩ := hg.top.1 _ hmem
    have hgd : fs.getD j default = fs[j] := by simp [List.getD, hj]
    rw [hgd]
    have ht : tokGo (exL fs[j]) fs[j].args 1 = none := tok_ex (exL fs[j]) fs[j].args.length fs[j].args 0 [⟨1, fs[j].word, 0, 0⟩] (by omega) hkf rfl
    have hh : (exL fs[j]).head = decide (0 < fs[j].kids.length) := rfl
    have hk : (exL fs[j]).kids = exFs fs[j].kids := rfl
    obtain ⟨h1, h2⟩ := low_fine (ih _ hmem (hg.kids _ hmem))
    simp only [lineI, ht, tokF, hh, hk]
    rw [if_neg (by simp), if_neg (by simp), if_neg (by rw [h2]; simp)]
    exact h1
  · have ho := occ_ex fs hg.top j hj fs.length 0 (by omega)
    rw [List.drop_zero, if_pos (Nat.zero_le _)] at ho
    have hmem := List.getElem_mem hj
    obtain ⟨g1, g2, g3, g4, g5⟩ := limits_iff _ (hg.top.1 _ hmem).2
    have hgd : fs.getD j default = fs[j] := by simp [List.getD, hj]
    rw [hgd, ho]
    exact ⟨fun _ => by omega, by omega⟩
/-- A run over good lines, of none of which there are too many. -/
theorem low_run (fs : List Form) : ∀ (ls : List Line) (cs : List Int), cs.length = fs.length → (∀ l ∈ ls, goodL fs l) → (∀ j, j < fs.length → 0 < occ fs j ls → cs.getD j 0 + (occ fs j ls : Int) ≤ (fs.getD j default).most) →
    lowM ls fs cs = ((0, 0, 0), lackB fs (countGo fs ls cs))
  | [], cs, hc, hg, ho => by simp only [lowM, countGo]
  | l :: ls, cs, hc, hg, ho => by
    obtain ⟨j, hj, hjl, hz⟩ := hg l (by simp)
    have h1 := ho j hjl (by rw [occ_cons, if_pos hj]; omega)
    rw [occ_cons, if_pos hj] at h1
    have hn : ¬ ((j : Int) < 0) := by omega
    rw [lowM_cons, countGo, hj]
    simp only [hn, if_false, Int.toNat_natCast]
    rw [lineM_I, if_neg (show ¬ ((fs.getD j default).most ≤ cs.getD j 0) by omega), if_neg (by rw [hz]; simp)]
    refine low_run fs ls _ (by simpa using hc) (fun x hx => hg x (by simp [hx])) fun i hi hpos => ?_
    have h2 := ho i hi (by rw [occ_cons]; omega)
    rw [occ_cons, hj] at h2
    have hjc : j < cs.length := by omega
    by_cases hij : i = j
    · subst hij
      have hs : (cs.set i (cs.getD i 0 + 1)).getD i 0 = cs.getD i 0 + 1 := by simp [List.getD, hjc]
      rw [hs]; rw [if_pos rfl] at h2; omega
    · have hs : (cs.set j (cs.getD j 0 + 1)).getD i 0 = cs.getD i 0 := by
        simp [List.getD, List.getElem?_set, show ¬ j = i from fun e => hij e.symm]
      rw [hs]; rw [if_neg (by omega)] at h2; omega
theorem less_ex (fs : List Form) (hg : Deep goodS fs) (k : Nat) (hk : k < (exFs fs).length) : matchF fs ((exFs fs).take k ++ (exFs fs).drop (k + 1)) = (9, 1, 1) := by
  have hf := fine_ex fs hg
  obtain ⟨j, hj, hjk⟩ := mem_ex fs _ (List.getElem_mem hk)
  have hperm : (exFs fs).Perm ((exFs fs)[k] :: ((exFs fs).take k ++ (exFs fs).drop (k + 1))) := by
    have h1 : exFs fs = (exFs fs).take k ++ (exFs fs)[k] :: (exFs fs).drop (k + 1) := by rw [← List.drop_eq_getElem_cons hk, List.take_append_drop]
    have h2 : ((exFs fs).take k ++ (exFs fs)[k] :: (exFs fs).drop (k + 1)).Perm ((exFs fs)[k] :: ((exFs fs).take k ++ (exFs fs).drop (k + 1))) := List.perm_middle
    exact (List.Perm.of_eq h1).trans h2
  have hocc : ∀ i, occ fs i (exFs fs) = occ fs i ((exFs fs).take k ++ (exFs fs).drop (k + 1)) + (if j = i then 1 else 0) := fun i => by
    have h1 : occ fs i (exFs fs) = occ fs i ((exFs fs)[k] :: ((exFs fs).take k ++ (exFs fs).drop (k + 1))) := hperm.countP_eq _
    rw [h1, occ_cons, hjk, find_ex fs hg.top j hj]
    congr 1
    by_cases h : j = i
    · rw [if_pos h, if_pos (by omega)]
    · rw [if_neg h, if_neg (by omega)]
  have hz : ∀ i, (List.replicate fs.length (0 : Int)).getD i 0 = 0 := fun i => by
    simp only [List.getD, List.getElem?_replicate]; split <;> rfl
  have hrun := low_run fs ((exFs fs).take k ++ (exFs fs).drop (k + 1)) (List.replicate fs.length 0) (by simp) (fun l hl => hf.1 l (hperm.mem_iff.2 (List.mem_cons_of_mem _ hl))) fun i hi hp => by
    have h1 := (hf.2 i hi).1 (by rw [hocc]; omega)
    rw [hocc] at h1; rw [hz]; omega
  have hlack : lackB fs (countGo fs ((exFs fs).take k ++ (exFs fs).drop (k + 1)) (List.replicate fs.length 0)) = true := by
    by_cases h : lackB fs (countGo fs ((exFs fs).take k ++ (exFs fs).drop (k + 1)) (List.replicate fs.length 0)) = true
    · exact h
    · have h1 := (lackB_iff fs (countGo fs ((exFs fs).take k ++ (exFs fs).drop (k + 1)) (List.replicate fs.length 0)) (by rw [countGo_length]; simp)).1 (by simpa using h) j hj
      rw [countGo_get fs j _ _ (by simp) hj, hz] at h1
      have h2 := hocc j
      rw [if_pos rfl] at h2
      have ho := occ_ex fs hg.top j hj fs.length 0 (by omega)
      rw [List.drop_zero, if_pos (Nat.zero_le _)] at ho
      have hgd : fs.getD j default = fs[j] := by simp [List.getD, hj]
      rw [hgd] at h1
      obtain ⟨g1, _⟩ := limits_iff _ (hg.top.1 _ (List.getElem_mem hj)).2
      omega
  simp only [matchF, hrun, hlack, if_true]
/- bounds -/
theorem exTs_few : ∀ (l : List (List UInt8)), (∀ a ∈ l, a.length ≤ 100) → ∀ t ∈ exTs l, t.t.length ≤ 2000
  | [], _, t, h => by simp [exTs] at h
  | a :: l, ha, t, h => by
    simp only [exTs] at h
    split at h
    · exact exTs_few l (fun x hx => ha x (by simp [hx])) t h
    · rename_i hb
      rcases List.mem_cons.1 h with rfl | h
      · refine samp_len _ ?_
        unfold splitW; rw [if_neg hb]; exact ha a (by simp)
      · exact exTs_few l (fun x hx => ha x (by simp [hx])) t h
theorem few_ex : ∀ (fs : List Form), smallFs fs → fewLs (exFs fs) := by
  refine forms_ind fun fs ih => ?_
  intro hsm
  refine fewLs_of fun l hl => ?_
  obtain ⟨j, hj, rfl⟩ := mem_ex fs l hl
  have hmem := List.getElem_mem hj
  have hs := smallFs_mem hsm _ hmem
  rw [smallF_eq] at hs
  have hlen := exTs_length fs[j].args
  rw [fewL_eq]
  refine ⟨?_, ?_, ih _ hmem hs.2.2.2⟩
  · simp only [exL, Line.toks, List.length_cons]; omega
  · intro t ht
    simp only [exL, Line.toks, List.mem_cons] at ht
    rcases ht with rfl | ht
    · simp only; omega
    · exact exTs_few _ hs.2.2.1 t ht
theorem cnt_rep (m : Nat) (l : Line) : cntLs (List.replicate m l) = m * cntL l := by
  induction m with
  | zero => simp [cntLs]
  | succ m ih => rw [List.replicate_succ, cntLs, ih, Nat.add_mul]; omega
theorem cnt_ex : ∀ (fs : List Form), smallFs fs → cntLs (exFs fs) ≤ 14 * szFs fs := by
  refine forms_ind fun fs ih => ?_
  intro hsm
  have key : ∀ gs : List Form, (∀ g ∈ gs, g ∈ fs) → cntLs (exFs gs) ≤ 14 * szFs gs := by
    intro gs
    induction gs with
    | nil => intro _; simp [exFs, cntLs]
    | cons g gs ih2 =>
      intro hgs
      have hg := hgs g (by simp)
      have hs := smallFs_mem hsm g hg
      rw [smallF_eq] at hs
      have h1 := ih g hg hs.2.2.2
      have hlen := exTs_length g.args
      have h2 : cntL (exL g) ≤ 14 * (1 + szFs g.kids) := by
        simp only [exL, cntL, List.length_cons]; omega
      have h3 : g.least.toNat * cntL (exL g) ≤ g.least.toNat * (14 * (1 + szFs g.kids)) := Nat.mul_le_mul_left _ h2
      have h4 := ih2 fun x hx => hgs x (by simp [hx])
      simp only [exFs, exF_eq, cntLs_append, cnt_rep, szFs, szF_eq]
      rw [Nat.mul_left_comm] at h3
      omega
  exact key fs fun _ h => h
end T10
