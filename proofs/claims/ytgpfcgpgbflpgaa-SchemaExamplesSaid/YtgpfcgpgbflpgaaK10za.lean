/- Parts of the proof, one behind the other. -/
import Derived.Test.YtgpfcgpgbflpgaaK10z
/- Valid forms: the reference's tokens are those of the program. -/
namespace T10
open Go Fw Go.Proofs
set_option maxRecDepth 100000
set_option linter.unusedSimpArgs false
set_option linter.unusedVariables false
mutual
def okF : Form → Prop
  | .mk w an a kn k l m => kindsF (.mk w an a kn [] l m) = true ∧ okFs k
def okFs : List Form → Prop
  | [] => True
  | f :: fs => okF f ∧ okFs fs
end
theorem okF_eq (f : Form) : okF f = (kindsF f = true ∧ okFs f.kids) := by
  cases f with
  | mk w an a kn k l m => simp only [okF, Form.kids, kindsF, Form.args]
theorem okFs_mem : ∀ {fs : List Form}, okFs fs → ∀ f ∈ fs, okF f
  | g :: fs, hs, f, h => by
    simp only [okFs] at hs
    rcases List.mem_cons.1 h with rfl | h
    · exact hs.1
    · exact okFs_mem hs.2 f h
theorem okFs_of {fs : List Form} (h : ∀ f ∈ fs, okF f) : okFs fs := by
  induction fs with
  | nil => simp only [okFs]
  | cons f fs ih => simp only [okFs]; exact ⟨h f (by simp), ih fun g hg => h g (by simp [hg])⟩
theorem allGo_zero (chk : List Form → Int → Int) : ∀ (fs : List Form) (d : Int), allGo chk fs d = 0 → ∀ f ∈ fs, allS chk f.kids (d + 1) = 0
  | f :: fs, d, h, g, hg => by
    simp only [allGo, allF_eq] at h
    by_cases h2 : allS chk f.kids (d + 1) = 0
    · rw [if_neg (by simp [h2])] at h
      rcases List.mem_cons.1 hg with rfl | hg
      · exact h2
      · exact allGo_zero chk fs d h g hg
    · rw [if_pos h2] at h; exact absurd h h2
theorem allS_zero (chk : List Form → Int → Int) (fs : List Form) (d : Int) (h : allS chk fs d = 0) : chk fs d = 0 ∧ ∀ f ∈ fs, allS chk f.kids (d + 1) = 0 := by
  simp only [allS] at h
  by_cases h2 : chk fs d = 0
  · rw [if_neg (by simp [h2])] at h; exact ⟨h2, allGo_zero chk fs d h⟩
  · rw [if_pos h2] at h; exact absurd h h2
theorem ok_of_kinds : ∀ (fs : List Form) (d : Int), allS (eachC 3 kindsF) fs d = 0 → okFs fs := by
  refine forms_ind fun fs ih => ?_
  intro d h
  obtain ⟨h1, h2⟩ := allS_zero _ _ _ h
  refine okFs_of fun f hf => ?_
  rw [okF_eq]
  refine ⟨?_, ih f hf (d + 1) (h2 f hf)⟩
  simp only [eachC] at h1
  split at h1
  · rename_i ha; exact List.all_eq_true.1 ha f hf
  · omega
theorem ok_of_check {fs : List Form} (h : checkS fs = 0) : okFs fs := by
  simp only [checkS, firstNZ] at h
  refine ok_of_kinds fs 0 ?_
  split at h
  · contradiction
  split at h
  · contradiction
  split at h
  · contradiction
  · rename_i h3; simpa using h3
theorem kinds_get (n : Nat) : ∀ (l : List (List UInt8)) (i : Nat), kindsOk n l i = true → ∀ (j : Nat) (h : j < l.length), knownB (splitW l[j]) = true ∧ (splitB l[j] = true → ¬ i + j + 1 < n)
  | a :: l, i, hk, 0, h => by
    simp only [kindsOk, Bool.and_eq_true, Bool.not_eq_true', Bool.and_eq_false_iff, decide_eq_false_iff_not] at hk
    refine ⟨hk.1.1, fun hs => ?_⟩
    rcases hk.1.2 with h1 | h1
    · simp only [List.getElem_cons_zero] at hs; rw [h1] at hs; contradiction
    · exact h1
  | a :: l, i, hk, j + 1, h => by
    simp only [kindsOk, Bool.and_eq_true] at hk
    have := kinds_get n l (i + 1) hk.2 j (by simpa using h)
    simp only [List.getElem_cons_succ]
    exact ⟨this.1, fun hs => by have := this.2 hs; omega⟩
theorem known_nil : knownB [] = false := by decide
theorem star_of_known {a : List UInt8} (h : knownB (splitW a) = true) : splitB a = starB a ∧ splitW a = starW a := by
  rcases split_star a with h1 | ⟨h1, h2⟩
  · exact h1
  · rw [h2, known_nil] at h; contradiction
theorem fits_nil (t : Tok) : fitsT [] t = false := by simp [fitsT, fitsB]
theorem rest_eq (args : List (List UInt8)) (w : List UInt8) : ∀ (ts : List Tok) (i : Nat), (∀ j, i ≤ j → kindR args j = w) → restR args ts i = restBad w ts (i + 1)
  | [], i, h => rfl
  | t :: ts, i, h => by
    simp only [restR, restBad, h i (Nat.le_refl _), rest_eq args w ts (i + 1) fun j hj => h j (by omega)]
theorem posOf_last (l : Line) (k : Nat) (h : l.toks.length - 1 ≤ k) : posOf l k = posOf l (l.toks.length - 1) := by
  simp only [posOf, Nat.min_eq_right h, Nat.min_self]
theorem tok_go (l : Line) (args : List (List UInt8)) (hk : kindsOk args.length args 0 = true) : ∀ (n i : Nat), i + n = args.length → i + 1 ≤ l.toks.length → (n = 0 → args.length = 0 ∨ starB (lastA args) = false) →
    tokF l (tokGo l (args.drop i) (i + 1)) = tokF l (match restR args (l.toks.drop (i + 1)) i with | some k => some k | none => if l.toks.length - 1 < leastR args then some (l.toks.length - 1) else none)
  | 0, i, hi, hl, hs => by
    rw [List.drop_eq_nil_of_le (by omega)]
    simp only [tokGo]
    have hkr : kindR args i = [] := by
      rcases hs rfl with h | h
      · simp only [kindR, h, if_true]
      · simp only [kindR, h]
        by_cases h0 : args.length = 0
        · rw [if_pos h0]
        · rw [if_neg h0, if_neg (by omega)]; simp
    have hlr : leastR args = args.length := by
      rcases hs rfl with h | h
      · simp only [leastR, h, if_true]
      · simp only [leastR, h]
        by_cases h0 : args.length = 0
        · rw [if_pos h0, h0]
        · rw [if_neg h0]; simp
    by_cases hc : i + 1 < l.toks.length
    · rw [if_pos hc, List.drop_eq_getElem_cons hc]
      simp only [restR, hkr, fits_nil]
      rfl
    · rw [if_neg hc, List.drop_eq_nil_of_le (by omega)]
      simp only [restR]
      rw [if_neg (by omega)]
  | n + 1, i, hi, hl, hs => by
    have hlt : i < args.length := by omega
    obtain ⟨h1, h2⟩ := kinds_get args.length args 0 hk i hlt
    obtain ⟨h3, h4⟩ := star_of_known h1
    rw [List.drop_eq_getElem_cons hlt]
    simp only [tokGo]
    have hn0 : ¬ args.length = 0 := by omega
    have hlastA : ∀ (h : i + 1 = args.length), lastA args = args[i] := fun h => by
      simp only [lastA]; rw [List.getD_eq_getElem?_getD, ← h, Nat.add_sub_cancel, List.getElem?_eq_getElem hlt, Option.getD_some]
    cases hb : splitB args[i] with
    | true =>
      have hlast : i + 1 = args.length := by have := h2 hb; omega
      have hst : starB (lastA args) = true := by rw [hlastA hlast, ← h3]; exact hb
      have hkr : ∀ j, i ≤ j → kindR args j = splitW args[i] := fun j hj => by
        simp only [kindR]
        rw [if_neg hn0, if_neg (by rw [hst]; simp; omega), if_pos hst, hlastA hlast, h4]
      have hlr : leastR args = args.length - 1 := by simp only [leastR]; rw [if_neg hn0, if_pos hst]
      rw [if_pos rfl, rest_eq args (splitW args[i]) _ i hkr, hlr]
      cases restBad (splitW args[i]) (l.toks.drop (i + 1)) (i + 1) with
      | some k => rfl
      | none => simp only; rw [if_neg (by omega)]
    | false =>
      have hw : splitW args[i] = args[i] := by simp [splitW, hb]
      have hkr : kindR args i = args[i] := by
        simp only [kindR]
        rw [if_neg hn0, if_pos ?_]
        · rw [List.getD_eq_getElem?_getD, List.getElem?_eq_getElem hlt, Option.getD_some]
        · by_cases hlast : i + 1 = args.length
          · exact .inr ⟨hlast, by rw [hlastA hlast, ← h3]; exact hb⟩
          · exact .inl (by omega)
      rw [if_neg (by simp)]
      by_cases hc : i + 1 < l.toks.length
      · rw [List.getElem?_eq_getElem hc, List.drop_eq_getElem_cons hc]
        simp only [restR, hkr, hw]
        by_cases hf : fitsT args[i] l.toks[i + 1] = true
        · rw [if_pos hf, if_pos hf]
          refine tok_go l args hk n (i + 1) (by omega) (by omega) fun h0 => .inr ?_
          rw [hlastA (by omega), ← h3]; exact hb
        · rw [if_neg hf, if_neg hf]
      · rw [List.getElem?_eq_none (by omega), List.drop_eq_nil_of_le (show l.toks.length ≤ i + 1 by omega)]
        simp only [restR]
        have hlr : i < leastR args := by
          simp only [leastR]; rw [if_neg hn0]
          by_cases hst : starB (lastA args) = true
          · rw [if_pos hst]
            by_cases hlast : i + 1 = args.length
            · rw [hlastA hlast, ← h3, hb] at hst; contradiction
            · omega
          · rw [if_neg hst]; exact hlt
        rw [if_pos (show l.toks.length - 1 < leastR args by omega)]
        simp only [tokF]
        rw [posOf_last l (i + 1) (by omega)]
theorem tok_eq (l : Line) (hne : l.toks ≠ []) (f : Form) (hk : kindsF f = true) : tokF l (tokR l f.args) = tokF l (tokGo l f.args 1) := by
  have hp := List.length_pos_iff.2 hne
  by_cases h0 : f.args.length = 0
  · exact (tok_go l f.args hk 0 0 (by omega) (by omega) fun _ => .inl h0).symm
  · exact (tok_go l f.args hk f.args.length 0 (by omega) (by omega) fun h => absurd h h0).symm
/-- A lack is told without a fault. -/
theorem low_lack (fs : List Form) : ∀ (ls : List Line) (cs : List Int), (lowM ls fs cs).2 = true → (lowM ls fs cs).1 = (0, 0, 0)
  | [], cs, h => by simp only [lowM]
  | l :: ls, cs, h => by
    rw [lowM_cons] at h ⊢
    split
    · rename_i h1; rw [if_pos h1] at h; contradiction
    · rename_i h1
      rw [if_neg h1] at h
      split
      · rename_i h2; rw [if_pos h2] at h; contradiction
      · rename_i h2; rw [if_neg h2] at h; exact low_lack fs ls _ h
def resR (x : Flt × Bool) (lack : Flt) : Flt := if x.2 = true then lack else x.1
theorem line_R (l : Line) (hne : l.toks ≠ []) (f : Form) (hk : kindsF f = true) (c : Int) : lineM l f c = if f.most ≤ c then (7, l.pos, posOf l 0)
    else if (tokF l (tokR l f.args)).1 ≠ 0 then tokF l (tokR l f.args)
    else if l.head ≠ decide (0 < f.kids.length) then (2, l.pos, posOf l 0)
    else resR (lowM l.kids f.kids (List.replicate f.kids.length 0)) (9, l.pos, posOf l 0) := by
  rw [lineM_eq, tok_eq l hne f hk]
  have h := low_lack f.kids l.kids (List.replicate f.kids.length 0)
  generalize lowM l.kids f.kids (List.replicate f.kids.length 0) = x at *
  cases hx : x.2 with
  | true => simp only [resR, hx, h hx, true_and, if_true]
  | false => simp only [resR, hx, Bool.false_eq_true, and_false, if_false]
end T10
