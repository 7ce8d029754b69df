/- Both checks of forms answer alike. -/
import Derived.Test.YtgpfcgpgbflpgaaK10l
namespace T10
open Go Fw Go.Proofs
set_option maxRecDepth 100000
set_option linter.unusedSimpArgs false
set_option linter.unusedVariables false
def firstC : List (Bool × Int) → Int
  | [] => 0
  | (c, v) :: vs => if c = true then v else firstC vs
def smList (fs : List Form) : List (Bool × Int) := [(smGo 1 [] fs, 4), (smGo 2 [] fs, 3), (smGo 3 [] fs, 6), (smGo 4 [] fs, 5)]
def codesL : List Int := [4, 3, 6, 5]
theorem l17 (fs : List Form) (hsm : smallFs fs) (hcnt : cntFs fs ≤ 40) (b : Bool) (st : St) (Q : Sig → FE → St → Prop) : ∀ (n i : Nat) (e : FE), i + n = 4 → e 0 = slv b fs.length (encFs fs) → e 3 = .slice (codesL.map (AV.int .i64)) 4 .full → e 4 = .int .i64 i →
    (firstC ((smList fs).drop i) = 0 → ∀ e', Q (.exit 0) e' st) → (firstC ((smList fs).drop i) ≠ 0 → ∀ e', e' 2 = .int .i64 (firstC ((smList fs).drop i)) → Q .ret e' st) → WLoop cx ir17L0 e st Q
  | 0, i, e, hi, h0, h3, h4, hT, hF => by
    refine WLoop.rnd (c := _) ir17L0.eq_1 ?_
    have hd : decide ((i : Int) < 4) = false := by simp; omega
    simp (config := {contextual := true, implicitDefEqProofs := false, maxSteps := 4000000}) only [go_sem, ↓reduceIte, Bool.false_eq_true, Nat.reduceEqDiff, Nat.reduceAdd, Int.reduceLE, Int.reduceLT, Int.reduceEq, Int.reduceToNat, Int.toNat_natCast, Int.cast_ofNat_Int, Int.natCast_one, Nat.reduceMod, Nat.reduceDiv, UInt8.reduceToNat, Nat.reduceLT, h3, h4, hd]
    refine hT ?_ _
    rw [List.drop_eq_nil_of_le (by simp [smList]; omega)]; rfl
  | n + 1, i, e, hi, h0, h3, h4, hT, hF => by
    refine WLoop.rnd (c := _) ir17L0.eq_1 ?_
    have hd : decide ((i : Int) < 4) = true := by simp; omega
    have hw := wrap_one (i := i) (by omega)
    have hi4 : i < 4 := by omega
    have hd4 : ((i + 1 : Nat) : Int) = 1 ∨ ((i + 1 : Nat) : Int) = 2 ∨ ((i + 1 : Nat) : Int) = 3 ∨ ((i + 1 : Nat) : Int) = 4 := by omega
    have hc := fun K => c43 _ hd4 fs b st K hsm hcnt
    have hs : sub (codesL.map (AV.int .i64)) i 1 = some [.int .i64 (codesL.getD i 0)] := by
      match i, hi4 with
      | 0, _ => rfl
      | 1, _ => rfl
      | 2, _ => rfl
      | 3, _ => rfl
    have hm : (smList fs).drop i = (smGo ((i + 1 : Nat) : Int) [] fs, codesL.getD i 0) :: (smList fs).drop (i + 1) := by
      match i, hi4 with
      | 0, _ => rfl
      | 1, _ => rfl
      | 2, _ => rfl
      | 3, _ => rfl
    have hnz : codesL.getD i 0 ≠ 0 := by
      match i, hi4 with
      | 0, _ => decide
      | 1, _ => decide
      | 2, _ => decide
      | 3, _ => decide
    rw [hm] at hT hF
    simp only [firstC] at hT hF
    simp (config := {contextual := true, implicitDefEqProofs := false, maxSteps := 4000000}) only [go_sem, ↓reduceIte, Bool.false_eq_true, Nat.reduceEqDiff, Nat.reduceAdd, Int.reduceLE, Int.reduceLT, Int.reduceEq, Int.reduceToNat, Int.toNat_natCast, Int.cast_ofNat_Int, Int.natCast_one, Nat.reduceMod, Nat.reduceDiv, UInt8.reduceToNat, Nat.reduceLT, h0, h3, h4, hd, hw, hc, hs]
    cases hg : smGo ((i + 1 : Nat) : Int) [] fs with
    | true =>
      rw [hg] at hF
      simp only [if_true] at hF
      rw [pif_true]
      exact ⟨⟨by omega, by omega⟩, hF hnz _ rfl⟩
    | false =>
      rw [hg] at hT hF
      simp only [Bool.false_eq_true, if_false] at hT hF
      rw [pif_false]
      exact l17 fs hsm hcnt b st Q n (i + 1) _ (by omega) h0 h3 rfl hT hF
def checkR (fs : List Form) : Int := if 6 < dGo fs 0 then 7 else firstC (smList fs)
theorem c17 (fs : List Form) (hsm : smallFs fs) (hcnt : cntFs fs ≤ 40) (b : Bool) (s : St) (K : AV → St → Prop) : CallW cx 17 [slv b fs.length (encFs fs)] s K = K (.int .i64 (checkR fs)) s := by
  refine CallW.eq (CallW.fn' (fn := ir17) rfl rfl (by kernel_rfl) ir17.eq_1 ?_) K
  have k42 := fun st K => c42 fs b st K hcnt
  by_cases h : 6 < dGo fs 0
  · have hx : decide (6 < dGo fs 0) = true := by simp [h]
    simp (config := {contextual := true, implicitDefEqProofs := false, maxSteps := 4000000}) only [go_sem, ↓reduceIte, Bool.false_eq_true, Nat.reduceEqDiff, Nat.reduceAdd, Int.reduceLE, Int.reduceLT, Int.reduceEq, Int.reduceToNat, Int.toNat_natCast, Int.cast_ofNat_Int, Int.natCast_one, Nat.reduceMod, Nat.reduceDiv, UInt8.reduceToNat, Nat.reduceLT, k42, hx]
    simp [checkR, h]
  · have hx : decide (6 < dGo fs 0) = false := by simp; omega
    have hr : checkR fs = firstC (smList fs) := by simp [checkR, h]
    simp (config := {contextual := true, implicitDefEqProofs := false, maxSteps := 4000000}) only [go_sem, ↓reduceIte, Bool.false_eq_true, Nat.reduceEqDiff, Nat.reduceAdd, Int.reduceLE, Int.reduceLT, Int.reduceEq, Int.reduceToNat, Int.toNat_natCast, Int.cast_ofNat_Int, Int.natCast_one, Nat.reduceMod, Nat.reduceDiv, UInt8.reduceToNat, Nat.reduceLT, k42, hx, fillF]
    refine l17 fs hsm hcnt b _ _ 4 0 _ rfl rfl rfl rfl ?_ ?_
    · intro h e'
      rw [List.drop_zero] at h
      simp (config := {contextual := true, implicitDefEqProofs := false, maxSteps := 4000000}) only [go_sem, ↓reduceIte, Bool.false_eq_true, Nat.reduceEqDiff, Nat.reduceAdd, Int.reduceLE, Int.reduceLT, Int.reduceEq, Int.reduceToNat, Int.toNat_natCast, Int.cast_ofNat_Int, Int.natCast_one, Nat.reduceMod, Nat.reduceDiv, UInt8.reduceToNat, Nat.reduceLT, hr, h]
    · intro h e' h2
      rw [List.drop_zero] at h2
      simp (config := {contextual := true, implicitDefEqProofs := false, maxSteps := 4000000}) only [go_sem, ↓reduceIte, Bool.false_eq_true, Nat.reduceEqDiff, Nat.reduceAdd, Int.reduceLE, Int.reduceLT, Int.reduceEq, Int.reduceToNat, Int.toNat_natCast, Int.cast_ofNat_Int, Int.natCast_one, Nat.reduceMod, Nat.reduceDiv, UInt8.reduceToNat, Nat.reduceLT, hr, h2]

/- the plain law -/
theorem allS_deep : ∀ (fs : List Form) (d : Int), 0 ≤ d → allS deepC fs d = if fs ≠ [] ∧ 6 < d + dGo fs 0 then 7 else 0 := by
  have acc : ∀ (fs : List Form) (n : Int), 0 ≤ n → dGo fs n = max n (dGo fs 0) := by
    refine forms_ind fun fs ih => ?_
    induction fs with
    | nil => intro n hn; simp only [dGo]; omega
    | cons f fs ih2 =>
      intro n hn
      simp only [dGo, dF_eq]
      have ih2 := ih2 fun g hg => ih g (by simp [hg])
      have hb := dGo_bound f.kids 0 (by omega)
      split
      · exact ih2 n hn
      · rw [ih2 _ (by omega), ih2 (max 0 (1 + dGo f.kids 0)) (by omega)]; omega
  refine forms_ind fun fs ih => ?_
  intro d hd
  have go : ∀ l : List Form, (∀ f ∈ l, f ∈ fs) → allGo deepC l d = if 6 < d + dGo l 0 ∧ 0 < dGo l 0 then 7 else 0 := by
    intro l
    induction l with
    | nil => intro _; simp [allGo, dGo]
    | cons f l ih3 =>
      intro hl
      have ih3 := ih3 fun g hg => hl g (by simp [hg])
      have ihf := ih f (hl f (by simp)) (d + 1) (by omega)
      simp only [allGo, allF_eq, dGo, dF_eq]
      have hb := dGo_bound f.kids 0 (by omega)
      have hbl := dGo_bound l 0 (by omega)
      rw [ihf, ih3]
      by_cases hk : f.kids = []
      · simp only [hk, List.isEmpty_nil, if_true, ne_eq, not_true_eq_false, false_and, if_false]
      · have hke : f.kids.isEmpty = false := by simpa using hk
        simp only [hke, Bool.false_eq_true, if_false, ne_eq, hk, not_false_eq_true, true_and]
        rw [acc l (max 0 (1 + dGo f.kids 0)) (by omega)]
        by_cases h1 : 6 < d + 1 + dGo f.kids 0
        · rw [if_pos h1]; simp only [show ((7 : Int) = 0) = False by simp, not_false_eq_true, if_true]
          rw [if_pos (by omega)]
        · rw [if_neg h1]; simp only [not_true_eq_false, if_false]
          by_cases h2 : 6 < d + dGo l 0 ∧ 0 < dGo l 0
          · rw [if_pos h2, if_pos (by omega)]
          · rw [if_neg h2, if_neg (by omega)]
  unfold allS
  rw [go fs fun _ h => h]
  have hb := dGo_bound fs 0 (by omega)
  by_cases hf : fs = []
  · subst hf; simp [deepC, dGo]
  · simp only [deepC, ne_eq, hf, not_false_eq_true, true_and]
    by_cases h6 : 6 < d
    · have : 6 < d + dGo fs 0 := by omega
      simp [h6, this]
    · rw [if_neg h6]
      simp only [not_true_eq_false, if_false]
      by_cases h7 : 6 < d + dGo fs 0
      · rw [if_pos h7, if_pos (by omega)]
      · rw [if_neg h7, if_neg (by omega)]

/-- a check of each form by itself -/
theorem allS_each (ev : Int) (hev : ev ≠ 0) (good : Form → Bool) (dd : Int) (hbad : ∀ ws f, smallF f → badD dd ws f = !good f) : ∀ (fs : List Form) (d : Int), smallFs fs → ∀ ws, allS (eachC ev good) fs d = if smGo dd ws fs = true then ev else 0 := by
  refine forms_ind fun fs ih => ?_
  intro d hsm ws
  have go : ∀ (l : List Form) (ws : List (List UInt8)), (∀ f ∈ l, f ∈ fs) → smGo dd ws l = (!l.all good || decide (allGo (eachC ev good) l d ≠ 0)) ∧ (allGo (eachC ev good) l d = ev ∨ allGo (eachC ev good) l d = 0) := by
    intro l
    induction l with
    | nil => intro ws _; simp [smGo, allGo]
    | cons f l ih3 =>
      intro ws hl
      have hfm := hl f (by simp)
      have hsf := smallFs_mem hsm f hfm
      have hsk := hsf
      rw [smallF_eq] at hsk
      obtain ⟨h1, h2⟩ := ih3 (ws ++ [f.word]) fun g hg => hl g (by simp [hg])
      have ihf := ih f hfm (d + 1) hsk.2.2.2 []
      simp only [smGo, allGo, allF_eq, smF_eq, hbad ws f hsf, h1, ihf, List.all_cons]
      cases smGo dd [] f.kids <;> cases good f <;> cases l.all good <;> simp [hev] <;> (try rcases h2 with h2 | h2 <;> simp [h2, hev])
  obtain ⟨h1, h2⟩ := go fs ws fun _ h => h
  rw [h1]
  unfold allS
  have he : eachC ev good fs d = if fs.all good = true then 0 else ev := rfl
  rw [he]
  by_cases ha : fs.all good = true
  · simp only [ha, if_true]
    rcases h2 with h2 | h2 <;> simp [h2, hev]
  · have ha' : fs.all good = false := by simpa using ha
    simp [ha', hev]

theorem dup_eq : ∀ (fs : List Form) (ws : List (List UInt8)) (d : Int), smGo 4 ws fs = (dupGo ws fs || fs.any fun f => smGo 4 [] f.kids)
  | [], ws, d => by simp [smGo, dupGo]
  | f :: fs, ws, d => by
    simp only [smGo, dupGo, smF_eq, dup_eq fs _ d, List.any_cons, badD]
    simp only [show ((4 : Int) = 1) = False by simp, show ((4 : Int) = 2) = False by simp, show ((4 : Int) = 3) = False by simp, if_false]
    cases decide (f.word ∈ ws) <;> cases smGo 4 [] f.kids <;> cases dupGo (ws ++ [f.word]) fs <;> simp
theorem allS_twice : ∀ (fs : List Form) (d : Int), allS twiceC fs d = if smGo 4 [] fs = true then 5 else 0 := by
  refine forms_ind fun fs ih => ?_
  intro d
  have go : ∀ (l : List Form), (∀ f ∈ l, f ∈ fs) → allGo twiceC l d = if (l.any fun f => smGo 4 [] f.kids) = true then 5 else 0 := by
    intro l
    induction l with
    | nil => intro _; simp [allGo]
    | cons f l ih3 =>
      intro hl
      have ihf := ih f (hl f (by simp)) (d + 1)
      simp only [allGo, allF_eq, ihf, ih3 fun g hg => hl g (by simp [hg]), List.any_cons]
      by_cases hq : smGo 4 [] f.kids = true <;> simp [hq]
  unfold allS
  rw [go fs fun _ h => h, dup_eq fs [] 0]
  simp only [twiceC]
  by_cases hq : dupGo [] fs = true <;> simp [hq]

theorem starW_len {a : List UInt8} (h : a = [42]) : True := trivial
theorem split_star (a : List UInt8) : (splitB a = starB a ∧ splitW a = starW a) ∨ (a = [42] ∧ splitW a = []) := by
  by_cases h2 : 2 ≤ a.length
  · left
    have hb : splitB a = starB a := by
      simp only [splitB, starB, endsStar]
      have hy : decide (2 ≤ a.length) = true := by simp [h2]
      have hz : decide (1 ≤ a.length) = true := by simp; omega
      have hd := drop_at (a := a) (i := a.length - 1) (by omega)
      rw [show a.length - 1 + 1 = a.length by omega, List.drop_length] at hd
      rw [hy, hz, hd, Bool.true_and, Bool.true_and]
      have : decide ([a.getD (a.length - 1) 0] = [42]) = decide (a.getD (a.length - 1) 0 = 42) := by
        congr 1; simp
      rw [this, Bool.and_comm]
    exact ⟨hb, by simp only [splitW, starW, hb]⟩
  · match a, h2 with
    | [], _ => left; exact ⟨rfl, rfl⟩
    | [c], _ =>
      by_cases hc : c = 42
      · right; subst hc; exact ⟨rfl, rfl⟩
      · left
        have h1 : splitB [c] = false := by simp [splitB, endsStar, hc]
        have h3 : starB [c] = false := by simp [starB]
        exact ⟨by rw [h1, h3], by simp [splitW, starW, h1, h3]⟩
    | _ :: _ :: _, h2 => simp at h2
theorem kinds_eq (n : Nat) : ∀ (l : List (List UInt8)) (i : Nat), kindsOk n l i = kindsRok n l i
  | [], _ => rfl
  | a :: l, i => by
    simp only [kindsOk, kindsRok, kinds_eq n l (i + 1)]
    rcases split_star a with ⟨h1, h2⟩ | ⟨rfl, h2⟩
    · rw [h1, h2]
    · rw [h2]
      have h3 : knownB [] = false := by decide
      have h4 : knownB (starW [42]) = false := by decide
      rw [h3, h4]; rfl
theorem check_eq (fs : List Form) (hsm : smallFs fs) : checkS fs = checkR fs := by
  have h1 := allS_deep fs 0 (by omega)
  have h2 := allS_each 4 (by omega) (fun f => nameB f.word) 1 (fun ws f _ => rfl) fs 0 hsm []
  have h3 := allS_each 3 (by omega) kindsF 2 (fun ws f _ => by show (!kindsR f) = _; rw [show kindsR f = kindsF f from (kinds_eq _ _ _).symm]) fs 0 hsm []
  have h4 := allS_each 6 (by omega) limitsF 3 (fun ws f _ => rfl) fs 0 hsm []
  have h5 := allS_twice fs 0
  by_cases h6 : 6 < dGo fs 0
  · have hf : fs ≠ [] := by intro hf; subst hf; simp [dGo] at h6
    have h1' : allS deepC fs 0 = 7 := by rw [h1, if_pos ⟨hf, by omega⟩]
    simp [checkS, checkR, firstNZ, h1', h6]
  · have h1' : allS deepC fs 0 = 0 := by rw [h1, if_neg (by omega)]
    simp only [checkS, checkR, smList, firstC, firstNZ, h1', h2, h3, h4, h5]
    by_cases q1 : smGo 1 [] fs = true <;> by_cases q2 : smGo 2 [] fs = true <;> by_cases q3 : smGo 3 [] fs = true <;> by_cases q4 : smGo 4 [] fs = true <;> simp [h6, q1, q2, q3, q4]
end T10
