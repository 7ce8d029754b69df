/- Parts of the proof, one behind the other. -/
import Derived.Test.YtaoeokelalmcmaaGreatDoorKC
import Derived.Lib.IndexMore
import Derived.Test.YtaoeokelalmcmaaGreatDoorKB
import Derived.Test.YtaoeokelalmcmaaGreatDoorFwG
import Derived.Test.YtaoeokelalmcmaaGreatDoorKA
import Derived.Test.YtaoeokelalmcmaaGreatDoorRows
import Derived.Test.YtaoeokelalmcmaaGreatDoorFwL
set_option linter.unusedSimpArgs false
set_option linter.unusedVariables false
set_option linter.unusedSectionVars false

namespace T06
variable [Mm]
open Go Fw Go.Proofs
set_option maxRecDepth 100000
theorem split_app (c : UInt8) : ∀ x y : List UInt8, splitB c (x ++ c :: y) = splitB c x ++ splitB c y
  | [], y => by simp [splitB]
  | b :: x, y => by
    simp only [List.cons_append, splitB]
    by_cases h : b = c
    · rw [if_pos h, if_pos h, split_app c x y]; rfl
    · rw [if_neg h, if_neg h, split_app c x y]
      obtain ⟨z, zs, hz⟩ : ∃ z zs, splitB c x = z :: zs := by
        cases e : splitB c x with
        | nil => exact absurd e (splitB_ne c x)
        | cons z zs => exact ⟨z, zs, rfl⟩
      rw [hz]; rfl
theorem split_one (c : UInt8) : ∀ x : List UInt8, c ∉ x → splitB c x = [x]
  | [], _ => rfl
  | b :: x, h => by
    simp only [List.mem_cons, not_or] at h
    simp only [splitB]
    rw [if_neg (Ne.symm h.1), split_one c x h.2]
theorem cut_found {s : List UInt8} (h : (cutS TO s).2.2 = true) : s = (cutS TO s).1 ++ (TO ++ (cutS TO s).2.1) := by
  unfold cutS at h ⊢
  rcases Lib.index_spec s TO with ⟨h1, _⟩ | ⟨i, h1, h2, h3, _⟩
  · rw [h1] at h; cases h
  · rw [h1]
    show s = s.take i ++ (TO ++ s.drop (i + TO.length))
    unfold Lib.occAt at h3
    obtain ⟨r, hr⟩ := List.isPrefixOf_iff_prefix.1 h3
    have e : s.drop (i + TO.length) = r := by rw [← List.drop_drop, ← hr]; simp
    rw [e, hr, List.take_append_drop]
theorem cut_of {a b : List UInt8} (ha : (32 : UInt8) ∉ a) : cutS TO (a ++ (TO ++ b)) = (a, b, true) := by
  have h : Lib.index (a ++ (TO ++ b)) TO = (a.length : Nat) := by
    refine Lib.index_first (by simp) ?_ ?_
    · unfold Lib.occAt
      rw [List.drop_left]
      exact List.isPrefixOf_iff_prefix.2 (List.prefix_append _ _)
    · intro j hj
      unfold Lib.occAt
      apply Bool.eq_false_iff.2
      intro hp
      obtain ⟨r, hr⟩ := List.isPrefixOf_iff_prefix.1 hp
      have e : (a ++ (TO ++ b)).drop j = a.drop j ++ (TO ++ b) := by rw [List.drop_append_of_le_length (by omega)]
      rw [e, List.drop_eq_getElem_cons hj] at hr
      have : (32 : UInt8) = a[j] := (List.cons.inj hr).1
      exact ha (this ▸ List.getElem_mem hj)
  unfold cutS
  rw [h]
  show ((a ++ (TO ++ b)).take a.length, (a ++ (TO ++ b)).drop (a.length + TO.length), true) = _
  rw [List.take_left, ← List.drop_drop, List.drop_left, List.drop_left]
theorem split_to (a b : List UInt8) : splitB 32 (a ++ (TO ++ b)) = splitB 32 a ++ TWO :: splitB 32 b := by
  have e : a ++ (TO ++ b) = a ++ 32 :: (TWO ++ 32 :: b) := rfl
  rw [e, split_app, split_app, split_one 32 TWO (by decide)]
  rfl
end T06


namespace T06
variable [Mm]
open Go Fw Go.Proofs
set_option maxRecDepth 100000
theorem dg45 : dg 45 = false := by decide
theorem dg32 : dg 32 = false := by decide
theorem all_no {c : UInt8} (hc : dg c = false) {l : List UInt8} (h : allD l = true) : c ∉ l := by
  intro hm
  unfold allD at h
  rw [List.all_eq_true] at h
  rw [h c hm] at hc; cases hc
def finP (x : Pat × Int) : Pat × Int := if x.2 = 0 then finR x.1 else (noP, x.2)
theorem ansP_eq (s : List UInt8) : ansP s = finP (parseP s) := rfl
end T06


namespace T06
variable [Mm]
open Go Fw Go.Proofs
set_option maxRecDepth 100000
end T06


namespace T06
variable [Mm]
open Go Fw Go.Proofs
set_option maxRecDepth 100000
theorem p4_all : ∀ n : Fin 200, numD (pad4 (2000 + n.val)) = 2000 + n.val ∧ allD (pad4 (2000 + n.val)) = true := by decide +kernel
theorem p2_all : ∀ n : Fin 100, numD (pad2 n.val) = n.val ∧ allD (pad2 n.val) = true := by decide +kernel
theorem year_back : ∀ n : Fin 200, yearP (yearT ((2000 + n.val : Nat) : Int)) = (((2000 + n.val : Nat) : Int), 0) := by decide +kernel
theorem mon_back : ∀ n : Fin 15, monP (monT (n.val : Int)) = ((n.val : Int), 0) := by decide +kernel
theorem day_back : ∀ n : Fin 35, dayP (dayT (n.val : Int)) = ((n.val : Int), 0) := by decide +kernel
theorem wd_back : ∀ n : Fin 8, n.val ≠ 0 → wdOf (wordOf (n.val : Int)) = (n.val : Int) := by decide +kernel
theorem mon_clean : ∀ n : Fin 15, (45 : UInt8) ∉ monT (n.val : Int) ∧ (32 : UInt8) ∉ monT (n.val : Int) := by decide +kernel
theorem day_clean : ∀ n : Fin 35, (45 : UInt8) ∉ dayT (n.val : Int) ∧ (32 : UInt8) ∉ dayT (n.val : Int) := by decide +kernel
theorem year_clean : ∀ n : Fin 200, (45 : UInt8) ∉ yearT ((2000 + n.val : Nat) : Int) ∧ (32 : UInt8) ∉ yearT ((2000 + n.val : Nat) : Int) := by decide +kernel
theorem word_clean : ∀ n : Fin 8, (32 : UInt8) ∉ wordOf (n.val : Int) ∧ wordOf (n.val : Int) ≠ TWO := by decide +kernel
def weW (k : Int) : List UInt8 := if k = 6 then LAST else [UInt8.ofNat (48 + k.toNat)]
theorem we_back : ∀ n : Fin 7, n.val ≠ 0 → weekV (weW (n.val : Int)) = (n.val : Int) ∧ weekBad (weW (n.val : Int)) = false ∧ (32 : UInt8) ∉ weW (n.val : Int) ∧ weW (n.val : Int) ≠ TWO ∧ weT (n.val : Int) = 32 :: (WEEK ++ 32 :: weW (n.val : Int)) := by decide +kernel
theorem end_back (t : Dt) (h : t = noD ∨ chkD t = 0) : endP (endT t) = (t, 0) ∧ (32 : UInt8) ∉ endT t ∧ (t ≠ noD → endT t ≠ [42]) := by
  by_cases ht : t = noD
  · subst ht; exact ⟨by decide, by decide, fun h => absurd rfl h⟩
  · obtain ⟨hv, hy⟩ := chkD_ok (h.resolve_left ht)
    have v1 := hv.y; have v2 := hv.m1; have v3 := hv.m2; have v4 := hv.d1; have v5 := hv.d2; have v6 := (din_pos (y := t.y) v2 v3).2
    obtain ⟨y, m, d⟩ := t
    simp only at v1 v2 v3 v4 v5 v6 hy
    have e : endT ⟨y, m, d⟩ = pad4 y.toNat ++ 45 :: (pad2 m.toNat ++ 45 :: pad2 d.toNat) := by
      unfold endT
      rw [if_neg ht]
      simp
    have a1 := p4_all ⟨y.toNat - 2000, by omega⟩
    have a2 := p2_all ⟨m.toNat, by omega⟩
    have a3 := p2_all ⟨d.toNat, by omega⟩
    simp only at a1 a2 a3
    rw [show 2000 + (y.toNat - 2000) = y.toNat by omega] at a1
    have c1 := all_no dg45 a1.2; have c2 := all_no dg45 a2.2; have c3 := all_no dg45 a3.2
    have b1 := all_no dg32 a1.2; have b2 := all_no dg32 a2.2; have b3 := all_no dg32 a3.2
    have hs : splitB 45 (endT ⟨y, m, d⟩) = [pad4 y.toNat, pad2 m.toNat, pad2 d.toNat] := by
      rw [e, split_app, split_app, split_one 45 _ c1, split_one 45 _ c2, split_one 45 _ c3]; rfl
    have hl : (endT ⟨y, m, d⟩).length = 10 := by rw [e]; simp [pad4_len, pad2_len]
    have hne : endT ⟨y, m, d⟩ ≠ [42] := by intro e; rw [e] at hl; simp at hl
    refine ⟨?_, ?_, fun _ => hne⟩
    · unfold endP
      rw [if_neg hne, hs]
      simp only
      rw [if_pos ⟨pad4_len _, pad2_len _, pad2_len _, by rw [all3, a1.2, a2.2, a3.2]; rfl⟩, a1.1, a2.1, a3.1, if_neg (by omega)]
      rw [show ((y.toNat : Nat) : Int) = y by omega, show ((m.toNat : Nat) : Int) = m by omega, show ((d.toNat : Nat) : Int) = d by omega]
    · rw [e]
      simp only [List.mem_append, List.mem_cons, not_or]
      exact ⟨b1, by decide, b2, by decide, b3⟩
theorem cut_no {s : List UInt8} {t : List UInt8} {f : List (List UInt8)} (hs : splitB 32 s = t :: f) (hf : TWO ∉ f) : (cutS TO s).2.2 = false := by
  cases hc : (cutS TO s).2.2
  · rfl
  · exfalso
    have e := cut_found hc
    obtain ⟨a, b, h1, h2⟩ : ∃ a b, (cutS TO s).1 = a ∧ (cutS TO s).2.1 = b := ⟨_, _, rfl, rfl⟩
    rw [h1, h2] at e
    rw [e, split_to] at hs
    obtain ⟨z, zs, hz⟩ : ∃ z zs, splitB 32 a = z :: zs := by
      cases e : splitB 32 a with
      | nil => exact absurd e (splitB_ne 32 a)
      | cons z zs => exact ⟨z, zs, rfl⟩
    rw [hz] at hs
    have := (List.cons.inj hs).2
    apply hf
    rw [← this]; simp
theorem text_back (p : Pat) (hp : chkP p = 0) : ansP (textB p) = (p, 0) := by
  rw [ansP_eq]
  have hfin : parseP (textB p) = (p, 0) → finP (parseP (textB p)) = (p, 0) := by
    intro h; rw [h]; exact (if_pos rfl).trans (if_pos hp)
  apply hfin
  unfold textB parseP
  cases hr : isR p
  · simp only [Bool.false_eq_true, if_false]
    have hbf := chk_fields hp hr
    obtain ⟨f1, f2, f3, f4, f5, f6, f7, f8⟩ := badF_f hbf
    have hy : p.y = 0 ∨ 2000 ≤ p.y ∧ p.y ≤ 2199 := by
      apply Classical.byContradiction; intro hc
      have : badF p = true := by unfold badF; simp; omega
      rw [hbf] at this; cases this
    have hft : p.f = noD ∧ p.t = noD := by
      unfold isR at hr
      simpa using hr
    obtain ⟨y, m, d, w, k, ff, tt⟩ := p
    simp only at f1 f2 f3 f4 f5 f6 f7 f8 hy hft
    obtain ⟨rfl, rfl⟩ := hft
    obtain ⟨m, rfl⟩ : ∃ n : Nat, m = (n : Int) := ⟨m.toNat, by omega⟩
    obtain ⟨d, rfl⟩ : ∃ n : Nat, d = (n : Int) := ⟨d.toNat, by omega⟩
    obtain ⟨w, rfl⟩ : ∃ n : Nat, w = (n : Int) := ⟨w.toNat, by omega⟩
    obtain ⟨k, rfl⟩ : ∃ n : Nat, k = (n : Int) := ⟨k.toNat, by omega⟩
    have my : yearP (yearT y) = (y, 0) ∧ (45 : UInt8) ∉ yearT y ∧ (32 : UInt8) ∉ yearT y := by
      rcases hy with rfl | ⟨a, b⟩
      · decide
      · have e1 := year_back ⟨y.toNat - 2000, by omega⟩
        have e2 := year_clean ⟨y.toNat - 2000, by omega⟩
        simp only at e1 e2
        rw [show ((2000 + (y.toNat - 2000) : Nat) : Int) = y by omega] at e1 e2
        exact ⟨e1, e2⟩
    have mm := mon_back ⟨m, by omega⟩
    have md := day_back ⟨d, by omega⟩
    have cm := mon_clean ⟨m, by omega⟩
    have cd := day_clean ⟨d, by omega⟩
    have cw := word_clean ⟨w, by omega⟩
    have bw := wd_back ⟨w, by omega⟩
    have bk := we_back ⟨k, by omega⟩
    simp only at mm md cm cd cw bw bk
    have h45 : splitB 45 (ymdT ⟨y, m, d, w, k, noD, noD⟩) = [yearT y, monT m, dayT d] := by
      have e : ymdT ⟨y, m, d, w, k, noD, noD⟩ = yearT y ++ 45 :: (monT m ++ 45 :: dayT d) := by unfold ymdT; simp
      rw [e, split_app, split_app, split_one 45 _ my.2.1, split_one 45 _ cm.1, split_one 45 _ cd.1]; rfl
    have h32 : (32 : UInt8) ∉ ymdT ⟨y, m, d, w, k, noD, noD⟩ := by
      unfold ymdT
      simp only [List.mem_append, List.mem_cons, List.not_mem_nil, not_or, or_false]
      exact ⟨⟨⟨⟨my.2.2, by decide⟩, cm.2⟩, by decide⟩, cd.2⟩
    generalize hZ : ymdT ⟨y, m, d, w, k, noD, noD⟩ = z at *
    -- the words behind the date
    have hws : ∀ f, splitB 32 (z ++ wkT w ++ weT k) = z :: f → TWO ∉ f → tailP (wkS f).1 (wkS f).2 (yearT y) (monT m) (dayT d) = (⟨y, m, d, w, k, noD, noD⟩, 0) → (if (cutS TO (z ++ wkT w ++ weT k)).2.2 = true then rangeP (cutS TO (z ++ wkT w ++ weT k)).1 (cutS TO (z ++ wkT w ++ weT k)).2.1 else wordsP (splitB 32 (z ++ wkT w ++ weT k))) = (⟨y, m, d, w, k, noD, noD⟩, 0) := by
      intro f h1 h2 h3
      rw [cut_no h1 h2, if_neg (by simp), h1]
      unfold wordsP
      simp only [h45]
      exact h3
    have hgood : ∀ kk : Int, goodP w kk (yearT y) (monT m) (dayT d) = (⟨y, m, d, w, kk, noD, noD⟩, 0) := by
      intro kk
      unfold goodP
      rw [my.1, mm, md]
      rfl
    have hWEEK : wdOf WEEK = 0 := by decide
    have hW32 : (32 : UInt8) ∉ WEEK := by decide
    have hWT : WEEK ≠ TWO := by decide
    by_cases hw : w = 0
    · subst hw
      by_cases hk : k = 0
      · subst hk
        refine hws [] ?_ (by simp) (hgood 0)
        have e : z ++ wkT ((0 : Nat) : Int) ++ weT ((0 : Nat) : Int) = z := by
          rw [show wkT ((0 : Nat) : Int) = [] by decide, show weT ((0 : Nat) : Int) = [] by decide]; simp
        rw [e, split_one 32 z h32]
      · obtain ⟨k1, k2, k3, k4, k5⟩ := bk hk
        refine hws [WEEK, weW k] ?_ ?_ ?_
        · rw [show wkT ((0 : Nat) : Int) = [] by decide, k5, List.append_nil, split_app, split_app, split_one 32 z h32, split_one 32 _ hW32, split_one 32 _ k3]; rfl
        · simp only [List.mem_cons, List.not_mem_nil, or_false, not_or]
          exact ⟨Ne.symm hWT, Ne.symm k4⟩
        · have e : wkS [WEEK, weW k] = (0, [WEEK, weW k]) := by unfold wkS; simp only [hWEEK]; rfl
          rw [e, tail_two, if_pos rfl, if_neg (by rw [k2]; simp), k1]
          exact hgood k
    · have hwk : wkT (w : Int) = 32 :: wordOf w := by unfold wkT; rw [if_neg (by omega)]
      have hwd : wdOf (wordOf (w : Int)) ≠ 0 := by rw [bw hw]; omega
      by_cases hk : k = 0
      · subst hk
        refine hws [wordOf w] ?_ ?_ ?_
        · rw [show weT ((0 : Nat) : Int) = [] by decide, List.append_nil, hwk, split_app, split_one 32 z h32, split_one 32 _ cw.1]; rfl
        · simp only [List.mem_cons, List.not_mem_nil, or_false]
          exact Ne.symm cw.2
        · have e : wkS [wordOf (w : Int)] = ((w : Int), []) := by unfold wkS; simp only; rw [if_pos hwd, bw hw]
          rw [e]
          exact hgood 0
      · obtain ⟨k1, k2, k3, k4, k5⟩ := bk hk
        refine hws [wordOf w, WEEK, weW k] ?_ ?_ ?_
        · rw [hwk, k5, List.append_assoc, List.cons_append, split_app, split_app, split_app, split_one 32 z h32, split_one 32 _ cw.1, split_one 32 _ hW32, split_one 32 _ k3]; rfl
        · simp only [List.mem_cons, List.not_mem_nil, or_false, not_or]
          exact ⟨Ne.symm cw.2, Ne.symm hWT, Ne.symm k4⟩
        · have e : wkS [wordOf (w : Int), WEEK, weW k] = ((w : Int), [WEEK, weW k]) := by unfold wkS; simp only; rw [if_pos hwd, bw hw]
          rw [e, tail_two, if_pos rfl, if_neg (by rw [k2]; simp), k1]
          exact hgood k
  · simp only [if_true]
    obtain ⟨g1, g2⟩ := chk_ends hp hr
    obtain ⟨e1, e2, e3⟩ := end_back p.f (by by_cases h : p.f = noD <;> simp [h]; exact g1 h)
    obtain ⟨e4, e5, e6⟩ := end_back p.t (by by_cases h : p.t = noD <;> simp [h]; exact g2 h)
    have hc := cut_of (b := endT p.t) e2
    have e : endT p.f ++ [32, 116, 111, 32] ++ endT p.t = endT p.f ++ (TO ++ endT p.t) := by rw [List.append_assoc]; rfl
    rw [e, hc]
    simp only [if_true]
    have hany : anyF p = false := by
      cases h : anyF p
      · rfl
      · unfold chkP at hp
        rw [if_neg (by simp [hr]), if_pos h] at hp
        cases hp
    unfold anyF at hany
    simp only [Bool.or_eq_false_iff, decide_eq_false_iff_not, ne_eq, Decidable.not_not] at hany
    unfold rangeP
    rw [if_neg, if_neg (by rw [e1, e4]; simp), e1, e4]
    · obtain ⟨y, m, d, w, k, ff, tt⟩ := p
      simp only at hany
      obtain ⟨⟨⟨⟨rfl, rfl⟩, rfl⟩, rfl⟩, rfl⟩ := hany
      rfl
    · rw [e1, e4]
      rintro (h | h | ⟨h, h'⟩)
      · revert h; simp
      · revert h; simp
      · unfold isR at hr
        simp only [Bool.or_eq_true, decide_eq_true_eq] at hr
        rcases hr with hr | hr
        · exact e3 hr h
        · exact e6 hr h'
end T06


namespace T06
variable [Mm]
open Go Fw Go.Proofs
set_option maxRecDepth 100000
set_option maxHeartbeats 8000000
theorem up_more (g : Nat → Bool) (k : Nat) : ∀ (n d i : Nat), up g n d = some i → up g (n + k) d = some i
  | 0, d, i, h => by cases h
  | n + 1, d, i, h => by
    rw [Nat.add_right_comm]
    simp only [up] at h ⊢
    split
    · rename_i hg; rw [if_pos hg] at h; exact h
    · rename_i hg; rw [if_neg hg] at h; exact up_more g k n (d + 1) i h
def pX : Pat := ⟨0, 12, 25, 0, 0, noD, noD⟩
def pF : Pat := ⟨0, 2, 30, 0, 0, noD, noD⟩
def pL : Pat := ⟨0, 2, 32, 0, 0, noD, noD⟩
def pW : Pat := ⟨0, 0, 0, 1, 1, noD, noD⟩
theorem x_first : up (gT pX) 360 0 = some 359 := by decide +kernel
theorem x_next : srchB pX 0 (up (gT pX) (73049 - (0 : Int).toNat) (0 : Int).toNat) = (359, 0) := by
  have h := up_more (gT pX) 72689 360 0 359 x_first
  have e : (73049 - (0 : Int).toNat) = 360 + 72689 := rfl
  rw [e, show (0 : Int).toNat = 0 from rfl, h]
  decide
theorem f_no (i : Nat) (hi : i < 73049) : gT pF i = false := by
  obtain ⟨hv, hd⟩ := ofB_ok (day := (i : Int)) (by omega) (by omega)
  unfold gT testB
  rw [if_neg (by decide)]
  unfold testD
  generalize ofB (i : Int) = t at *
  rw [if_neg (by simp [pF])]
  by_cases hm : t.m = 2
  · rw [if_neg (by simp [fitM, pF, hm]), if_pos]
    have h5 := hv.d2
    have : dinB t.y t.m ≤ 29 := by
      unfold dinB lenM
      rw [hm, if_neg (by omega)]
      split
      · omega
      · rw [if_pos rfl]; omega
    have h30 : (30 : Int) ≠ t.d := by omega
    unfold fitD
    simp [pF, h30]
  · rw [if_pos]
    have h2 : (2 : Int) ≠ t.m := fun e => hm e.symm
    simp [fitM, pF, h2]
theorem f_next : srchB pF 0 (up (gT pF) (73049 - (0 : Int).toNat) (0 : Int).toNat) = (0, 9) := by
  have h : up (gT pF) 73049 0 = none := (up_none (gT pF) 73049 0).2 fun i _ h => f_no i (by omega)
  have e : (73049 - (0 : Int).toNat) = 73049 := rfl
  rw [e, show (0 : Int).toNat = 0 from rfl, h]
  decide
theorem x_text : textB pX = [42, 45, 49, 50, 45, 50, 53] := by decide
theorem w_text : textB pW = [42, 45, 42, 45, 42, 32, 109, 111, 110, 32, 119, 101, 101, 107, 32, 49] := by decide
theorem l_mat : matB pL 59 = true := by decide +kernel
theorem c11 (s : St) (K : AV → St → Prop) : CallW cx 11 [] s K = K (.bool true) s := by
  refine CallW.eq (CallW.fn' (fn := ir11) rfl rfl (by kernel_rfl) ir11.eq_1 ?_) K
  have h1 := text_back pX (by decide)
  rw [x_text] at h1
  have k1 := fun st K => c17 [42, 45, 49, 50, 45, 50, 53] (by decide) pX 0 h1 st K
  have k2 := fun st K => c20 pX 0 st K
  rw [x_next] at k2
  have k3 := fun st K => c16 pW st K
  rw [if_pos (show chkP pW = 0 by decide), w_text] at k3
  have k4 := fun st K => c20 pF 0 st K
  rw [f_next] at k4
  have k5 := fun st K => c14 pL 59 st K
  rw [l_mat] at k5
  simp only [pX, pF, pL, pW, noD] at k1 k2 k3 k4 k5
  have hmin : min s.next (s.next + 1) = s.next := by omega
  simp +contextual -implicitDefEqProofs (maxSteps := 4000000) only [go_sem, ↓reduceIte, Nat.reduceEqDiff, Nat.reduceAdd, Int.reduceLE, Int.reduceLT, Int.reduceEq, Int.reduceToNat, Nat.reduceMod, Nat.reduceDiv, UInt8.reduceToNat, Nat.reduceLT, k1, k2, k3, k4, k5, hmin]
end T06


namespace T06
variable [Mm]
open Go Fw Go.Proofs Go.RowKit
set_option maxRecDepth 100000
set_option maxHeartbeats 8000000
theorem Ty_date {f : Nat} {us : List AV} (h : Ty Tryz.prog f 23 us) : ∃ t : Dt, us = [.int .i64 t.y, .int .i64 t.m, .int .i64 t.d] := by
  obtain ⟨f', h⟩ := Ty_struct Tryz.underlying23 h
  obtain ⟨p1, r1, rfl, h1, _, p2, r2, rfl, h2, _, p3, r3, rfl, h3, _, rfl⟩ := h
  obtain ⟨y, rfl, _⟩ := Ty_int Tryz.underlying3 h1
  obtain ⟨m, rfl, _⟩ := Ty_int Tryz.underlying3 h2
  obtain ⟨d, rfl, _⟩ := Ty_int Tryz.underlying3 h3
  exact ⟨⟨y, m, d⟩, rfl⟩
theorem TyArg_pat {a : AV} (h : TyArg Tryz.prog 25 a) : ∃ p : Pat, a = .agg [.int .i64 p.y, .int .i64 p.m, .int .i64 p.d, .int .i64 p.w, .int .i64 p.k, .int .i64 p.f.y, .int .i64 p.f.m, .int .i64 p.f.d, .int .i64 p.t.y, .int .i64 p.t.m, .int .i64 p.t.d] := by
  obtain ⟨f, cs, rfl, hh⟩ := TyArg_struct Tryz.underlying25 h
  obtain ⟨p1, r1, rfl, h1, _, p2, r2, rfl, h2, _, p3, r3, rfl, h3, _, p4, r4, rfl, h4, _, p5, r5, rfl, h5, _, p6, r6, rfl, h6, _, p7, r7, rfl, h7, _, rfl⟩ := hh
  obtain ⟨y, rfl, _⟩ := Ty_int Tryz.underlying3 h1
  obtain ⟨m, rfl, _⟩ := Ty_int Tryz.underlying3 h2
  obtain ⟨d, rfl, _⟩ := Ty_int Tryz.underlying3 h3
  obtain ⟨w, rfl, _⟩ := Ty_int Tryz.underlying3 h4
  obtain ⟨k, rfl, _⟩ := Ty_int Tryz.underlying3 h5
  obtain ⟨t, rfl⟩ := Ty_date h6
  obtain ⟨u, rfl⟩ := Ty_date h7
  exact ⟨⟨y, m, d, w, k, t, u⟩, rfl⟩
theorem same_d (u : Int) : decide (u = u) = true := by simp
theorem same_i (u : Int) : (u = u) = True := by simp
end T06


namespace T06
variable [Mm]
open Go Fw Go.Proofs Go.RowKit
set_option maxRecDepth 100000
set_option maxHeartbeats 8000000
theorem c22 (n : Int) (s : St) (K : AV → St → Prop) : CallW cx 22 [.int .i64 n] s K = K (.bool (inD n)) s := by
  refine CallW.eq (CallW.fn' (fn := ir22) rfl rfl (by kernel_rfl) ir22.eq_1 ?_) K
  unfold inD
  cases h : decide (0 ≤ n)
  · simp +contextual -implicitDefEqProofs (maxSteps := 4000000) only [go_sem, ↓reduceIte, Nat.reduceEqDiff, Nat.reduceAdd, Int.reduceLE, Int.reduceLT, Int.reduceEq, Int.reduceToNat, Nat.reduceMod, Nat.reduceDiv, UInt8.reduceToNat, Nat.reduceLT, h, Bool.false_and]
  · simp +contextual -implicitDefEqProofs (maxSteps := 4000000) only [go_sem, ↓reduceIte, Nat.reduceEqDiff, Nat.reduceAdd, Int.reduceLE, Int.reduceLT, Int.reduceEq, Int.reduceToNat, Nat.reduceMod, Nat.reduceDiv, UInt8.reduceToNat, Nat.reduceLT, h, Bool.true_and]
end T06


namespace T06
variable [Mm]
open Go Fw Go.Proofs Go.RowKit
set_option maxRecDepth 100000
set_option maxHeartbeats 8000000
theorem inD_iff {n : Int} : inD n = true ↔ 0 ≤ n ∧ n ≤ 73048 := by unfold inD; simp
theorem law9 (p : Pat) (a b : Int) : CallW cx 9 [.agg [.int .i64 p.y, .int .i64 p.m, .int .i64 p.d, .int .i64 p.w, .int .i64 p.k, .int .i64 p.f.y, .int .i64 p.f.m, .int .i64 p.f.d, .int .i64 p.t.y, .int .i64 p.t.m, .int .i64 p.t.d], .int .i64 a, .int .i64 b] { heap := [], next := 0, low := 0 } fun v _ => v = .bool true := by
  refine CallW.fn' (fn := ir9) rfl rfl (by kernel_rfl) ir9.eq_1 ?_
  have k1 := fun st K => c27 p a b st K
  have kp := fun st K => c13 p st K
  have z2 : decide ((0 : Int) ≠ 0) = false := rfl
  by_cases hp : chkP p = 0
  · rw [hp] at kp
    have ka := fun st K => c22 a st K
    have kb := fun st K => c22 b st K
    cases ha : inD a
    · have e1 : cntB p a b = (0, 1) := by unfold cntB; rw [if_neg (by omega), if_pos (.inl ha)]
      rw [e1] at k1; rw [ha] at ka
      simp +contextual -implicitDefEqProofs (maxSteps := 4000000) only [go_sem, ↓reduceIte, Nat.reduceEqDiff, Nat.reduceAdd, Int.reduceLE, Int.reduceLT, Int.reduceEq, Int.reduceToNat, Nat.reduceMod, Nat.reduceDiv, UInt8.reduceToNat, Nat.reduceLT, c11, k1, kp, ka, z2, same_d, same_i, Bool.not_false]
    · cases hb : inD b
      · have e1 : cntB p a b = (0, 1) := by unfold cntB; rw [if_neg (by omega), if_pos (.inr hb)]
        rw [e1] at k1; rw [ha] at ka; rw [hb] at kb
        simp +contextual -implicitDefEqProofs (maxSteps := 4000000) only [go_sem, ↓reduceIte, Nat.reduceEqDiff, Nat.reduceAdd, Int.reduceLE, Int.reduceLT, Int.reduceEq, Int.reduceToNat, Nat.reduceMod, Nat.reduceDiv, UInt8.reduceToNat, Nat.reduceLT, c11, k1, kp, ka, kb, z2, same_d, same_i, Bool.not_false, Bool.not_true]
      · have e1 : cntB p a b = (((cnt (gT p) (b + 1 - a).toNat a.toNat : Nat) : Int), 0) := by unfold cntB; rw [if_neg (by omega), if_neg (by rw [ha, hb]; decide)]
        rw [e1] at k1
        have ha2 := inD_iff.1 ha
        have hb2 := inD_iff.1 hb
        rw [ha] at ka; rw [hb] at kb
        have w : IntKind.i64.wrap (b - a) = b - a := wrap_i64 (by omega) (by omega)
        by_cases hf : 4000 < b - a
        · have d1 : decide (4000 < b - a) = true := decide_eq_true hf
          simp +contextual -implicitDefEqProofs (maxSteps := 4000000) only [go_sem, ↓reduceIte, Nat.reduceEqDiff, Nat.reduceAdd, Int.reduceLE, Int.reduceLT, Int.reduceEq, Int.reduceToNat, Nat.reduceMod, Nat.reduceDiv, UInt8.reduceToNat, Nat.reduceLT, c11, k1, kp, ka, kb, z2, w, d1, Bool.not_true]
        · have d1 : decide (4000 < b - a) = false := decide_eq_false hf
          obtain ⟨o, ho, kd⟩ := days_ok p hp a.toNat (by omega) b (by omega) 5000 (by omega) { heap := [(0, .cells (some 25) [.int .i64 p.y, .int .i64 p.m, .int .i64 p.d, .int .i64 p.w, .int .i64 p.k, .int .i64 p.f.y, .int .i64 p.f.m, .int .i64 p.f.d, .int .i64 p.t.y, .int .i64 p.t.m, .int .i64 p.t.d])], next := 1, low := 0 }
          have hl := days_len (gT p) (b + 1 - a).toNat a.toNat 5000 (by omega)
          rw [show ((a.toNat : Nat) : Int) = a by omega, hl] at kd
          simp only [Int.cast_ofNat_Int] at kd
          simp +contextual -implicitDefEqProofs (maxSteps := 4000000) only [go_sem, ↓reduceIte, Nat.reduceEqDiff, Nat.reduceAdd, Int.reduceLE, Int.reduceLT, Int.reduceEq, Int.reduceToNat, Nat.reduceMod, Nat.reduceDiv, UInt8.reduceToNat, Nat.reduceLT, c11, k1, kp, ka, kb, z2, w, d1, kd, same_d, same_i, Bool.not_true]
  · have d1 : decide (chkP p ≠ 0) = true := decide_eq_true hp
    have e1 : cntB p a b = (0, chkP p) := by unfold cntB; rw [if_pos hp]
    rw [e1] at k1
    simp +contextual -implicitDefEqProofs (maxSteps := 4000000) only [go_sem, ↓reduceIte, Nat.reduceEqDiff, Nat.reduceAdd, Int.reduceLE, Int.reduceLT, Int.reduceEq, Int.reduceToNat, Nat.reduceMod, Nat.reduceDiv, UInt8.reduceToNat, Nat.reduceLT, c11, k1, kp, d1, same_d, same_i]
theorem hlaw9 (as0 : List AV) (h : TyArgs Tryz.prog Tryz.f9.params.toList as0) : ∃ k s', callF cx k 9 as0 st0 = some (.bool true, s') := by
  obtain ⟨a1, r1, rfl, h1, a2, r2, rfl, h2, a3, r3, rfl, h3, h6⟩ : ∃ a1 r1, as0 = a1 :: r1 ∧ TyArg Tryz.prog 25 a1 ∧ ∃ a2 r2, r1 = a2 :: r2 ∧ TyArg Tryz.prog 3 a2 ∧ ∃ a3 r3, r2 = a3 :: r3 ∧ TyArg Tryz.prog 3 a3 ∧ r3 = [] := h
  subst h6
  obtain ⟨p, rfl⟩ := TyArg_pat h1
  obtain ⟨a, rfl, _⟩ := TyArg_int Tryz.underlying3 h2
  obtain ⟨b, rfl, _⟩ := TyArg_int Tryz.underlying3 h3
  obtain ⟨k', v, s', h9, rfl⟩ := law9 p a b
  exact ⟨k', s', h9⟩
end T06


namespace T06
open Go Fw Go.Proofs Go.RowKit
set_option maxRecDepth 100000
def strData {H : Type} (zs : List (List UInt8)) : DataW H := .agg (zs.map fun z => .lit (.string z))
theorem cells_of_strs {H : Type} {enc : TypeId × Value → H} {P : Program} {w : World} {base : Nat} {sp : Nat → Bool} {held : Bool} {fuel : Nat} {t e : TypeId} {n : Nat} {cs : List Value} {zs : List (List UInt8)} {p : List MemPlace}
    (ht : P.underlying t = some (.array n e)) (he : P.underlying e = some .string) (hce : P.cellsOf e = 1) (hct : P.cellsOf t = n)
    (h : DataW.trod enc P w base sp held fuel t cs = some (strData zs, p)) : cs = zs.map fun z => Value.string ⟨z.toArray⟩ := by
  cases fuel with
  | zero => simp [DataW.trod] at h
  | succ fuel =>
    simp only [DataW.trod, ht, hce, hct, Nat.mul_one] at h
    split at h
    · rename_i hl
      obtain ⟨xs, hm, hx⟩ := Option.map_eq_some_iff.1 h
      have hxs : xs.map (·.1) = zs.map fun z => (DataW.lit (.string z) : DataW H) := by
        have := congrArg Prod.fst hx
        simpa [strData] using this
      have hxl : xs.length = n := by simpa using Lib.mapM_length hm
      have hzl : zs.length = n := by
        have := congrArg List.length hxs
        simp at this
        omega
      apply List.ext_getElem?
      intro i
      by_cases hi : i < n
      · obtain ⟨b, hb, hf⟩ := Lib.mapM_at hm i i (by simp [hi])
        obtain ⟨s, hcut, rfl, _⟩ := DataW.trod_string he hf
        have h1 : cs[i]? = some (.string s) := by
          have := congrArg (·[0]?) hcut
          simpa [List.getElem?_take, List.getElem?_drop] using this
        have h2 : (xs.map (·.1))[i]? = some (DataW.lit (.string s.data.toList) : DataW H) := by simp [hb]
        rw [hxs] at h2
        simp only [List.getElem?_map, Option.map_eq_some_iff, DataW.lit.injEq, Lit.string.injEq] at h2
        obtain ⟨z', hz', rfl⟩ := h2
        rw [h1, List.getElem?_map, hz']
        rfl
      · rw [List.getElem?_eq_none (by omega), List.getElem?_eq_none (by simp; omega)]
    · cases h
theorem laid_strs {P : Program} {W : World} {L : List (String × DataW Unit)} (h : laidMetH P L W) {name : String} {zs : List (List UInt8)} (hm : (name, strData zs) ∈ L) {g : Nat} {t e : TypeId} {n : Nat}
    (hg : P.globalNamed name = some g) (hty : (P.globals[g]?).map (·.type) = some t) (ht : P.underlying t = some (.array n e)) (he : P.underlying e = some .string) (hce : P.cellsOf e = 1) (hct : P.cellsOf t = n) :
    alAll (fun _ => false) (zs.map AV.str) = true ∧ RC (firstGh W) (zs.map AV.str) g 0 := by
  obtain ⟨g', t', cs, fuel, p, hg', ht', hvar, hd⟩ := laidH_mem h hm rfl
  obtain rfl := Option.some.inj (hg.symm.trans hg')
  obtain rfl := Option.some.inj (hty.symm.trans ht')
  refine ⟨(alAll_iff _).2 fun a ha => ?_, ?_⟩
  · obtain ⟨z, _, rfl⟩ := List.mem_map.1 ha; rfl
  · have hv : W.var? P name = some (zs.map fun z => Value.string ⟨z.toArray⟩).toArray := by rw [hvar, ← cells_of_strs ht he hce hct hd]
    have key : ∀ (n i : Nat), i + n = zs.length → RC (firstGh W) ((zs.drop i).map AV.str) g i := by
      intro n
      induction n with
      | zero => intro i hi; rw [List.drop_eq_nil_of_le (by omega)]; simp [RC]
      | succ n ih =>
        intro i hi
        have hlt : i < zs.length := by omega
        rw [List.drop_eq_getElem_cons hlt, List.map_cons]
        simp only [RC]
        refine ⟨⟨.string ⟨zs[i].toArray⟩, ?_, by simp [R]⟩, ih (i + 1) (by omega)⟩
        have := World.var?_cell hg hv i
        have h2 : W.cell? ⟨g, i, none⟩ = some (.string ⟨zs[i].toArray⟩) := by simpa [List.getD, hlt] using this
        exact h2
    simpa using key zs.length 0 (by omega)
theorem hcell (w : World) (h : w.ShapedOpen Tryz.prog) : ∃ m, w.cell? ⟨2, 0, none⟩ = some (.int .i64 m) :=
  Go.Proofs.cell_of_shapedOpen_int (zero := #[.int .i64 0]) (t := 3) h (of_decide_eq_true (by kernel_rfl)) (by kernel_rfl) rfl (by kernel_rfl) (by kernel_rfl) Tryz.underlying3
open Go.Proofs.YtaoeokelalmcmaaGreatDoor in
theorem hgl0 {L : List (String × DataW Unit)} (h1 : ("plenum/pattern.words", (Rows.laid_plenum_pattern_words : DataW Unit)) ∈ L) (h2 : ("plenum/civil.lengths", (Rows.laid_plenum_civil_lengths : DataW Unit)) ∈ L) (h3 : ("internal/strconv.uint64pow10", (Rows.laid_internal_strconv_uint64pow10 : DataW Unit)) ∈ L)
    (m : Int) (W : World) (h : laidMetH Tryz.prog L W) (hm : W.cell? ⟨2, 0, none⟩ = some (.int .i64 m)) : ∀ n cs, gls m n = some cs → alAll (fun _ => false) cs = true ∧ RC (firstGh W) cs n 0 := by
  intro n cs hn
  unfold gls at hn
  split at hn <;> cases hn
  · exact laid_strs (name := "plenum/pattern.words") (zs := words) h h1 (by kernel_rfl) (by kernel_rfl) Tryz.underlying65 Tryz.underlying9 (by kernel_rfl) (by kernel_rfl)
  · exact laid_tab (name := "plenum/civil.lengths") (k := .i64) (zs := lengths) h h2 (by kernel_rfl) (by kernel_rfl) Tryz.underlying92 Tryz.underlying3 (by kernel_rfl) (by kernel_rfl)
  · refine ⟨rfl, ?_⟩
    simp only [RC]
    exact ⟨⟨.int .i64 m, hm, by simp [R]⟩, trivial⟩
  · exact laid_tab (name := "internal/strconv.uint64pow10") (k := .u64) (zs := pows) h h3 (by kernel_rfl) (by kernel_rfl) Tryz.underlying137 Tryz.underlying114 (by kernel_rfl) (by kernel_rfl)
end T06
