/- Parts of the proof, one behind the other. -/
import Derived.Test.YtaoeokelalmcmaaGreatDoorKC
import Derived.Lib.IndexMore
import Derived.Test.YtaoeokelalmcmaaGreatDoorKB
import Derived.Test.YtaoeokelalmcmaaGreatDoorFwG
import Derived.Test.YtaoeokelalmcmaaGreatDoorKA
import Derived.Test.YtaoeokelalmcmaaGreatDoorRows
import Derived.Test.YtaoeokelalmcmaaGreatDoorFwL
set_option linter.unusedSimpArgs false
set_option linter.unusedVariables false
set_option linter.unusedSectionVars false

namespace T06
variable [Mm]
open Go Fw Go.Proofs
set_option maxRecDepth 100000
theorem split_app (c : UInt8) : ∀ x y : List UInt8, splitB c (x ++ c :: y) = splitB c x ++ splitB c y
  | [], y => by simp [splitB]
  | b :: x, y => by
    simp only [List.cons_append, splitB]
    by_cases h : b = c
    · rw [if_pos h, if_pos h, split_app c x y]; rfl
    · rw [if_neg h, if_neg h, split_app c x y]
      obtain ⟨z, zs, hz⟩ : ∃ z zs, splitB c x = z :: zs := by
        cases e : splitB c x with
        | nil => exact absurd e (splitB_ne c x)
        | cons z zs => exact ⟨z, zs, rfl⟩
      rw [hz]; rfl
theorem split_one (c : UInt8) : ∀ x : List UInt8, c ∉ x → splitB c x = [x]
  | [], _ => rfl
  | b :: x, h => by
    simp only [List.mem_cons, not_or] at h
    simp only [splitB]
    rw [if_neg (Ne.symm h.1), split_one c x h.2]
theorem mem_split (c : UInt8) (b : UInt8) : ∀ x : List UInt8, b ∈ x → b = c ∨ ∃ w ∈ splitB c x, b ∈ w
  | a :: x, h => by
    simp only [splitB]
    by_cases ha : a = c
    · rw [if_pos ha]
      rcases List.mem_cons.1 h with rfl | h
      · exact .inl ha
      · rcases mem_split c b x h with h1 | ⟨w, h1, h2⟩
        · exact .inl h1
        · exact .inr ⟨w, by simp [h1], h2⟩
    · rw [if_neg ha]
      obtain ⟨z, zs, hz⟩ : ∃ z zs, splitB c x = z :: zs := by
        cases e : splitB c x with
        | nil => exact absurd e (splitB_ne c x)
        | cons z zs => exact ⟨z, zs, rfl⟩
      rw [hz]
      rcases List.mem_cons.1 h with rfl | h
      · exact .inr ⟨_, List.mem_cons_self .., by simp⟩
      · rcases mem_split c b x h with h1 | ⟨w, h1, h2⟩
        · exact .inl h1
        · rw [hz] at h1
          rcases List.mem_cons.1 h1 with rfl | h1
          · exact .inr ⟨_, List.mem_cons_self .., by simp [h2]⟩
          · exact .inr ⟨w, by simp [h1], h2⟩
theorem not_mem_split (c : UInt8) : ∀ (x : List UInt8), ∀ w ∈ splitB c x, c ∉ w
  | [], w, h => by simp only [splitB, List.mem_singleton] at h; subst h; simp
  | a :: x, w, h => by
    simp only [splitB] at h
    by_cases ha : a = c
    · rw [if_pos ha] at h
      rcases List.mem_cons.1 h with rfl | h
      · simp
      · exact not_mem_split c x w h
    · rw [if_neg ha] at h
      obtain ⟨z, zs, hz⟩ : ∃ z zs, splitB c x = z :: zs := by
        cases e : splitB c x with
        | nil => exact absurd e (splitB_ne c x)
        | cons z zs => exact ⟨z, zs, rfl⟩
      rw [hz] at h
      rcases List.mem_cons.1 h with rfl | h
      · have := not_mem_split c x z (by rw [hz]; simp)
        simp only [List.mem_cons, not_or]
        exact ⟨Ne.symm ha, this⟩
      · exact not_mem_split c x w (by rw [hz]; simp [h])
def joinB (c : UInt8) : List (List UInt8) → List UInt8
  | [] => []
  | [w] => w
  | w :: ws => w ++ c :: joinB c ws
theorem join_cons (c : UInt8) (w : List UInt8) {ws : List (List UInt8)} (h : ws ≠ []) : joinB c (w :: ws) = w ++ c :: joinB c ws := by
  cases ws with
  | nil => exact absurd rfl h
  | cons v ws => rfl
theorem join_split (c : UInt8) : ∀ x : List UInt8, joinB c (splitB c x) = x
  | [] => rfl
  | a :: x => by
    have ih := join_split c x
    simp only [splitB]
    by_cases ha : a = c
    · rw [if_pos ha, join_cons c _ (splitB_ne c x), ih, ha]; rfl
    · rw [if_neg ha]
      obtain ⟨z, zs, hz⟩ : ∃ z zs, splitB c x = z :: zs := by
        cases e : splitB c x with
        | nil => exact absurd e (splitB_ne c x)
        | cons z zs => exact ⟨z, zs, rfl⟩
      rw [hz] at ih ⊢
      simp only
      cases zs with
      | nil => simp only [joinB] at ih ⊢; rw [ih]
      | cons y ys => rw [join_cons c _ (by simp)] at ih ⊢; rw [List.cons_append, ih]
theorem cut_found {s : List UInt8} (h : (cutS TO s).2.2 = true) : s = (cutS TO s).1 ++ (TO ++ (cutS TO s).2.1) := by
  unfold cutS at h ⊢
  rcases Lib.index_spec s TO with ⟨h1, _⟩ | ⟨i, h1, h2, h3, _⟩
  · rw [h1] at h; cases h
  · rw [h1]
    show s = s.take i ++ (TO ++ s.drop (i + TO.length))
    unfold Lib.occAt at h3
    obtain ⟨r, hr⟩ := List.isPrefixOf_iff_prefix.1 h3
    have e : s.drop (i + TO.length) = r := by rw [← List.drop_drop, ← hr]; simp
    rw [e, hr, List.take_append_drop]
theorem cut_of {a b : List UInt8} (ha : (32 : UInt8) ∉ a) : cutS TO (a ++ (TO ++ b)) = (a, b, true) := by
  have h : Lib.index (a ++ (TO ++ b)) TO = (a.length : Nat) := by
    refine Lib.index_first (by simp) ?_ ?_
    · unfold Lib.occAt
      rw [List.drop_left]
      exact List.isPrefixOf_iff_prefix.2 (List.prefix_append _ _)
    · intro j hj
      unfold Lib.occAt
      apply Bool.eq_false_iff.2
      intro hp
      obtain ⟨r, hr⟩ := List.isPrefixOf_iff_prefix.1 hp
      have e : (a ++ (TO ++ b)).drop j = a.drop j ++ (TO ++ b) := by rw [List.drop_append_of_le_length (by omega)]
      rw [e, List.drop_eq_getElem_cons hj] at hr
      have : (32 : UInt8) = a[j] := (List.cons.inj hr).1
      exact ha (this ▸ List.getElem_mem hj)
  unfold cutS
  rw [h]
  show ((a ++ (TO ++ b)).take a.length, (a ++ (TO ++ b)).drop (a.length + TO.length), true) = _
  rw [List.take_left, ← List.drop_drop, List.drop_left, List.drop_left]
theorem split_to (a b : List UInt8) : splitB 32 (a ++ (TO ++ b)) = splitB 32 a ++ TWO :: splitB 32 b := by
  have e : a ++ (TO ++ b) = a ++ 32 :: (TWO ++ 32 :: b) := rfl
  rw [e, split_app, split_app, split_one 32 TWO (by decide)]
  rfl
end T06


namespace T06
variable [Mm]
open Go Fw Go.Proofs
set_option maxRecDepth 100000
theorem dg45 : dg 45 = false := by decide
theorem dg32 : dg 32 = false := by decide
theorem all_no {c : UInt8} (hc : dg c = false) {l : List UInt8} (h : allD l = true) : c ∉ l := by
  intro hm
  unfold allD at h
  rw [List.all_eq_true] at h
  rw [h c hm] at hc; cases hc
theorem end_blank {x : List UInt8} (h : (32 : UInt8) ∈ x) : endP x = (noD, 2) := by
  unfold endP
  rw [if_neg (by rintro rfl; revert h; decide)]
  split
  · rename_i a b c hs
    rw [if_neg]
    rintro ⟨_, _, _, hd⟩
    rcases mem_split 45 32 x h with h1 | ⟨w, h1, h2⟩
    · cases h1
    · rw [hs] at h1
      have hn := all_no dg32 hd
      apply hn
      simp only [List.mem_cons, List.not_mem_nil, or_false] at h1
      rcases h1 with rfl | rfl | rfl <;> simp [h2]
  · rfl
theorem digR_len {x : List UInt8} {n : Nat} (h : x.length ≠ n) : digR x n = -1 := if_neg fun hh => h hh.1
theorem wd_two : wdOf TWO = 0 := by decide
theorem tailR_two (w : Int) {f : List (List UInt8)} (y m d : List UInt8) (h : TWO ∈ f) : tailR w f y m d = (noP, 2) := by
  match f, h with
  | [_], h => rfl
  | [a, x], h =>
    unfold tailR
    simp only
    by_cases ha : a = WEEK
    · rw [if_pos ha]
      have hx : x = TWO := by
        simp only [List.mem_cons, List.not_mem_nil, or_false] at h
        rcases h with h | h
        · rw [ha] at h; exact absurd h (by decide)
        · exact h.symm
      subst hx
      rw [if_neg (by decide), digR_len (by decide), if_pos (.inl (by decide))]
    · rw [if_neg ha]
  | _ :: _ :: _ :: _, h => rfl
theorem wkS_two {f : List (List UInt8)} (h : TWO ∈ f) : TWO ∈ (wkS f).2 := by
  cases f with
  | nil => cases h
  | cons x f =>
    unfold wkS
    simp only
    by_cases hw : wdOf x ≠ 0
    · rw [if_pos hw]
      rcases List.mem_cons.1 h with h | h
      · rw [← h] at hw; exact absurd wd_two hw
      · exact h
    · rw [if_neg hw]; exact h
theorem wordsR_two (t : List UInt8) {f : List (List UInt8)} (h : TWO ∈ f) : wordsR (t :: f) = (noP, 2) := by
  unfold wordsR
  simp only
  split
  · split
    · rfl
    · exact tailR_two _ _ _ _ (wkS_two h)
  · rfl
def finP (x : Pat × Int) : Pat × Int := if x.2 = 0 then finR x.1 else (noP, x.2)
theorem ansP_eq (s : List UInt8) : ansP s = finP (parseP s) := rfl
theorem year_cmp (y : List UInt8) : ((yearP y).2 = 0 ∧ yR y = (yearP y).1 ∧ 0 ≤ yR y) ∨ ((yearP y).2 = 2 ∧ yR y < 0) ∨ ((yearP y).2 = 6 ∧ yR y = 1000) := by
  unfold yearP yR
  by_cases h1 : y = [42]
  · rw [if_pos h1, if_pos h1]; exact .inl ⟨rfl, rfl, by omega⟩
  rw [if_neg h1, if_neg h1]
  unfold restP restD
  by_cases hl : y.length = 4
  · cases hd : allD y
    · have e : digR y 4 = -1 := if_neg (by simp [hd])
      rw [e, if_pos (.inr rfl), if_neg (by omega)]
      exact .inr (.inl ⟨rfl, by decide⟩)
    · have e : digR y 4 = ((numD y : Nat) : Int) := if_pos ⟨hl, hd⟩
      have := numD_lt hd
      rw [hl] at this
      rw [e, if_neg (by simp [hl])]
      by_cases h0 : numD y = 0
      · rw [if_pos (.inl h0), if_pos (.inl (by omega))]
        exact .inr (.inr ⟨rfl, rfl⟩)
      · rw [if_neg (by omega), if_neg (by omega)]
        exact .inl ⟨rfl, rfl, by omega⟩
  · have e : digR y 4 = -1 := if_neg (by simp [hl])
    rw [e, if_pos (.inl hl), if_neg (by omega)]
    exact .inr (.inl ⟨rfl, by decide⟩)
theorem rest2_cmp (x : List UInt8) (hi : Nat) (h31 : hi ≤ 31) : ((restP x 2 hi).2 = 0 ∧ restD x 2 = (restP x 2 hi).1 ∧ 0 ≤ restD x 2 ∧ restD x 2 ≤ hi) ∨ ((restP x 2 hi).2 = 2 ∧ restD x 2 < 0) ∨ ((restP x 2 hi).2 = 6 ∧ (hi : Int) < restD x 2 ∧ (restD x 2 ≤ 31 ∨ restD x 2 = 1000)) := by
  unfold restP restD
  by_cases hl : x.length = 2
  · cases hd : allD x
    · have e : digR x 2 = -1 := if_neg (by simp [hd])
      rw [e, if_pos (.inr rfl), if_neg (by omega)]
      exact .inr (.inl ⟨rfl, by decide⟩)
    · have e : digR x 2 = ((numD x : Nat) : Int) := if_pos ⟨hl, hd⟩
      rw [e, if_neg (by simp [hl])]
      by_cases h0 : numD x = 0
      · rw [if_pos (.inl h0), if_pos (.inl (by omega))]
        exact .inr (.inr ⟨rfl, by omega, .inr rfl⟩)
      · by_cases h1 : hi < numD x
        · rw [if_pos (.inr h1)]
          refine .inr (.inr ⟨rfl, ?_, ?_⟩)
          · split <;> omega
          · split <;> omega
        · rw [if_neg (by omega), if_neg (by omega)]
          exact .inl ⟨rfl, rfl, by omega, by omega⟩
  · have e : digR x 2 = -1 := if_neg (by simp [hl])
    rw [e, if_pos (.inl hl), if_neg (by omega)]
    exact .inr (.inl ⟨rfl, by decide⟩)
theorem mon_cmp (m : List UInt8) : ((monP m).2 = 0 ∧ mR m = (monP m).1 ∧ 0 ≤ mR0 m) ∨ ((monP m).2 = 2 ∧ mR0 m < 0) ∨ ((monP m).2 = 6 ∧ mR m = 1000 ∧ 0 ≤ mR0 m) := by
  by_cases h1 : m = [42]
  · subst h1; exact .inl ⟨by decide, by decide, by decide⟩
  by_cases h2 : m = ODD
  · subst h2; exact .inl ⟨by decide, by decide, by decide⟩
  by_cases h3 : m = EVEN
  · subst h3; exact .inl ⟨by decide, by decide, by decide⟩
  have e1 : monP m = restP m 2 12 := (if_neg h1).trans ((if_neg h2).trans (if_neg h3))
  have e2 : mR0 m = restD m 2 := by unfold mR0 partR; rw [if_neg h1]; simp only [idxF]; rw [if_neg h2, if_neg h3]; rfl
  unfold mR
  rw [e1, e2]
  rcases rest2_cmp m 12 (by omega) with ⟨a, b, c, d⟩ | ⟨a, b⟩ | ⟨a, b, c⟩
  · rw [if_neg (by omega)]; exact .inl ⟨a, b, c⟩
  · exact .inr (.inl ⟨a, b⟩)
  · rw [if_pos ⟨b, h2, h3⟩]; exact .inr (.inr ⟨a, rfl, by omega⟩)
theorem day_cmp (d : List UInt8) : ((dayP d).2 = 0 ∧ dR d = (dayP d).1 ∧ 0 ≤ dR d) ∨ ((dayP d).2 = 2 ∧ dR d < 0) ∨ ((dayP d).2 = 6 ∧ dR d = 1000) := by
  by_cases h1 : d = [42]
  · subst h1; exact .inl ⟨by decide, by decide, by decide⟩
  by_cases h2 : d = LAST
  · subst h2; exact .inl ⟨by decide, by decide, by decide⟩
  by_cases h3 : d = ODD
  · subst h3; exact .inl ⟨by decide, by decide, by decide⟩
  by_cases h4 : d = EVEN
  · subst h4; exact .inl ⟨by decide, by decide, by decide⟩
  have e1 : dayP d = restP d 2 31 := (if_neg h1).trans ((if_neg h2).trans ((if_neg h3).trans (if_neg h4)))
  have e2 : dR d = restD d 2 := by unfold dR partR; rw [if_neg h1]; simp only [idxF]; rw [if_neg h2, if_neg h3, if_neg h4]; rfl
  rw [e1, e2]
  rcases rest2_cmp d 31 (by omega) with ⟨a, b, c, e⟩ | ⟨a, b⟩ | ⟨a, b, c⟩
  · exact .inl ⟨a, b, c⟩
  · exact .inr (.inl ⟨a, b⟩)
  · exact .inr (.inr ⟨a, by omega⟩)
theorem one_byte : ∀ c : Fin 256, (Lib.index [49, 50, 51, 52, 53] [UInt8.ofNat c.val] + 1 = 0 ∧ (digR [UInt8.ofNat c.val] 1 < 1 ∨ 5 < digR [UInt8.ofNat c.val] 1)) ∨ (Lib.index [49, 50, 51, 52, 53] [UInt8.ofNat c.val] + 1 = digR [UInt8.ofNat c.val] 1 ∧ 1 ≤ digR [UInt8.ofNat c.val] 1 ∧ digR [UInt8.ofNat c.val] 1 ≤ 5) := by decide +kernel
theorem week_cmp (x : List UInt8) : (weekBad x = true ∧ x ≠ LAST ∧ (digR x 1 < 1 ∨ 5 < digR x 1)) ∨ (weekBad x = false ∧ ((x = LAST ∧ weekV x = 6) ∨ (x ≠ LAST ∧ ¬ (digR x 1 < 1 ∨ 5 < digR x 1) ∧ weekV x = digR x 1))) := by
  by_cases hl : x = LAST
  · subst hl; exact .inr ⟨by decide, .inl ⟨rfl, by decide⟩⟩
  · have e : weekV x = Lib.index [49, 50, 51, 52, 53] x + 1 := by unfold weekV; rw [if_neg hl]
    unfold weekBad
    rw [e]
    by_cases h1 : x.length = 1
    · obtain ⟨c, rfl⟩ : ∃ c, x = [c] := by
        match x, h1 with
        | [c], _ => exact ⟨c, rfl⟩
      have := one_byte ⟨c.toNat, UInt8.toNat_lt c⟩
      simp only [UInt8.ofNat_toNat] at this
      rcases this with ⟨a, b⟩ | ⟨a, b, b'⟩
      · exact .inl ⟨by rw [a]; rfl, hl, b⟩
      · refine .inr ⟨?_, .inr ⟨hl, by omega, a⟩⟩
        rw [a, decide_eq_false (by omega)]
        simp
    · refine .inl ⟨?_, hl, .inl (by rw [digR_len h1]; decide)⟩
      have h6 : Lib.index [49, 50, 51, 52, 53] x + 1 ≠ 6 := by
        intro h6
        have hr := Lib.index_room [49, 50, 51, 52, 53] x (by omega)
        simp only [List.length_cons, List.length_nil] at hr
        have : x = [] := List.eq_nil_of_length_eq_zero (by omega)
        subst this
        revert h6; decide
      rw [decide_eq_true h6, decide_eq_true (show ((x.length : Nat) : Int) ≠ 1 by omega)]
      simp
end T06


namespace T06
variable [Mm]
open Go Fw Go.Proofs
set_option maxRecDepth 100000
theorem worst_0 : worst 0 0 0 = 0 := by decide
theorem worst_6 {a b c : Int} (ha : a = 0 ∨ a = 6) (hb : b = 0 ∨ b = 6) (hc : c = 0 ∨ c = 6) (h : ¬ (a = 0 ∧ b = 0 ∧ c = 0)) : worst a b c = 6 := by
  rcases ha with rfl | rfl <;> rcases hb with rfl | rfl <;> rcases hc with rfl | rfl <;> first | decide | (exfalso; exact h ⟨rfl, rfl, rfl⟩)
theorem worst_2 {a b c : Int} (ha : a = 0 ∨ a = 2 ∨ a = 6) (hb : b = 0 ∨ b = 2 ∨ b = 6) (hc : c = 0 ∨ c = 2 ∨ c = 6) (h : a = 2 ∨ b = 2 ∨ c = 2) : worst a b c = 2 := by
  rcases ha with rfl | rfl | rfl <;> rcases hb with rfl | rfl | rfl <;> rcases hc with rfl | rfl | rfl <;> first | decide | (exfalso; omega)
theorem bad_chk {p : Pat} (hf : p.f = noD) (ht : p.t = noD) (h : p.y = 1000 ∨ p.m = 1000 ∨ p.d = 1000) : chkP p = 6 := by
  have hr : isR p = false := by unfold isR; rw [hf, ht]; decide
  have hb : badF p = true := by
    unfold badF
    simp
    omega
  unfold chkP
  rw [if_pos hr, if_pos hb]
theorem good_cmp (w k : Int) (y m d : List UInt8) (hn : ¬ (yR y < 0 ∨ mR0 m < 0 ∨ dR d < 0)) : finP (goodP w k y m d) = finR ⟨yR y, mR m, dR d, w, k, noD, noD⟩ := by
  unfold finP goodP
  have hy : ((yearP y).2 = 0 ∧ yR y = (yearP y).1) ∨ ((yearP y).2 = 6 ∧ yR y = 1000) := by
    rcases year_cmp y with ⟨a, b, c⟩ | ⟨a, b⟩ | ⟨a, b⟩
    · exact .inl ⟨a, b⟩
    · exact absurd (.inl b) hn
    · exact .inr ⟨a, b⟩
  have hm : ((monP m).2 = 0 ∧ mR m = (monP m).1) ∨ ((monP m).2 = 6 ∧ mR m = 1000) := by
    rcases mon_cmp m with ⟨a, b, c⟩ | ⟨a, b⟩ | ⟨a, b, c⟩
    · exact .inl ⟨a, b⟩
    · exact absurd (.inr (.inl b)) hn
    · exact .inr ⟨a, b⟩
  have hd : ((dayP d).2 = 0 ∧ dR d = (dayP d).1) ∨ ((dayP d).2 = 6 ∧ dR d = 1000) := by
    rcases day_cmp d with ⟨a, b, c⟩ | ⟨a, b⟩ | ⟨a, b⟩
    · exact .inl ⟨a, b⟩
    · exact absurd (.inr (.inr b)) hn
    · exact .inr ⟨a, b⟩
  by_cases h0 : (yearP y).2 = 0 ∧ (monP m).2 = 0 ∧ (dayP d).2 = 0
  · have e1 : yR y = (yearP y).1 := by rcases hy with h | h; exact h.2; rw [h0.1] at h; exact absurd h.1 (by decide)
    have e2 : mR m = (monP m).1 := by rcases hm with h | h; exact h.2; rw [h0.2.1] at h; exact absurd h.1 (by decide)
    have e3 : dR d = (dayP d).1 := by rcases hd with h | h; exact h.2; rw [h0.2.2] at h; exact absurd h.1 (by decide)
    simp only
    rw [h0.1, h0.2.1, h0.2.2, worst_0, if_pos rfl, e1, e2, e3]
  · have ew : worst (yearP y).2 (monP m).2 (dayP d).2 = 6 := worst_6 (by omega) (by omega) (by omega) h0
    simp only
    rw [ew, if_neg (by decide)]
    have : chkP ⟨yR y, mR m, dR d, w, k, noD, noD⟩ = 6 := bad_chk rfl rfl (by simp only; omega)
    unfold finR
    rw [this, if_neg (by decide)]
theorem good_bad (w k : Int) (y m d : List UInt8) (hn : yR y < 0 ∨ mR0 m < 0 ∨ dR d < 0) : finP (goodP w k y m d) = (noP, 2) := by
  unfold finP goodP
  have hy := year_cmp y
  have hm := mon_cmp m
  have hd := day_cmp d
  have ew : worst (yearP y).2 (monP m).2 (dayP d).2 = 2 := worst_2 (by omega) (by omega) (by omega) (by omega)
  simp only
  rw [ew, if_neg (by decide)]
theorem tail_cmp (w : Int) (f : List (List UInt8)) (y m d : List UInt8) : finP (tailP w f y m d) = if yR y < 0 ∨ mR0 m < 0 ∨ dR d < 0 then (noP, 2) else tailR w f y m d := by
  match f with
  | [] =>
    by_cases hn : yR y < 0 ∨ mR0 m < 0 ∨ dR d < 0
    · rw [if_pos hn]; exact good_bad w 0 y m d hn
    · rw [if_neg hn]; exact good_cmp w 0 y m d hn
  | [a] =>
    have e1 : tailP w [a] y m d = (⟨0, 0, 0, w, 0, noD, noD⟩, 2) := rfl
    have e2 : tailR w [a] y m d = (noP, 2) := rfl
    rw [e1, e2, ite_self]; rfl
  | [a, x] =>
    unfold tailP tailR
    simp only
    by_cases ha : a = WEEK
    · rw [if_pos ha, if_pos ha]
      rcases week_cmp x with ⟨h1, h2, h3⟩ | ⟨h1, ⟨h2, h3⟩ | ⟨h2, h3, h4⟩⟩
      · rw [if_pos h1, if_neg h2, if_pos h3]; split <;> rfl
      · rw [if_neg (by simp [h1]), if_pos h2, h3]
        by_cases hn : yR y < 0 ∨ mR0 m < 0 ∨ dR d < 0
        · rw [if_pos hn]; exact good_bad w 6 y m d hn
        · rw [if_neg hn]; exact good_cmp w 6 y m d hn
      · rw [if_neg (by simp [h1]), if_neg h2, if_neg h3, h4]
        by_cases hn : yR y < 0 ∨ mR0 m < 0 ∨ dR d < 0
        · rw [if_pos hn]; exact good_bad w _ y m d hn
        · rw [if_neg hn]; exact good_cmp w _ y m d hn
    · rw [if_neg ha, if_neg ha]; split <;> rfl
  | a :: b :: c :: l =>
    have e1 : tailP w (a :: b :: c :: l) y m d = (⟨0, 0, 0, w, 0, noD, noD⟩, 2) := rfl
    have e2 : tailR w (a :: b :: c :: l) y m d = (noP, 2) := rfl
    rw [e1, e2, ite_self]; rfl
theorem words_cmp (ws : List (List UInt8)) : finP (wordsP ws) = wordsR ws := by
  cases ws with
  | nil => rfl
  | cons t f =>
    unfold wordsP wordsR
    simp only
    generalize splitB 45 t = ds
    match ds with
    | [] => rfl
    | [_] => rfl
    | [_, _] => rfl
    | [y, m, d] => exact tail_cmp _ _ _ _ _
    | _ :: _ :: _ :: _ :: _ => rfl
theorem num_zero : ∀ (l : List UInt8) (k : Nat), allD l = true → numA k l = 0 → k = 0 ∧ l = List.replicate l.length 48
  | [], k, _, h => ⟨h, rfl⟩
  | b :: l, k, hd, h => by
    unfold allD at hd
    simp only [List.all_cons, Bool.and_eq_true] at hd
    have h1 := hd.1
    unfold dg at h1
    simp only [Bool.and_eq_true, decide_eq_true_eq] at h1
    obtain ⟨a, c⟩ := num_zero l (10 * k + (b.toNat - 48)) hd.2 h
    refine ⟨by omega, ?_⟩
    have hb : b = 48 := UInt8.toNat.inj (by show b.toNat = 48; omega)
    rw [List.length_cons, List.replicate_succ, ← c, hb]
theorem end_cmp (x : List UInt8) : ((endP x).2 = 2 ∧ (limR x).2 = false) ∨ ((endP x).2 = 1 ∧ (limR x).2 = true ∧ x = ZERO) ∨ ((endP x).2 = 0 ∧ limR x = ((endP x).1, true) ∧ x ≠ ZERO) := by
  by_cases h1 : x = [42]
  · subst h1; exact .inr (.inr ⟨by decide, rfl, by decide⟩)
  unfold endP limR
  rw [if_neg h1, if_neg h1]
  have hj := join_split 45 x
  by_cases h3 : ∃ a b c, splitB 45 x = [a, b, c]
  · obtain ⟨a, b, c, hs⟩ := h3
    rw [hs] at hj ⊢
    simp only
    by_cases hg : a.length = 4 ∧ b.length = 2 ∧ c.length = 2 ∧ allD (a ++ b ++ c) = true
    · rw [if_pos hg]
      obtain ⟨la, lb, lc, hd⟩ := hg
      rw [all3] at hd
      simp only [Bool.and_eq_true] at hd
      have ea : digR a 4 = ((numD a : Nat) : Int) := if_pos ⟨la, hd.1.1⟩
      have eb : digR b 2 = ((numD b : Nat) : Int) := if_pos ⟨lb, hd.1.2⟩
      have ec : digR c 2 = ((numD c : Nat) : Int) := if_pos ⟨lc, hd.2⟩
      rw [ea, eb, ec]
      have hok : (decide ((0 : Int) ≤ ((numD a : Nat) : Int)) && decide ((0 : Int) ≤ ((numD b : Nat) : Int)) && decide ((0 : Int) ≤ ((numD c : Nat) : Int))) = true := by simp
      rw [hok]
      by_cases hz : numD a = 0 ∧ numD b = 0 ∧ numD c = 0
      · rw [if_pos hz]
        refine .inr (.inl ⟨rfl, rfl, ?_⟩)
        have za := (num_zero a 0 hd.1.1 hz.1).2
        have zb := (num_zero b 0 hd.1.2 hz.2.1).2
        have zc := (num_zero c 0 hd.2 hz.2.2).2
        rw [la] at za; rw [lb] at zb; rw [lc] at zc
        rw [← hj, za, zb, zc]; rfl
      · rw [if_neg hz]
        refine .inr (.inr ⟨rfl, rfl, ?_⟩)
        rintro rfl
        have : splitB 45 ZERO = [[48, 48, 48, 48], [48, 48], [48, 48]] := by decide
        rw [this] at hs
        simp only [List.cons.injEq] at hs
        obtain ⟨rfl, rfl, rfl, _⟩ := hs
        exact hz ⟨by decide, by decide, by decide⟩
    · rw [if_neg hg]
      refine .inl ⟨rfl, ?_⟩
      rw [all3] at hg
      by_cases qa : a.length = 4 ∧ allD a = true
      · by_cases qb : b.length = 2 ∧ allD b = true
        · have qc : ¬ (c.length = 2 ∧ allD c = true) := fun qc => hg ⟨qa.1, qb.1, qc.1, by rw [qa.2, qb.2, qc.2]; rfl⟩
          have : digR c 2 = -1 := if_neg qc
          rw [this]; simp
        · have : digR b 2 = -1 := if_neg qb
          rw [this]; simp
      · have : digR a 4 = -1 := if_neg qa
        rw [this]; simp
  · clear hj
    generalize splitB 45 x = fs at h3 ⊢
    match fs, h3 with
    | [], _ => exact .inl ⟨rfl, rfl⟩
    | [_], _ => exact .inl ⟨rfl, rfl⟩
    | [_, _], _ => exact .inl ⟨rfl, rfl⟩
    | [a, b, c], h => exact absurd ⟨a, b, c, rfl⟩ h
    | _ :: _ :: _ :: _ :: _, _ => exact .inl ⟨rfl, rfl⟩
theorem range_cmp (a b : List UInt8) : finP (rangeP a b) = rangeR a b := by
  have ha := end_cmp a
  have hb := end_cmp b
  by_cases h : (endP a).2 = 2 ∨ (endP b).2 = 2 ∨ a = [42] ∧ b = [42]
  · have e1 : rangeP a b = (noP, 2) := if_pos h
    have e2 : rangeR a b = (noP, 2) := by
      refine if_pos ?_
      rcases h with h | h | h
      · left; rcases ha with h' | h' | h'
        · exact h'.2
        · rw [h'.1] at h; exact absurd h (by decide)
        · rw [h'.1] at h; exact absurd h (by decide)
      · right; left; rcases hb with h' | h' | h'
        · exact h'.2
        · rw [h'.1] at h; exact absurd h (by decide)
        · rw [h'.1] at h; exact absurd h (by decide)
      · exact .inr (.inr h)
    rw [e1, e2]; rfl
  · have h5 := h
    simp only [not_or] at h
    have ha := ha.resolve_left fun h' => h.1 h'.1
    have hb := hb.resolve_left fun h' => h.2.1 h'.1
    have oa : (limR a).2 = true := by rcases ha with h' | h'; exact h'.2.1; rw [h'.2.1]
    have ob : (limR b).2 = true := by rcases hb with h' | h'; exact h'.2.1; rw [h'.2.1]
    have h6 : ¬ ((limR a).2 = false ∨ (limR b).2 = false ∨ a = [42] ∧ b = [42]) := by rw [oa, ob]; simpa using h.2.2
    by_cases hz : a = ZERO ∨ b = ZERO
    · have h7 : (endP a).2 ≠ 0 ∨ (endP b).2 ≠ 0 := by
        rcases hz with hz | hz
        · left; rcases ha with h' | h'
          · rw [h'.1]; decide
          · exact absurd hz h'.2.2
        · right; rcases hb with h' | h'
          · rw [h'.1]; decide
          · exact absurd hz h'.2.2
      have e1 : rangeP a b = (noP, 1) := (if_neg h5).trans (if_pos h7)
      have e2 : rangeR a b = (noP, 1) := (if_neg h6).trans (if_pos hz)
      rw [e1, e2]; rfl
    · have hz' := hz
      simp only [not_or] at hz
      have ha := ha.resolve_left fun h' => hz.1 h'.2.2
      have hb := hb.resolve_left fun h' => hz.2 h'.2.2
      have h7 : ¬ ((endP a).2 ≠ 0 ∨ (endP b).2 ≠ 0) := by rw [ha.1, hb.1]; decide
      have e1 : rangeP a b = (⟨0, 0, 0, 0, 0, (endP a).1, (endP b).1⟩, 0) := (if_neg h5).trans (if_neg h7)
      have e2 : rangeR a b = finR ⟨0, 0, 0, 0, 0, (limR a).1, (limR b).1⟩ := (if_neg h6).trans (if_neg hz')
      rw [e1, e2, ha.2.1, hb.2.1]
      rfl
theorem parse_same (s : List UInt8) : ansP s = refA s := by
  rw [ansP_eq]
  unfold parseP
  cases hc : (cutS TO s).2.2
  · rw [if_neg (by simp), words_cmp]
    unfold refA
    split
    · rename_i a t b hs
      by_cases ht : t = TWO
      · subst ht
        have hj := join_split 32 s
        rw [hs] at hj
        have e : s = a ++ (TO ++ b) := by rw [← hj]; rfl
        have ha := not_mem_split 32 s a (by rw [hs]; simp)
        rw [e, cut_of ha] at hc
        cases hc
      · rw [if_neg ht, hs]
    · rfl
  · rw [if_pos rfl, range_cmp]
    have e := cut_found hc
    obtain ⟨a, b, h1, h2⟩ : ∃ a b, (cutS TO s).1 = a ∧ (cutS TO s).2.1 = b := ⟨_, _, rfl, rfl⟩
    rw [h1, h2] at e ⊢
    unfold refA
    rw [e, split_to]
    have hab : ((32 : UInt8) ∉ a ∧ (32 : UInt8) ∉ b) ∨ ((32 : UInt8) ∈ a ∨ (32 : UInt8) ∈ b) := by
      by_cases x : (32 : UInt8) ∈ a
      · exact .inr (.inl x)
      · by_cases y : (32 : UInt8) ∈ b
        · exact .inr (.inr y)
        · exact .inl ⟨x, y⟩
    rcases hab with ⟨ha, hb⟩ | hab
    · rw [split_one 32 a ha, split_one 32 b hb]
      simp
    · have hr : rangeR a b = (noP, 2) := by
        rw [← range_cmp]
        have : rangeP a b = (noP, 2) := by
          unfold rangeP
          rw [if_pos]
          rcases hab with h | h
          · left; rw [end_blank h]
          · right; left; rw [end_blank h]
        rw [this]; rfl
      rw [hr]
      have hlen : splitB 32 a ++ TWO :: splitB 32 b ≠ [] := by simp
      obtain ⟨z, zs, hz⟩ : ∃ z zs, splitB 32 a = z :: zs := by
        cases e : splitB 32 a with
        | nil => exact absurd e (splitB_ne 32 a)
        | cons z zs => exact ⟨z, zs, rfl⟩
      have hw : wordsR (splitB 32 a ++ TWO :: splitB 32 b) = (noP, 2) := by
        rw [hz]; exact wordsR_two z (by simp)
      have hl : (splitB 32 a ++ TWO :: splitB 32 b).length ≠ 3 := by
        rw [List.length_append, List.length_cons, splitB_len, splitB_len]
        rcases hab with h | h
        · have := List.count_pos_iff.2 h; omega
        · have := List.count_pos_iff.2 h; omega
      generalize splitB 32 a ++ TWO :: splitB 32 b = ws at *
      match ws, hl with
      | [], _ => exact hw.symm
      | [_], _ => exact hw.symm
      | [_, _], _ => exact hw.symm
      | [_, _, _], h => exact absurd rfl h
      | _ :: _ :: _ :: _ :: _, _ => exact hw.symm
end T06


namespace T06
variable [Mm]
open Go Fw Go.Proofs
set_option maxRecDepth 100000
theorem p4_all : ∀ n : Fin 200, numD (pad4 (2000 + n.val)) = 2000 + n.val ∧ allD (pad4 (2000 + n.val)) = true := by decide +kernel
theorem p2_all : ∀ n : Fin 100, numD (pad2 n.val) = n.val ∧ allD (pad2 n.val) = true := by decide +kernel
theorem year_back : ∀ n : Fin 200, yearP (yearT ((2000 + n.val : Nat) : Int)) = (((2000 + n.val : Nat) : Int), 0) := by decide +kernel
theorem mon_back : ∀ n : Fin 15, monP (monT (n.val : Int)) = ((n.val : Int), 0) := by decide +kernel
theorem day_back : ∀ n : Fin 35, dayP (dayT (n.val : Int)) = ((n.val : Int), 0) := by decide +kernel
theorem wd_back : ∀ n : Fin 8, n.val ≠ 0 → wdOf (wordOf (n.val : Int)) = (n.val : Int) := by decide +kernel
theorem mon_clean : ∀ n : Fin 15, (45 : UInt8) ∉ monT (n.val : Int) ∧ (32 : UInt8) ∉ monT (n.val : Int) := by decide +kernel
theorem day_clean : ∀ n : Fin 35, (45 : UInt8) ∉ dayT (n.val : Int) ∧ (32 : UInt8) ∉ dayT (n.val : Int) := by decide +kernel
theorem year_clean : ∀ n : Fin 200, (45 : UInt8) ∉ yearT ((2000 + n.val : Nat) : Int) ∧ (32 : UInt8) ∉ yearT ((2000 + n.val : Nat) : Int) := by decide +kernel
theorem word_clean : ∀ n : Fin 8, (32 : UInt8) ∉ wordOf (n.val : Int) ∧ wordOf (n.val : Int) ≠ TWO := by decide +kernel
def weW (k : Int) : List UInt8 := if k = 6 then LAST else [UInt8.ofNat (48 + k.toNat)]
theorem we_back : ∀ n : Fin 7, n.val ≠ 0 → weekV (weW (n.val : Int)) = (n.val : Int) ∧ weekBad (weW (n.val : Int)) = false ∧ (32 : UInt8) ∉ weW (n.val : Int) ∧ weW (n.val : Int) ≠ TWO ∧ weT (n.val : Int) = 32 :: (WEEK ++ 32 :: weW (n.val : Int)) := by decide +kernel
theorem end_back (t : Dt) (h : t = noD ∨ chkD t = 0) : endP (endT t) = (t, 0) ∧ (32 : UInt8) ∉ endT t ∧ (t ≠ noD → endT t ≠ [42]) := by
  by_cases ht : t = noD
  · subst ht; exact ⟨by decide, by decide, fun h => absurd rfl h⟩
  · obtain ⟨hv, hy⟩ := chkD_ok (h.resolve_left ht)
    have v1 := hv.y; have v2 := hv.m1; have v3 := hv.m2; have v4 := hv.d1; have v5 := hv.d2; have v6 := (din_pos (y := t.y) v2 v3).2
    obtain ⟨y, m, d⟩ := t
    simp only at v1 v2 v3 v4 v5 v6 hy
    have e : endT ⟨y, m, d⟩ = pad4 y.toNat ++ 45 :: (pad2 m.toNat ++ 45 :: pad2 d.toNat) := by
      unfold endT
      rw [if_neg ht]
      simp
    have a1 := p4_all ⟨y.toNat - 2000, by omega⟩
    have a2 := p2_all ⟨m.toNat, by omega⟩
    have a3 := p2_all ⟨d.toNat, by omega⟩
    simp only at a1 a2 a3
    rw [show 2000 + (y.toNat - 2000) = y.toNat by omega] at a1
    have c1 := all_no dg45 a1.2; have c2 := all_no dg45 a2.2; have c3 := all_no dg45 a3.2
    have b1 := all_no dg32 a1.2; have b2 := all_no dg32 a2.2; have b3 := all_no dg32 a3.2
    have hs : splitB 45 (endT ⟨y, m, d⟩) = [pad4 y.toNat, pad2 m.toNat, pad2 d.toNat] := by
      rw [e, split_app, split_app, split_one 45 _ c1, split_one 45 _ c2, split_one 45 _ c3]; rfl
    have hl : (endT ⟨y, m, d⟩).length = 10 := by rw [e]; simp [pad4_len, pad2_len]
    have hne : endT ⟨y, m, d⟩ ≠ [42] := by intro e; rw [e] at hl; simp at hl
    refine ⟨?_, ?_, fun _ => hne⟩
    · unfold endP
      rw [if_neg hne, hs]
      simp only
      rw [if_pos ⟨pad4_len _, pad2_len _, pad2_len _, by rw [all3, a1.2, a2.2, a3.2]; rfl⟩, a1.1, a2.1, a3.1, if_neg (by omega)]
      rw [show ((y.toNat : Nat) : Int) = y by omega, show ((m.toNat : Nat) : Int) = m by omega, show ((d.toNat : Nat) : Int) = d by omega]
    · rw [e]
      simp only [List.mem_append, List.mem_cons, not_or]
      exact ⟨b1, by decide, b2, by decide, b3⟩
theorem cut_no {s : List UInt8} {t : List UInt8} {f : List (List UInt8)} (hs : splitB 32 s = t :: f) (hf : TWO ∉ f) : (cutS TO s).2.2 = false := by
  cases hc : (cutS TO s).2.2
  · rfl
  · exfalso
    have e := cut_found hc
    obtain ⟨a, b, h1, h2⟩ : ∃ a b, (cutS TO s).1 = a ∧ (cutS TO s).2.1 = b := ⟨_, _, rfl, rfl⟩
    rw [h1, h2] at e
    rw [e, split_to] at hs
    obtain ⟨z, zs, hz⟩ : ∃ z zs, splitB 32 a = z :: zs := by
      cases e : splitB 32 a with
      | nil => exact absurd e (splitB_ne 32 a)
      | cons z zs => exact ⟨z, zs, rfl⟩
    rw [hz] at hs
    have := (List.cons.inj hs).2
    apply hf
    rw [← this]; simp
theorem text_back (p : Pat) (hp : chkP p = 0) : ansP (textB p) = (p, 0) := by
  rw [ansP_eq]
  have hfin : parseP (textB p) = (p, 0) → finP (parseP (textB p)) = (p, 0) := by
    intro h; rw [h]; exact (if_pos rfl).trans (if_pos hp)
  apply hfin
  unfold textB parseP
  cases hr : isR p
  · simp only [Bool.false_eq_true, if_false]
    have hbf := chk_fields hp hr
    obtain ⟨f1, f2, f3, f4, f5, f6, f7, f8⟩ := badF_f hbf
    have hy : p.y = 0 ∨ 2000 ≤ p.y ∧ p.y ≤ 2199 := by
      apply Classical.byContradiction; intro hc
      have : badF p = true := by unfold badF; simp; omega
      rw [hbf] at this; cases this
    have hft : p.f = noD ∧ p.t = noD := by
      unfold isR at hr
      simpa using hr
    obtain ⟨y, m, d, w, k, ff, tt⟩ := p
    simp only at f1 f2 f3 f4 f5 f6 f7 f8 hy hft
    obtain ⟨rfl, rfl⟩ := hft
    obtain ⟨m, rfl⟩ : ∃ n : Nat, m = (n : Int) := ⟨m.toNat, by omega⟩
    obtain ⟨d, rfl⟩ : ∃ n : Nat, d = (n : Int) := ⟨d.toNat, by omega⟩
    obtain ⟨w, rfl⟩ : ∃ n : Nat, w = (n : Int) := ⟨w.toNat, by omega⟩
    obtain ⟨k, rfl⟩ : ∃ n : Nat, k = (n : Int) := ⟨k.toNat, by omega⟩
    have my : yearP (yearT y) = (y, 0) ∧ (45 : UInt8) ∉ yearT y ∧ (32 : UInt8) ∉ yearT y := by
      rcases hy with rfl | ⟨a, b⟩
      · decide
      · have e1 := year_back ⟨y.toNat - 2000, by omega⟩
        have e2 := year_clean ⟨y.toNat - 2000, by omega⟩
        simp only at e1 e2
        rw [show ((2000 + (y.toNat - 2000) : Nat) : Int) = y by omega] at e1 e2
        exact ⟨e1, e2⟩
    have mm := mon_back ⟨m, by omega⟩
    have md := day_back ⟨d, by omega⟩
    have cm := mon_clean ⟨m, by omega⟩
    have cd := day_clean ⟨d, by omega⟩
    have cw := word_clean ⟨w, by omega⟩
    have bw := wd_back ⟨w, by omega⟩
    have bk := we_back ⟨k, by omega⟩
    simp only at mm md cm cd cw bw bk
    have h45 : splitB 45 (ymdT ⟨y, m, d, w, k, noD, noD⟩) = [yearT y, monT m, dayT d] := by
      have e : ymdT ⟨y, m, d, w, k, noD, noD⟩ = yearT y ++ 45 :: (monT m ++ 45 :: dayT d) := by unfold ymdT; simp
      rw [e, split_app, split_app, split_one 45 _ my.2.1, split_one 45 _ cm.1, split_one 45 _ cd.1]; rfl
    have h32 : (32 : UInt8) ∉ ymdT ⟨y, m, d, w, k, noD, noD⟩ := by
      unfold ymdT
      simp only [List.mem_append, List.mem_cons, List.not_mem_nil, not_or, or_false]
      exact ⟨⟨⟨⟨my.2.2, by decide⟩, cm.2⟩, by decide⟩, cd.2⟩
    generalize hZ : ymdT ⟨y, m, d, w, k, noD, noD⟩ = z at *
    -- the words behind the date
    have hws : ∀ f, splitB 32 (z ++ wkT w ++ weT k) = z :: f → TWO ∉ f → tailP (wkS f).1 (wkS f).2 (yearT y) (monT m) (dayT d) = (⟨y, m, d, w, k, noD, noD⟩, 0) → (if (cutS TO (z ++ wkT w ++ weT k)).2.2 = true then rangeP (cutS TO (z ++ wkT w ++ weT k)).1 (cutS TO (z ++ wkT w ++ weT k)).2.1 else wordsP (splitB 32 (z ++ wkT w ++ weT k))) = (⟨y, m, d, w, k, noD, noD⟩, 0) := by
      intro f h1 h2 h3
      rw [cut_no h1 h2, if_neg (by simp), h1]
      unfold wordsP
      simp only [h45]
      exact h3
    have hgood : ∀ kk : Int, goodP w kk (yearT y) (monT m) (dayT d) = (⟨y, m, d, w, kk, noD, noD⟩, 0) := by
      intro kk
      unfold goodP
      rw [my.1, mm, md]
      rfl
    have hWEEK : wdOf WEEK = 0 := by decide
    have hW32 : (32 : UInt8) ∉ WEEK := by decide
    have hWT : WEEK ≠ TWO := by decide
    by_cases hw : w = 0
    · subst hw
      by_cases hk : k = 0
      · subst hk
        refine hws [] ?_ (by simp) (hgood 0)
        have e : z ++ wkT ((0 : Nat) : Int) ++ weT ((0 : Nat) : Int) = z := by
          rw [show wkT ((0 : Nat) : Int) = [] by decide, show weT ((0 : Nat) : Int) = [] by decide]; simp
        rw [e, split_one 32 z h32]
      · obtain ⟨k1, k2, k3, k4, k5⟩ := bk hk
        refine hws [WEEK, weW k] ?_ ?_ ?_
        · rw [show wkT ((0 : Nat) : Int) = [] by decide, k5, List.append_nil, split_app, split_app, split_one 32 z h32, split_one 32 _ hW32, split_one 32 _ k3]; rfl
        · simp only [List.mem_cons, List.not_mem_nil, or_false, not_or]
          exact ⟨Ne.symm hWT, Ne.symm k4⟩
        · have e : wkS [WEEK, weW k] = (0, [WEEK, weW k]) := by unfold wkS; simp only [hWEEK]; rfl
          rw [e, tail_two, if_pos rfl, if_neg (by rw [k2]; simp), k1]
          exact hgood k
    · have hwk : wkT (w : Int) = 32 :: wordOf w := by unfold wkT; rw [if_neg (by omega)]
      have hwd : wdOf (wordOf (w : Int)) ≠ 0 := by rw [bw hw]; omega
      by_cases hk : k = 0
      · subst hk
        refine hws [wordOf w] ?_ ?_ ?_
        · rw [show weT ((0 : Nat) : Int) = [] by decide, List.append_nil, hwk, split_app, split_one 32 z h32, split_one 32 _ cw.1]; rfl
        · simp only [List.mem_cons, List.not_mem_nil, or_false]
          exact Ne.symm cw.2
        · have e : wkS [wordOf (w : Int)] = ((w : Int), []) := by unfold wkS; simp only; rw [if_pos hwd, bw hw]
          rw [e]
          exact hgood 0
      · obtain ⟨k1, k2, k3, k4, k5⟩ := bk hk
        refine hws [wordOf w, WEEK, weW k] ?_ ?_ ?_
        · rw [hwk, k5, List.append_assoc, List.cons_append, split_app, split_app, split_app, split_one 32 z h32, split_one 32 _ cw.1, split_one 32 _ hW32, split_one 32 _ k3]; rfl
        · simp only [List.mem_cons, List.not_mem_nil, or_false, not_or]
          exact ⟨Ne.symm cw.2, Ne.symm hWT, Ne.symm k4⟩
        · have e : wkS [wordOf (w : Int), WEEK, weW k] = ((w : Int), [WEEK, weW k]) := by unfold wkS; simp only; rw [if_pos hwd, bw hw]
          rw [e, tail_two, if_pos rfl, if_neg (by rw [k2]; simp), k1]
          exact hgood k
  · simp only [if_true]
    obtain ⟨g1, g2⟩ := chk_ends hp hr
    obtain ⟨e1, e2, e3⟩ := end_back p.f (by by_cases h : p.f = noD <;> simp [h]; exact g1 h)
    obtain ⟨e4, e5, e6⟩ := end_back p.t (by by_cases h : p.t = noD <;> simp [h]; exact g2 h)
    have hc := cut_of (b := endT p.t) e2
    have e : endT p.f ++ [32, 116, 111, 32] ++ endT p.t = endT p.f ++ (TO ++ endT p.t) := by rw [List.append_assoc]; rfl
    rw [e, hc]
    simp only [if_true]
    have hany : anyF p = false := by
      cases h : anyF p
      · rfl
      · unfold chkP at hp
        rw [if_neg (by simp [hr]), if_pos h] at hp
        cases hp
    unfold anyF at hany
    simp only [Bool.or_eq_false_iff, decide_eq_false_iff_not, ne_eq, Decidable.not_not] at hany
    unfold rangeP
    rw [if_neg, if_neg (by rw [e1, e4]; simp), e1, e4]
    · obtain ⟨y, m, d, w, k, ff, tt⟩ := p
      simp only at hany
      obtain ⟨⟨⟨⟨rfl, rfl⟩, rfl⟩, rfl⟩, rfl⟩ := hany
      rfl
    · rw [e1, e4]
      rintro (h | h | ⟨h, h'⟩)
      · revert h; simp
      · revert h; simp
      · unfold isR at hr
        simp only [Bool.or_eq_true, decide_eq_true_eq] at hr
        rcases hr with hr | hr
        · exact e3 hr h
        · exact e6 hr h'
end T06


namespace T06
variable [Mm]
open Go Fw Go.Proofs
set_option maxRecDepth 100000
set_option maxHeartbeats 8000000
theorem up_more (g : Nat → Bool) (k : Nat) : ∀ (n d i : Nat), up g n d = some i → up g (n + k) d = some i
  | 0, d, i, h => by cases h
  | n + 1, d, i, h => by
    rw [Nat.add_right_comm]
    simp only [up] at h ⊢
    split
    · rename_i hg; rw [if_pos hg] at h; exact h
    · rename_i hg; rw [if_neg hg] at h; exact up_more g k n (d + 1) i h
def pX : Pat := ⟨0, 12, 25, 0, 0, noD, noD⟩
def pF : Pat := ⟨0, 2, 30, 0, 0, noD, noD⟩
def pL : Pat := ⟨0, 2, 32, 0, 0, noD, noD⟩
def pW : Pat := ⟨0, 0, 0, 1, 1, noD, noD⟩
theorem x_first : up (gT pX) 360 0 = some 359 := by decide +kernel
theorem x_next : srchB pX 0 (up (gT pX) (73049 - (0 : Int).toNat) (0 : Int).toNat) = (359, 0) := by
  have h := up_more (gT pX) 72689 360 0 359 x_first
  have e : (73049 - (0 : Int).toNat) = 360 + 72689 := rfl
  rw [e, show (0 : Int).toNat = 0 from rfl, h]
  decide
theorem f_no (i : Nat) (hi : i < 73049) : gT pF i = false := by
  obtain ⟨hv, hd⟩ := ofB_ok (day := (i : Int)) (by omega) (by omega)
  unfold gT testB
  rw [if_neg (by decide)]
  unfold testD
  generalize ofB (i : Int) = t at *
  rw [if_neg (by simp [pF])]
  by_cases hm : t.m = 2
  · rw [if_neg (by simp [fitM, pF, hm]), if_pos]
    have h5 := hv.d2
    have : dinB t.y t.m ≤ 29 := by
      unfold dinB lenM
      rw [hm, if_neg (by omega)]
      split
      · omega
      · rw [if_pos rfl]; omega
    have h30 : (30 : Int) ≠ t.d := by omega
    unfold fitD
    simp [pF, h30]
  · rw [if_pos]
    have h2 : (2 : Int) ≠ t.m := fun e => hm e.symm
    simp [fitM, pF, h2]
theorem f_next : srchB pF 0 (up (gT pF) (73049 - (0 : Int).toNat) (0 : Int).toNat) = (0, 9) := by
  have h : up (gT pF) 73049 0 = none := (up_none (gT pF) 73049 0).2 fun i _ h => f_no i (by omega)
  have e : (73049 - (0 : Int).toNat) = 73049 := rfl
  rw [e, show (0 : Int).toNat = 0 from rfl, h]
  decide
theorem x_text : textB pX = [42, 45, 49, 50, 45, 50, 53] := by decide
theorem w_text : textB pW = [42, 45, 42, 45, 42, 32, 109, 111, 110, 32, 119, 101, 101, 107, 32, 49] := by decide
theorem l_mat : matB pL 59 = true := by decide +kernel
theorem c11 (s : St) (K : AV → St → Prop) : CallW cx 11 [] s K = K (.bool true) s := by
  refine CallW.eq (CallW.fn' (fn := ir11) rfl rfl (by kernel_rfl) ir11.eq_1 ?_) K
  have h1 := text_back pX (by decide)
  rw [x_text] at h1
  have k1 := fun st K => c17 [42, 45, 49, 50, 45, 50, 53] (by decide) pX 0 h1 st K
  have k2 := fun st K => c20 pX 0 st K
  rw [x_next] at k2
  have k3 := fun st K => c16 pW st K
  rw [if_pos (show chkP pW = 0 by decide), w_text] at k3
  have k4 := fun st K => c20 pF 0 st K
  rw [f_next] at k4
  have k5 := fun st K => c14 pL 59 st K
  rw [l_mat] at k5
  simp only [pX, pF, pL, pW, noD] at k1 k2 k3 k4 k5
  have hmin : min s.next (s.next + 1) = s.next := by omega
  simp +contextual -implicitDefEqProofs (maxSteps := 4000000) only [go_sem, ↓reduceIte, Nat.reduceEqDiff, Nat.reduceAdd, Int.reduceLE, Int.reduceLT, Int.reduceEq, Int.reduceToNat, Nat.reduceMod, Nat.reduceDiv, UInt8.reduceToNat, Nat.reduceLT, k1, k2, k3, k4, k5, hmin]
end T06


namespace T06
variable [Mm]
open Go Fw Go.Proofs Go.RowKit
set_option maxRecDepth 100000
set_option maxHeartbeats 8000000
theorem same_d (u : Int) : decide (u = u) = true := by simp
theorem same_i (u : Int) : (u = u) = True := by simp
theorem law5 (s : List UInt8) : CallW cx 5 [.str s] { heap := [], next := 0, low := 0 } fun v _ => v = .bool true := by
  refine CallW.fn' (fn := ir5) rfl rfl (by kernel_rfl) ir5.eq_1 ?_
  by_cases hl : 100 < s.length
  · have d1 : decide ((100 : Int) < (s.length : Int)) = true := decide_eq_true (by omega)
    simp +contextual -implicitDefEqProofs (maxSteps := 4000000) only [go_sem, ↓reduceIte, Nat.reduceEqDiff, Nat.reduceAdd, Int.reduceLE, Int.reduceLT, Int.reduceEq, Int.reduceToNat, Nat.reduceMod, Nat.reduceDiv, UInt8.reduceToNat, Nat.reduceLT, c11, d1]
  · have d1 : decide ((100 : Int) < (s.length : Int)) = false := decide_eq_false (by omega)
    obtain ⟨q, r, hq⟩ : ∃ q r, ansP s = (q, r) := ⟨_, _, rfl⟩
    have k1 := fun st K => c17 s (by omega) q r hq st K
    have k2 := fun st K => c19 s (by omega) q r ((parse_same s).symm.trans hq) st K
    simp +contextual -implicitDefEqProofs (maxSteps := 4000000) only [go_sem, ↓reduceIte, Nat.reduceEqDiff, Nat.reduceAdd, Int.reduceLE, Int.reduceLT, Int.reduceEq, Int.reduceToNat, Nat.reduceMod, Nat.reduceDiv, UInt8.reduceToNat, Nat.reduceLT, c11, d1, k1, k2, same_d, same_i]
    rw [LeaveW_flat rfl (Nat.zero_le _)]
theorem hlaw5 (as0 : List AV) (h : TyArgs Tryz.prog Tryz.f5.params.toList as0) : ∃ k s', callF cx k 5 as0 st0 = some (.bool true, s') := by
  obtain ⟨a1, r1, rfl, h1, h6⟩ : ∃ a1 r1, as0 = a1 :: r1 ∧ TyArg Tryz.prog 9 a1 ∧ r1 = [] := h
  subst h6
  obtain ⟨s, rfl, _⟩ := TyArg_string Tryz.underlying9 h1
  obtain ⟨k', v, s', h9, rfl⟩ := law5 s
  exact ⟨k', s', h9⟩
end T06


namespace T06
open Go Fw Go.Proofs Go.RowKit
set_option maxRecDepth 100000
def strData {H : Type} (zs : List (List UInt8)) : DataW H := .agg (zs.map fun z => .lit (.string z))
theorem cells_of_strs {H : Type} {enc : TypeId × Value → H} {P : Program} {w : World} {base : Nat} {sp : Nat → Bool} {held : Bool} {fuel : Nat} {t e : TypeId} {n : Nat} {cs : List Value} {zs : List (List UInt8)} {p : List MemPlace}
    (ht : P.underlying t = some (.array n e)) (he : P.underlying e = some .string) (hce : P.cellsOf e = 1) (hct : P.cellsOf t = n)
    (h : DataW.trod enc P w base sp held fuel t cs = some (strData zs, p)) : cs = zs.map fun z => Value.string ⟨z.toArray⟩ := by
  cases fuel with
  | zero => simp [DataW.trod] at h
  | succ fuel =>
    simp only [DataW.trod, ht, hce, hct, Nat.mul_one] at h
    split at h
    · rename_i hl
      obtain ⟨xs, hm, hx⟩ := Option.map_eq_some_iff.1 h
      have hxs : xs.map (·.1) = zs.map fun z => (DataW.lit (.string z) : DataW H) := by
        have := congrArg Prod.fst hx
        simpa [strData] using this
      have hxl : xs.length = n := by simpa using Lib.mapM_length hm
      have hzl : zs.length = n := by
        have := congrArg List.length hxs
        simp at this
        omega
      apply List.ext_getElem?
      intro i
      by_cases hi : i < n
      · obtain ⟨b, hb, hf⟩ := Lib.mapM_at hm i i (by simp [hi])
        obtain ⟨s, hcut, rfl, _⟩ := DataW.trod_string he hf
        have h1 : cs[i]? = some (.string s) := by
          have := congrArg (·[0]?) hcut
          simpa [List.getElem?_take, List.getElem?_drop] using this
        have h2 : (xs.map (·.1))[i]? = some (DataW.lit (.string s.data.toList) : DataW H) := by simp [hb]
        rw [hxs] at h2
        simp only [List.getElem?_map, Option.map_eq_some_iff, DataW.lit.injEq, Lit.string.injEq] at h2
        obtain ⟨z', hz', rfl⟩ := h2
        rw [h1, List.getElem?_map, hz']
        rfl
      · rw [List.getElem?_eq_none (by omega), List.getElem?_eq_none (by simp; omega)]
    · cases h
theorem laid_strs {P : Program} {W : World} {L : List (String × DataW Unit)} (h : laidMetH P L W) {name : String} {zs : List (List UInt8)} (hm : (name, strData zs) ∈ L) {g : Nat} {t e : TypeId} {n : Nat}
    (hg : P.globalNamed name = some g) (hty : (P.globals[g]?).map (·.type) = some t) (ht : P.underlying t = some (.array n e)) (he : P.underlying e = some .string) (hce : P.cellsOf e = 1) (hct : P.cellsOf t = n) :
    alAll (fun _ => false) (zs.map AV.str) = true ∧ RC (firstGh W) (zs.map AV.str) g 0 := by
  obtain ⟨g', t', cs, fuel, p, hg', ht', hvar, hd⟩ := laidH_mem h hm rfl
  obtain rfl := Option.some.inj (hg.symm.trans hg')
  obtain rfl := Option.some.inj (hty.symm.trans ht')
  refine ⟨(alAll_iff _).2 fun a ha => ?_, ?_⟩
  · obtain ⟨z, _, rfl⟩ := List.mem_map.1 ha; rfl
  · have hv : W.var? P name = some (zs.map fun z => Value.string ⟨z.toArray⟩).toArray := by rw [hvar, ← cells_of_strs ht he hce hct hd]
    have key : ∀ (n i : Nat), i + n = zs.length → RC (firstGh W) ((zs.drop i).map AV.str) g i := by
      intro n
      induction n with
      | zero => intro i hi; rw [List.drop_eq_nil_of_le (by omega)]; simp [RC]
      | succ n ih =>
        intro i hi
        have hlt : i < zs.length := by omega
        rw [List.drop_eq_getElem_cons hlt, List.map_cons]
        simp only [RC]
        refine ⟨⟨.string ⟨zs[i].toArray⟩, ?_, by simp [R]⟩, ih (i + 1) (by omega)⟩
        have := World.var?_cell hg hv i
        have h2 : W.cell? ⟨g, i, none⟩ = some (.string ⟨zs[i].toArray⟩) := by simpa [List.getD, hlt] using this
        exact h2
    simpa using key zs.length 0 (by omega)
theorem hcell (w : World) (h : w.ShapedOpen Tryz.prog) : ∃ m, w.cell? ⟨2, 0, none⟩ = some (.int .i64 m) :=
  Go.Proofs.cell_of_shapedOpen_int (zero := #[.int .i64 0]) (t := 3) h (of_decide_eq_true (by kernel_rfl)) (by kernel_rfl) rfl (by kernel_rfl) (by kernel_rfl) Tryz.underlying3
open Go.Proofs.YtaoeokelalmcmaaGreatDoor in
theorem hgl0 {L : List (String × DataW Unit)} (h1 : ("plenum/pattern.words", (Rows.laid_plenum_pattern_words : DataW Unit)) ∈ L) (h2 : ("plenum/civil.lengths", (Rows.laid_plenum_civil_lengths : DataW Unit)) ∈ L) (h3 : ("internal/strconv.uint64pow10", (Rows.laid_internal_strconv_uint64pow10 : DataW Unit)) ∈ L)
    (m : Int) (W : World) (h : laidMetH Tryz.prog L W) (hm : W.cell? ⟨2, 0, none⟩ = some (.int .i64 m)) : ∀ n cs, gls m n = some cs → alAll (fun _ => false) cs = true ∧ RC (firstGh W) cs n 0 := by
  intro n cs hn
  unfold gls at hn
  split at hn <;> cases hn
  · exact laid_strs (name := "plenum/pattern.words") (zs := words) h h1 (by kernel_rfl) (by kernel_rfl) Tryz.underlying65 Tryz.underlying9 (by kernel_rfl) (by kernel_rfl)
  · exact laid_tab (name := "plenum/civil.lengths") (k := .i64) (zs := lengths) h h2 (by kernel_rfl) (by kernel_rfl) Tryz.underlying92 Tryz.underlying3 (by kernel_rfl) (by kernel_rfl)
  · refine ⟨rfl, ?_⟩
    simp only [RC]
    exact ⟨⟨.int .i64 m, hm, by simp [R]⟩, trivial⟩
  · exact laid_tab (name := "internal/strconv.uint64pow10") (k := .u64) (zs := pows) h h3 (by kernel_rfl) (by kernel_rfl) Tryz.underlying137 Tryz.underlying114 (by kernel_rfl) (by kernel_rfl)
end T06
