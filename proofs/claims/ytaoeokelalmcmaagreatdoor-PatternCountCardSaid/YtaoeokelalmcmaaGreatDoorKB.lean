/- Parts of the proof, one behind the other. -/
import Derived.Test.YtaoeokelalmcmaaGreatDoorKA
import Derived.Test.YtaoeokelalmcmaaGreatDoorFwX
set_option linter.unusedSimpArgs false
set_option linter.unusedVariables false
set_option linter.unusedSectionVars false

namespace T06
structure Dt where
  y : Int
  m : Int
  d : Int
  deriving DecidableEq
def leapB (y : Int) : Bool := (decide (y.tmod 4 = 0) && decide (y.tmod 100 ≠ 0)) || decide (y.tmod 400 = 0)
def lenM (m : Int) : Int := if m = 2 then 28 else if m = 4 ∨ m = 6 ∨ m = 9 ∨ m = 11 then 30 else 31
def dinB (y m : Int) : Int := if m < 1 ∨ m > 12 then 0 else if m = 2 ∧ leapB y = true then 29 else lenM m
def begB (y : Int) : Int := 365 * (y - 2000) + ((y - 1).tdiv 4 - (y - 1).tdiv 100 + (y - 1).tdiv 400 - 484)
def mSum (y : Int) : Nat → Int
  | 0 => 0
  | k + 1 => mSum y k + dinB y ((k : Int) + 1)
def dayB (t : Dt) : Int := begB t.y + mSum t.y (t.m.toNat - 1) + t.d - 1
structure Valid (t : Dt) : Prop where
  y : 2000 ≤ t.y
  m1 : 1 ≤ t.m
  m2 : t.m ≤ 12
  d1 : 1 ≤ t.d
  d2 : t.d ≤ dinB t.y t.m
theorem beg_e {y : Int} (h : 1 ≤ y) : begB y = 365 * (y - 2000) + ((y - 1) / 4 - (y - 1) / 100 + (y - 1) / 400 - 484) := by
  unfold begB
  rw [Int.tdiv_eq_ediv_of_nonneg (by omega), Int.tdiv_eq_ediv_of_nonneg (by omega), Int.tdiv_eq_ediv_of_nonneg (by omega)]
theorem leap_iff {y : Int} (h : 0 ≤ y) : leapB y = true ↔ (y % 4 = 0 ∧ y % 100 ≠ 0) ∨ y % 400 = 0 := by
  unfold leapB
  rw [Int.tmod_eq_emod_of_nonneg h, Int.tmod_eq_emod_of_nonneg h, Int.tmod_eq_emod_of_nonneg h]
  simp
theorem beg_step {y : Int} (h : 1 ≤ y) : begB (y + 1) = begB y + 365 + (if leapB y = true then 1 else 0) := by
  rw [beg_e h, beg_e (by omega)]
  split
  · rename_i hl
    rw [leap_iff (by omega)] at hl
    omega
  · rename_i hl
    rw [leap_iff (by omega)] at hl
    omega
theorem beg_mono {a b : Int} (h : 1 ≤ a) (hab : a ≤ b) : begB a ≤ begB b := by
  rw [beg_e h, beg_e (by omega)]; omega
theorem din_pos {y m : Int} (h1 : 1 ≤ m) (h2 : m ≤ 12) : 28 ≤ dinB y m ∧ dinB y m ≤ 31 := by
  unfold dinB lenM
  rw [if_neg (by omega)]
  split
  · omega
  split
  · omega
  split <;> omega
theorem din_nn (y m : Int) : 0 ≤ dinB y m := by
  unfold dinB lenM
  split
  · omega
  split
  · omega
  split
  · omega
  split <;> omega
theorem mSum_12 (y : Int) : mSum y 12 = 365 + (if leapB y = true then 1 else 0) := by
  cases h : leapB y <;> simp [mSum, dinB, lenM, h]
theorem mSum_mono (y : Int) {a b : Nat} (h : a ≤ b) : mSum y a ≤ mSum y b := by
  induction h with
  | refl => exact Int.le_refl _
  | @step m _ ih => simp only [mSum]; have := din_nn y ((m : Int) + 1); omega
theorem mSum_nn (y : Int) (a : Nat) : 0 ≤ mSum y a := mSum_mono y (Nat.zero_le a)
theorem mSum_m {y m : Int} (h1 : 1 ≤ m) : mSum y (m.toNat - 1) + dinB y m = mSum y m.toNat := by
  obtain ⟨k, rfl⟩ : ∃ k : Nat, m = (k : Int) + 1 := ⟨(m - 1).toNat, by omega⟩
  have : ((k : Int) + 1).toNat = k + 1 := by omega
  rw [this]; rfl
theorem day_lo {t : Dt} (h : Valid t) : begB t.y ≤ dayB t := by
  have := mSum_nn t.y (t.m.toNat - 1); have := h.d1; unfold dayB; omega
theorem day_hi {t : Dt} (h : Valid t) : dayB t < begB (t.y + 1) := by
  have hy := h.y
  have h1 := mSum_m (y := t.y) h.m1
  have h2 := mSum_mono t.y (show t.m.toNat ≤ 12 by have := h.m2; omega)
  rw [mSum_12] at h2
  rw [beg_step (by omega)]
  have := h.d2
  unfold dayB; omega
theorem date_one {a b : Dt} (ha : Valid a) (hb : Valid b) (h : dayB a = dayB b) : a = b := by
  have ya := ha.y
  have yb := hb.y
  have hy : a.y = b.y := by
    have a1 := day_lo ha; have a2 := day_hi ha; have b1 := day_lo hb; have b2 := day_hi hb
    rcases Int.lt_trichotomy a.y b.y with hl | hl | hl
    · have := beg_mono (a := a.y + 1) (b := b.y) (by omega) (by omega); omega
    · exact hl
    · have := beg_mono (a := b.y + 1) (b := a.y) (by omega) (by omega); omega
  have ma := ha.m1; have ma2 := ha.m2; have mb := hb.m1; have mb2 := hb.m2
  have da := ha.d1; have da2 := ha.d2; have db := hb.d1; have db2 := hb.d2
  have s1 := mSum_m (y := a.y) ma
  have s2 := mSum_m (y := b.y) mb
  rw [← hy] at s2 db2
  have h' : mSum a.y (a.m.toNat - 1) + a.d = mSum a.y (b.m.toNat - 1) + b.d := by
    unfold dayB at h; rw [← hy] at h; omega
  have hm : a.m = b.m := by
    rcases Int.lt_trichotomy a.m b.m with hl | hl | hl
    · have := mSum_mono a.y (show a.m.toNat ≤ b.m.toNat - 1 by omega); omega
    · exact hl
    · have := mSum_mono a.y (show b.m.toNat ≤ a.m.toNat - 1 by omega); omega
  have hd : a.d = b.d := by rw [hm] at h'; omega
  cases a; cases b; simp only at hy hm hd; subst hy; subst hm; subst hd; rfl
def yrB (day : Int) : Nat → Int → Int
  | 0, y => y
  | n + 1, y => if begB (y + 1) ≤ day then yrB day n (y + 1) else y
theorem yrB_ok (day : Int) : ∀ (n : Nat) (y : Int), 1 ≤ y → begB y ≤ day → day < begB (y + n + 1) → y ≤ yrB day n y ∧ begB (yrB day n y) ≤ day ∧ day < begB (yrB day n y + 1)
  | 0, y, h, h1, h2 => by simp only [yrB]; simp at h2; exact ⟨Int.le_refl _, h1, h2⟩
  | n + 1, y, h, h1, h2 => by
    simp only [yrB]
    split
    · rename_i hb
      have := yrB_ok day n (y + 1) (by omega) hb (by rw [show y + 1 + (n : Int) + 1 = y + ((n + 1 : Nat) : Int) + 1 by omega]; exact h2)
      exact ⟨by omega, this.2⟩
    · exact ⟨Int.le_refl _, h1, by omega⟩
def moB (y : Int) : Nat → Int → Int → Int × Int
  | 0, r, m => (r, m)
  | n + 1, r, m => if dinB y m ≤ r then moB y n (r - dinB y m) (m + 1) else (r, m)
theorem moB_ok (y : Int) : ∀ (n : Nat) (r m : Int), 1 ≤ m → m + n = 13 → 0 ≤ r → r + mSum y (m.toNat - 1) < mSum y 12 →
    let p := moB y n r m; 0 ≤ p.1 ∧ 1 ≤ p.2 ∧ p.2 ≤ 12 ∧ p.1 < dinB y p.2 ∧ p.1 + mSum y (p.2.toNat - 1) = r + mSum y (m.toNat - 1)
  | 0, r, m, h1, h2, h3, h4 => by
    exfalso
    have : m.toNat - 1 = 12 := by omega
    rw [this] at h4; omega
  | n + 1, r, m, h1, h2, h3, h4 => by
    simp only [moB]
    have hs := mSum_m (y := y) h1
    split
    · rename_i hd
      have e1 : (m + 1).toNat - 1 = m.toNat := by omega
      have := moB_ok y n (r - dinB y m) (m + 1) (by omega) (by omega) (by omega) (by rw [e1]; omega)
      simp only at this ⊢
      rw [e1] at this
      refine ⟨this.1, this.2.1, this.2.2.1, this.2.2.2.1, by omega⟩
    · refine ⟨h3, h1, by simp only; omega, by simp only; omega, rfl⟩
def ofB (day : Int) : Dt := let y := yrB day 300 (2000 + day.tdiv 366); let p := moB y 12 (day - begB y) 1; ⟨y, p.2, p.1 + 1⟩
theorem beg_366 {day : Int} (h : 0 ≤ day) : begB (2000 + day.tdiv 366) ≤ day := by
  rw [Int.tdiv_eq_ediv_of_nonneg h, beg_e (by omega)]
  omega
theorem beg_far {day y : Int} (h : day ≤ 73048) (hy : 2200 ≤ y) : day < begB y := by
  rw [beg_e (by omega)]
  omega
theorem ofB_ok {day : Int} (h0 : 0 ≤ day) (h1 : day ≤ 73048) : Valid (ofB day) ∧ dayB (ofB day) = day := by
  have hd : 0 ≤ day.tdiv 366 := by rw [Int.tdiv_eq_ediv_of_nonneg h0]; omega
  obtain ⟨a1, a2, a3⟩ := yrB_ok day 300 (2000 + day.tdiv 366) (by omega) (beg_366 h0) (beg_far h1 (by omega))
  generalize hy : yrB day 300 (2000 + day.tdiv 366) = y at a1 a2 a3
  have hs := beg_step (y := y) (by omega)
  have h12 := mSum_12 y
  have := moB_ok y 12 (day - begB y) 1 (by omega) (by omega) (by omega) (by
    rw [h12, show mSum y ((1 : Int).toNat - 1) = 0 from rfl]; omega)
  simp only at this
  obtain ⟨b1, b2, b3, b4, b5⟩ := this
  rw [show mSum y ((1 : Int).toNat - 1) = 0 from rfl] at b5
  have e : ofB day = ⟨y, (moB y 12 (day - begB y) 1).2, (moB y 12 (day - begB y) 1).1 + 1⟩ := by unfold ofB; simp only [hy]
  rw [e]
  exact ⟨⟨by simp only; omega, b2, b3, by simp only; omega, by simp only; omega⟩, by unfold dayB; simp only; omega⟩
theorem of_one {day : Int} (h0 : 0 ≤ day) (h1 : day ≤ 73048) {t : Dt} (h : Valid t) (hd : dayB t = day) : t = ofB day :=
  date_one h (ofB_ok h0 h1).1 (by rw [hd, (ofB_ok h0 h1).2])
def moR (y day : Int) : Nat → Int → Int
  | 0, m => m
  | n + 1, m => if m < 12 ∧ dayB ⟨y, m + 1, 1⟩ ≤ day then moR y day n (m + 1) else m
theorem moR_ok (y day : Int) (hy : 2000 ≤ y) (hd2 : day < begB (y + 1)) : ∀ (n : Nat) (m : Int), 1 ≤ m → m + n = 13 → m ≤ 12 → dayB ⟨y, m, 1⟩ ≤ day →
    1 ≤ moR y day n m ∧ moR y day n m ≤ 12 ∧ dayB ⟨y, moR y day n m, 1⟩ ≤ day ∧ day < dayB ⟨y, moR y day n m, 1⟩ + dinB y (moR y day n m)
  | 0, m, h1, h2, h3, h4 => by omega
  | n + 1, m, h1, h2, h3, h4 => by
    have e : dayB ⟨y, m + 1, 1⟩ = dayB ⟨y, m, 1⟩ + dinB y m := by
      have := mSum_m (y := y) h1
      unfold dayB; simp only
      rw [show (m + 1).toNat - 1 = m.toNat by omega]; omega
    simp only [moR]
    split
    · rename_i hc
      exact moR_ok y day hy hd2 n (m + 1) (by omega) (by omega) (by omega) hc.2
    · rename_i hc
      refine ⟨h1, h3, h4, ?_⟩
      by_cases hm : m < 12
      · have : ¬ dayB ⟨y, m + 1, 1⟩ ≤ day := fun h => hc ⟨hm, h⟩
        omega
      · have hm : m = 12 := by omega
        subst hm
        have hs := beg_step (y := y) (by omega)
        have h12 := mSum_12 y
        have hmm := mSum_m (y := y) (m := 12) (by omega)
        have e12 : (12 : Int).toNat = 12 := rfl
        rw [e12] at hmm
        unfold dayB at h4 ⊢
        simp only at h4 ⊢
        rw [e12] at h4 ⊢
        omega
def ofR (day : Int) : Dt := let y := yrB day 300 2000; let m := moR y day 12 1; ⟨y, m, 1 + day - dayB ⟨y, m, 1⟩⟩
theorem ofR_eq {day : Int} (h0 : 0 ≤ day) (h1 : day ≤ 73048) : ofR day = ofB day := by
  have b0 : begB 2000 = 0 := by decide
  obtain ⟨a1, a2, a3⟩ := yrB_ok day 300 2000 (by omega) (by omega) (beg_far h1 (by omega))
  have e : ofR day = ⟨yrB day 300 2000, moR (yrB day 300 2000) day 12 1, 1 + day - dayB ⟨yrB day 300 2000, moR (yrB day 300 2000) day 12 1, 1⟩⟩ := rfl
  rw [e]
  generalize yrB day 300 2000 = y at a1 a2 a3
  obtain ⟨b1, b2, b3, b4⟩ := moR_ok y day a1 a3 12 1 (by omega) (by omega) (by omega) (by
    unfold dayB; simp only; rw [show mSum y ((1 : Int).toNat - 1) = 0 from rfl]; omega)
  generalize moR y day 12 1 = m at b1 b2 b3 b4
  refine of_one h0 h1 ⟨a1, b1, b2, by simp only; omega, by simp only; omega⟩ ?_
  unfold dayB at *; simp only at *; omega
def afterB (t : Dt) : Dt :=
  let t1 : Dt := if t.d + 1 > dinB t.y t.m then ⟨t.y, t.m + 1, 1⟩ else ⟨t.y, t.m, t.d + 1⟩
  if t1.m > 12 then ⟨t1.y + 1, 1, t1.d⟩ else t1
theorem after_ok {t : Dt} (h : Valid t) : Valid (afterB t) ∧ dayB (afterB t) = dayB t + 1 := by
  have hy := h.y; have hm1 := h.m1; have hm2 := h.m2; have hd1 := h.d1; have hd2 := h.d2
  have hs := mSum_m (y := t.y) hm1
  unfold afterB
  by_cases h1 : t.d + 1 > dinB t.y t.m
  · simp only [if_pos h1]
    by_cases h2 : t.m + 1 > 12
    · rw [if_pos h2]
      have : t.m = 12 := by omega
      have hb := beg_step (y := t.y) (by omega)
      have h12 := mSum_12 t.y
      have e12 : t.m.toNat = 12 := by rw [this]; rfl
      have hdp := din_pos (y := t.y + 1) (m := 1) (by omega) (by omega)
      rw [e12] at hs
      refine ⟨⟨by simp only; omega, by simp only; omega, by simp only; omega, by simp only; omega, by simp only; omega⟩, ?_⟩
      unfold dayB
      simp only
      rw [show mSum (t.y + 1) ((1 : Int).toNat - 1) = 0 from rfl, e12]
      rw [show (12 : Nat) - 1 = 11 from rfl] at *
      omega
    · rw [if_neg h2]
      have hdp := din_pos (y := t.y) (m := t.m + 1) (by omega) (by omega)
      refine ⟨⟨hy, by simp only; omega, by simp only; omega, by simp only; omega, by simp only; omega⟩, ?_⟩
      unfold dayB
      simp only
      rw [show (t.m + 1).toNat - 1 = t.m.toNat by omega]
      omega
  · simp only [if_neg h1]
    rw [if_neg (by omega)]
    exact ⟨⟨hy, hm1, hm2, by simp only; omega, by simp only; omega⟩, by unfold dayB; simp only; omega⟩
theorem after_of {day : Int} (h0 : 0 ≤ day) (h1 : day + 1 ≤ 73048) : afterB (ofB day) = ofB (day + 1) := by
  obtain ⟨a, b⟩ := ofB_ok h0 (by omega)
  obtain ⟨c, d⟩ := after_ok a
  exact of_one (by omega) h1 c (by omega)
end T06


namespace T06
structure Pat where
  y : Int
  m : Int
  d : Int
  w : Int
  k : Int
  f : Dt
  t : Dt
def noD : Dt := ⟨0, 0, 0⟩
def chkD (t : Dt) : Int := if t.y < 2000 ∨ t.y > 2199 then 1 else if t.d < 1 ∨ t.d > dinB t.y t.m then 6 else 0
theorem chkD_ok {t : Dt} (h : chkD t = 0) : Valid t ∧ t.y ≤ 2199 := by
  unfold chkD at h
  split at h
  · cases h
  rename_i h1
  split at h
  · cases h
  rename_i h2
  have hm : 1 ≤ t.m ∧ t.m ≤ 12 := by
    apply Classical.byContradiction
    intro hc
    have : dinB t.y t.m = 0 := by unfold dinB; rw [if_pos (by omega)]
    omega
  exact ⟨⟨by omega, hm.1, hm.2, by omega, by omega⟩, by omega⟩
theorem day_range {t : Dt} (h : Valid t) (hy : t.y ≤ 2199) : 0 ≤ dayB t ∧ dayB t ≤ 73048 := by
  have a := day_lo h
  have b := day_hi h
  have := h.y
  have c := beg_mono (a := 2000) (b := t.y) (by omega) (by omega)
  have d := beg_mono (a := t.y + 1) (b := 2200) (by omega) (by omega)
  have e : begB 2000 = 0 := by decide
  have f : begB 2200 = 73049 := by decide
  omega
def isR (p : Pat) : Bool := decide (p.f ≠ noD) || decide (p.t ≠ noD)
def badF (p : Pat) : Bool := (decide (p.y ≠ 0) && (decide (p.y < 2000) || decide (p.y > 2199))) || !(decide (0 ≤ p.m) && decide (p.m ≤ 14)) || !(decide (0 ≤ p.d) && decide (p.d ≤ 34)) || !(decide (0 ≤ p.w) && decide (p.w ≤ 7)) || !(decide (0 ≤ p.k) && decide (p.k ≤ 6))
def anyF (p : Pat) : Bool := decide (p.y ≠ 0) || decide (p.m ≠ 0) || decide (p.d ≠ 0) || decide (p.w ≠ 0) || decide (p.k ≠ 0)
def endE (t : Dt) : Int := if t = noD then 0 else chkD t
def loB (p : Pat) : Int := if p.f = noD then 0 else dayB p.f
def hiB (p : Pat) : Int := if p.t = noD then 73048 else dayB p.t
def chkP (p : Pat) : Int :=
  if isR p = false then (if badF p = true then 6 else 0)
  else if anyF p = true then 10
  else if endE p.f ≠ 0 then endE p.f else if endE p.t ≠ 0 then endE p.t
  else if p.t ≠ noD ∧ loB p > hiB p then 6 else 0
def fitM (p : Pat) (d : Dt) : Bool := (decide (p.m = 13) && decide (d.m.tmod 2 = 0)) || (decide (p.m = 14) && decide (d.m.tmod 2 = 1)) || (decide (p.m ≠ 0) && decide (p.m ≤ 12) && decide (p.m ≠ d.m))
def fitD (p : Pat) (d : Dt) : Bool := (decide (p.d = 32) && decide (d.d ≠ dinB d.y d.m)) || (decide (p.d = 33) && decide (d.d.tmod 2 = 0)) || (decide (p.d = 34) && decide (d.d.tmod 2 = 1)) || (decide (p.d ≠ 0) && decide (p.d ≤ 31) && decide (p.d ≠ d.d))
def wdB (day : Int) : Int := (day + 5).tmod 7 + 1
def testD (p : Pat) (day : Int) (d : Dt) : Bool :=
  if (decide (p.y ≠ 0) && decide (p.y ≠ d.y)) || (decide (p.w ≠ 0) && decide (p.w ≠ wdB day)) then false
  else if fitM p d then false
  else if fitD p d then false
  else if p.k = 6 then decide (d.d > dinB d.y d.m - 7)
  else if p.k ≠ 0 then decide (d.d ≥ 7 * p.k - 6) && decide (d.d ≤ 7 * p.k)
  else true
def testB (p : Pat) (day : Int) : Bool := if isR p = true then decide (loB p ≤ day) && decide (day ≤ hiB p) else testD p day (ofB day)
def parR (fd o e n : Int) : Bool := (decide (fd = o) && decide (n.tmod 2 = 1)) || (decide (fd = e) && decide (n.tmod 2 = 0))
def fitsD (p : Pat) (day : Int) (d : Dt) : Bool :=
  if (decide (p.y ≠ 0) && decide (p.y ≠ d.y)) || (decide (p.w ≠ 0) && decide (p.w ≠ wdB day)) then false
  else if decide (p.m ≠ 0) && decide (p.m ≠ d.m) && !parR p.m 13 14 d.m then false
  else if decide (p.d ≠ 0) && decide (p.d ≠ d.d) && !parR p.d 33 34 d.d && !(decide (p.d = 32) && decide (d.d = dinB d.y d.m)) then false
  else decide (p.k = 0) || decide (p.k = (d.d + 6).tdiv 7) || (decide (p.k = 6) && decide (d.d > dinB d.y d.m - 7))
def fitsR (p : Pat) (day : Int) (d : Dt) : Bool :=
  if isR p = true then (decide (p.f = noD) || decide (dayB p.f ≤ day)) && (decide (p.t = noD) || decide (day ≤ dayB p.t)) else fitsD p day d
theorem fits_same {p : Pat} (hp : chkP p = 0) {day : Int} (h0 : 0 ≤ day) (h1 : day ≤ 73048) : fitsR p day (ofB day) = testB p day := by
  unfold fitsR testB
  cases hr : isR p
  case true =>
    simp only [if_true]
    unfold loB hiB
    by_cases hf : p.f = noD <;> by_cases ht : p.t = noD <;> simp [hf, ht, h0, h1]
  rw [if_neg (by decide), if_neg (by decide)]
  unfold chkP at hp
  rw [hr, if_pos rfl] at hp
  have hb : badF p = false := by
    cases hb : badF p
    · rfl
    · rw [hb, if_pos rfl] at hp; cases hp
  have hv := (ofB_ok h0 h1).1
  generalize ofB day = d at hv
  have v1 := hv.m1; have v2 := hv.m2; have v3 := hv.d1; have v4 := hv.d2
  have v5 := (din_pos (y := d.y) v1 v2).2
  have v6 := (din_pos (y := d.y) v1 v2).1
  unfold badF at hb
  simp only [Bool.or_eq_false_iff, Bool.not_eq_false', Bool.and_eq_true, decide_eq_true_eq] at hb
  obtain ⟨⟨⟨⟨_, m1, m2⟩, d1, d2⟩, w1, w2⟩, k1, k2⟩ := hb
  have r1 : d.m.tmod 2 = d.m % 2 := Int.tmod_eq_emod_of_nonneg (by omega)
  have r2 : d.d.tmod 2 = d.d % 2 := Int.tmod_eq_emod_of_nonneg (by omega)
  have r3 : (d.d + 6).tdiv 7 = (d.d + 6) / 7 := Int.tdiv_eq_ediv_of_nonneg (by omega)
  unfold fitsD testD
  split
  · rfl
  have e1 : (decide (p.m ≠ 0) && decide (p.m ≠ d.m) && !parR p.m 13 14 d.m) = fitM p d := by
    unfold parR fitM
    rw [r1, Bool.eq_iff_iff]
    simp only [Bool.and_eq_true, Bool.or_eq_true, Bool.not_eq_true', Bool.or_eq_false_iff, Bool.and_eq_false_iff, decide_eq_true_eq, decide_eq_false_iff_not]
    omega
  rw [e1]
  split
  · rfl
  have e2 : (decide (p.d ≠ 0) && decide (p.d ≠ d.d) && !parR p.d 33 34 d.d && !(decide (p.d = 32) && decide (d.d = dinB d.y d.m))) = fitD p d := by
    unfold parR fitD
    rw [r2, Bool.eq_iff_iff]
    simp only [Bool.and_eq_true, Bool.or_eq_true, Bool.not_eq_true', Bool.or_eq_false_iff, Bool.and_eq_false_iff, decide_eq_true_eq, decide_eq_false_iff_not]
    generalize dinB d.y d.m = q at *
    omega
  rw [e2]
  split
  · rfl
  rw [r3]
  generalize dinB d.y d.m = q at *
  by_cases hk6 : p.k = 6
  · rw [if_pos hk6, Bool.eq_iff_iff]
    simp only [Bool.and_eq_true, Bool.or_eq_true, decide_eq_true_eq]
    omega
  · rw [if_neg hk6]
    by_cases hk0 : p.k = 0
    · rw [if_neg (fun h => h hk0)]; simp [hk0]
    · rw [if_pos hk0, Bool.eq_iff_iff]
      simp only [Bool.and_eq_true, Bool.or_eq_true, decide_eq_true_eq]
      omega
end T06


namespace T06
def up (g : Nat → Bool) : Nat → Nat → Option Nat
  | 0, _ => none
  | n + 1, d => if g d then some d else up g n (d + 1)
def dn (g : Nat → Bool) : Nat → Option Nat
  | 0 => none
  | n + 1 => if g n then some n else dn g n
def cnt (g : Nat → Bool) : Nat → Nat → Nat
  | 0, _ => 0
  | n + 1, d => (if g d then 1 else 0) + cnt g n (d + 1)
def daysL (g : Nat → Bool) : Nat → Nat → Nat → List Nat
  | 0, _, _ => []
  | n + 1, d, m => if m = 0 then [] else if g d then d :: daysL g n (d + 1) (m - 1) else daysL g n (d + 1) m
theorem up_none (g : Nat → Bool) : ∀ (n d : Nat), up g n d = none ↔ ∀ i, d ≤ i → i < d + n → g i = false
  | 0, d => by simp only [up, true_iff]; intro i h1 h2; omega
  | n + 1, d => by
    simp only [up]
    cases h : g d
    · simp only [Bool.false_eq_true, if_false, up_none g n (d + 1)]
      refine ⟨fun h1 i h2 h3 => ?_, fun h1 i h2 h3 => h1 i (by omega) (by omega)⟩
      by_cases hi : i = d
      · rw [hi]; exact h
      · exact h1 i (by omega) (by omega)
    · simp only [if_true]
      refine ⟨fun h1 => (by cases h1), fun h1 => ?_⟩
      rw [h1 d (Nat.le_refl _) (by omega)] at h; cases h
theorem days_len (g : Nat → Bool) : ∀ (n d m : Nat), n ≤ m → (daysL g n d m).length = cnt g n d
  | 0, d, m, _ => rfl
  | n + 1, d, m, h => by
    simp only [daysL, cnt]
    rw [if_neg (by omega)]
    split
    · rw [List.length_cons, days_len g n (d + 1) (m - 1) (by omega)]; omega
    · rw [days_len g n (d + 1) m (by omega)]; omega
end T06


namespace T06
variable [Mm]
open Go Fw Go.Proofs
set_option maxRecDepth 100000
set_option maxHeartbeats 4000000
theorem ne_00 : decide ((0 : Int) ≠ 0) = false := rfl
theorem c75 (y : Int) (s : St) (K : AV → St → Prop) : CallW cx 75 [.int .i64 y] s K = K (.bool (leapB y)) s := by
  refine CallW.eq (CallW.fn' (fn := ir75) rfl rfl (by kernel_rfl) ir75.eq_1 ?_) K
  unfold leapB
  cases h1 : decide (y.tmod 4 = 0) <;> cases h2 : decide (y.tmod 100 ≠ 0) <;> cases h3 : decide (y.tmod 400 = 0)
  all_goals simp +contextual -implicitDefEqProofs (maxSteps := 4000000) only [go_sem, ↓reduceIte, Nat.reduceEqDiff, Nat.reduceAdd, Int.reduceLE, Int.reduceLT, Int.reduceEq, Int.reduceToNat, Nat.reduceMod, Nat.reduceDiv, UInt8.reduceToNat, Nat.reduceLT, h1, h2, h3]
theorem c60 (y : Int) (s : St) (K : AV → St → Prop) : CallW cx 60 [.int .i64 y] s K = K (.bool (leapB y)) s := by
  refine CallW.eq (CallW.fn' (fn := ir60) rfl rfl (by kernel_rfl) ir60.eq_1 ?_) K
  unfold leapB
  cases h1 : decide (y.tmod 4 = 0) <;> cases h2 : decide (y.tmod 100 ≠ 0) <;> cases h3 : decide (y.tmod 400 = 0)
  all_goals simp +contextual -implicitDefEqProofs (maxSteps := 4000000) only [go_sem, ↓reduceIte, Nat.reduceEqDiff, Nat.reduceAdd, Int.reduceLE, Int.reduceLT, Int.reduceEq, Int.reduceToNat, Nat.reduceMod, Nat.reduceDiv, UInt8.reduceToNat, Nat.reduceLT, h1, h2, h3]
theorem len_sub : ∀ k : Fin 13, 1 ≤ k.val → sub (lengths.map (AV.int .i64)) k.val 1 = some [.int .i64 (lenM (k.val : Int))] := by
  intro k hk
  match k with
  | ⟨0, _⟩ => simp at hk
  | ⟨1, _⟩ => rfl | ⟨2, _⟩ => rfl | ⟨3, _⟩ => rfl | ⟨4, _⟩ => rfl | ⟨5, _⟩ => rfl | ⟨6, _⟩ => rfl | ⟨7, _⟩ => rfl | ⟨8, _⟩ => rfl | ⟨9, _⟩ => rfl
  | ⟨10, _⟩ => rfl | ⟨11, _⟩ => rfl | ⟨12, _⟩ => rfl
  | ⟨n + 13, h⟩ => exact absurd h (by omega)
theorem c57 (y m : Int) (s : St) (K : AV → St → Prop) : CallW cx 57 [.int .i64 y, .int .i64 m] s K = K (.int .i64 (dinB y m)) s := by
  refine CallW.eq (CallW.fn' (fn := ir57) rfl rfl (by kernel_rfl) ir57.eq_1 ?_) K
  unfold dinB
  by_cases h1 : m < 1
  · have d1 := decide_eq_true h1
    rw [if_pos (.inl h1)]
    simp +contextual -implicitDefEqProofs (maxSteps := 4000000) only [go_sem, ↓reduceIte, Nat.reduceEqDiff, Nat.reduceAdd, Int.reduceLE, Int.reduceLT, Int.reduceEq, Int.reduceToNat, Nat.reduceMod, Nat.reduceDiv, UInt8.reduceToNat, Nat.reduceLT, d1]
  · have d1 := decide_eq_false h1
    by_cases h2 : m > 12
    · have d2 : decide (12 < m) = true := decide_eq_true h2
      rw [if_pos (.inr h2)]
      simp +contextual -implicitDefEqProofs (maxSteps := 4000000) only [go_sem, ↓reduceIte, Nat.reduceEqDiff, Nat.reduceAdd, Int.reduceLE, Int.reduceLT, Int.reduceEq, Int.reduceToNat, Nat.reduceMod, Nat.reduceDiv, UInt8.reduceToNat, Nat.reduceLT, d1, d2]
    · have d2 : decide (12 < m) = false := decide_eq_false h2
      rw [if_neg (by omega)]
      have hgl : cx.gl 1 = some (lengths.map (AV.int .i64)) := rfl
      obtain ⟨k, rfl⟩ : ∃ k : Nat, m = (k : Int) := ⟨m.toNat, by omega⟩
      have b1 : (0 : Int) ≤ (k : Int) := by omega
      have b2 : (k : Int) < 13 := by omega
      have hs := len_sub ⟨k, by omega⟩ (by simp only; omega)
      simp only at hs
      by_cases h3 : (k : Int) = 2
      · have d3 := decide_eq_true h3
        cases hl : leapB y
        · rw [if_neg (by simp)]
          simp +contextual -implicitDefEqProofs (maxSteps := 4000000) only [go_sem, ↓reduceIte, Nat.reduceEqDiff, Nat.reduceAdd, Int.reduceLE, Int.reduceLT, Int.reduceEq, Int.reduceToNat, Nat.reduceMod, Nat.reduceDiv, UInt8.reduceToNat, Nat.reduceLT, d1, d2, d3, c75, hl, hgl, iaddrA, b1, b2, Nat_mul_one, hs]
        · rw [if_pos ⟨h3, rfl⟩]
          simp +contextual -implicitDefEqProofs (maxSteps := 4000000) only [go_sem, ↓reduceIte, Nat.reduceEqDiff, Nat.reduceAdd, Int.reduceLE, Int.reduceLT, Int.reduceEq, Int.reduceToNat, Nat.reduceMod, Nat.reduceDiv, UInt8.reduceToNat, Nat.reduceLT, d1, d2, d3, c75, hl]
      · have d3 := decide_eq_false h3
        rw [if_neg (fun h => h3 h.1)]
        simp +contextual -implicitDefEqProofs (maxSteps := 4000000) only [go_sem, ↓reduceIte, Nat.reduceEqDiff, Nat.reduceAdd, Int.reduceLE, Int.reduceLT, Int.reduceEq, Int.reduceToNat, Nat.reduceMod, Nat.reduceDiv, UInt8.reduceToNat, Nat.reduceLT, d1, d2, d3, hgl, iaddrA, b1, b2, Nat_mul_one, hs]
theorem c59 (y m : Int) (s : St) (K : AV → St → Prop) : CallW cx 59 [.int .i64 y, .int .i64 m] s K = K (.int .i64 (dinB y m)) s := by
  refine CallW.eq (CallW.fn' (fn := ir59) rfl rfl (by kernel_rfl) ir59.eq_1 ?_) K
  unfold dinB lenM
  by_cases h4 : m = 4
  · subst h4; simp +contextual -implicitDefEqProofs (maxSteps := 4000000) only [go_sem, ↓reduceIte, Nat.reduceEqDiff, Nat.reduceAdd, Int.reduceLE, Int.reduceLT, Int.reduceEq, Int.reduceToNat, Nat.reduceMod, Nat.reduceDiv, UInt8.reduceToNat, Nat.reduceLT]; simp
  by_cases h6 : m = 6
  · subst h6; simp +contextual -implicitDefEqProofs (maxSteps := 4000000) only [go_sem, ↓reduceIte, Nat.reduceEqDiff, Nat.reduceAdd, Int.reduceLE, Int.reduceLT, Int.reduceEq, Int.reduceToNat, Nat.reduceMod, Nat.reduceDiv, UInt8.reduceToNat, Nat.reduceLT]; simp
  by_cases h9 : m = 9
  · subst h9; simp +contextual -implicitDefEqProofs (maxSteps := 4000000) only [go_sem, ↓reduceIte, Nat.reduceEqDiff, Nat.reduceAdd, Int.reduceLE, Int.reduceLT, Int.reduceEq, Int.reduceToNat, Nat.reduceMod, Nat.reduceDiv, UInt8.reduceToNat, Nat.reduceLT]; simp
  by_cases h11 : m = 11
  · subst h11; simp +contextual -implicitDefEqProofs (maxSteps := 4000000) only [go_sem, ↓reduceIte, Nat.reduceEqDiff, Nat.reduceAdd, Int.reduceLE, Int.reduceLT, Int.reduceEq, Int.reduceToNat, Nat.reduceMod, Nat.reduceDiv, UInt8.reduceToNat, Nat.reduceLT]; simp
  have d4 := decide_eq_false h4
  have d6 := decide_eq_false h6
  have d9 := decide_eq_false h9
  have d11 := decide_eq_false h11
  by_cases h2 : m = 2
  · subst h2
    cases hl : leapB y
    · simp +contextual -implicitDefEqProofs (maxSteps := 4000000) only [go_sem, ↓reduceIte, Nat.reduceEqDiff, Nat.reduceAdd, Int.reduceLE, Int.reduceLT, Int.reduceEq, Int.reduceToNat, Nat.reduceMod, Nat.reduceDiv, UInt8.reduceToNat, Nat.reduceLT, c60, hl]; simp
    · simp +contextual -implicitDefEqProofs (maxSteps := 4000000) only [go_sem, ↓reduceIte, Nat.reduceEqDiff, Nat.reduceAdd, Int.reduceLE, Int.reduceLT, Int.reduceEq, Int.reduceToNat, Nat.reduceMod, Nat.reduceDiv, UInt8.reduceToNat, Nat.reduceLT, c60, hl]; simp
  have d2 := decide_eq_false h2
  by_cases h1 : m < 1
  · have d1 := decide_eq_true h1
    simp +contextual -implicitDefEqProofs (maxSteps := 4000000) only [go_sem, ↓reduceIte, Nat.reduceEqDiff, Nat.reduceAdd, Int.reduceLE, Int.reduceLT, Int.reduceEq, Int.reduceToNat, Nat.reduceMod, Nat.reduceDiv, UInt8.reduceToNat, Nat.reduceLT, d4, d6, d9, d11, d2, d1]; simp [h1]
  have d1 := decide_eq_false h1
  by_cases h12 : 12 < m
  · have d12 := decide_eq_true h12
    simp +contextual -implicitDefEqProofs (maxSteps := 4000000) only [go_sem, ↓reduceIte, Nat.reduceEqDiff, Nat.reduceAdd, Int.reduceLE, Int.reduceLT, Int.reduceEq, Int.reduceToNat, Nat.reduceMod, Nat.reduceDiv, UInt8.reduceToNat, Nat.reduceLT, d4, d6, d9, d11, d2, d1, d12]; simp [h12]
  · have d12 := decide_eq_false h12
    simp +contextual -implicitDefEqProofs (maxSteps := 4000000) only [go_sem, ↓reduceIte, Nat.reduceEqDiff, Nat.reduceAdd, Int.reduceLE, Int.reduceLT, Int.reduceEq, Int.reduceToNat, Nat.reduceMod, Nat.reduceDiv, UInt8.reduceToNat, Nat.reduceLT, d4, d6, d9, d11, d2, d1, d12]
    simp [h1, h2, h4, h6, h9, h11]; omega
theorem c58 (y : Int) (h1 : 1 ≤ y) (h2 : y ≤ 100000) (s : St) (K : AV → St → Prop) : CallW cx 58 [.int .i64 y] s K = K (.int .i64 (begB y)) s := by
  refine CallW.eq (CallW.fn' (fn := ir58) rfl rfl (by kernel_rfl) ir58.eq_1 ?_) K
  have e1 : (y - 1).tdiv 4 = (y - 1) / 4 := Int.tdiv_eq_ediv_of_nonneg (by omega)
  have e2 : (y - 1).tdiv 100 = (y - 1) / 100 := Int.tdiv_eq_ediv_of_nonneg (by omega)
  have e3 : (y - 1).tdiv 400 = (y - 1) / 400 := Int.tdiv_eq_ediv_of_nonneg (by omega)
  have w1 : IntKind.i64.wrap (y - 2000) = y - 2000 := wrap_i64 (by omega) (by omega)
  have w2 : IntKind.i64.wrap (y - 1) = y - 1 := wrap_i64 (by omega) (by omega)
  have w3 : IntKind.i64.wrap (365 * (y - 2000)) = 365 * (y - 2000) := wrap_i64 (by omega) (by omega)
  have w4 : IntKind.i64.wrap ((y - 1) / 4) = (y - 1) / 4 := wrap_i64 (by omega) (by omega)
  have w5 : IntKind.i64.wrap ((y - 1) / 100) = (y - 1) / 100 := wrap_i64 (by omega) (by omega)
  have w6 : IntKind.i64.wrap ((y - 1) / 400) = (y - 1) / 400 := wrap_i64 (by omega) (by omega)
  have w7 : IntKind.i64.wrap ((y - 1) / 4 - (y - 1) / 100) = (y - 1) / 4 - (y - 1) / 100 := wrap_i64 (by omega) (by omega)
  have w8 : IntKind.i64.wrap ((y - 1) / 4 - (y - 1) / 100 + (y - 1) / 400) = (y - 1) / 4 - (y - 1) / 100 + (y - 1) / 400 := wrap_i64 (by omega) (by omega)
  have w9 : IntKind.i64.wrap ((y - 1) / 4 - (y - 1) / 100 + (y - 1) / 400 - 484) = (y - 1) / 4 - (y - 1) / 100 + (y - 1) / 400 - 484 := wrap_i64 (by omega) (by omega)
  have w10 : IntKind.i64.wrap (365 * (y - 2000) + ((y - 1) / 4 - (y - 1) / 100 + (y - 1) / 400 - 484)) = 365 * (y - 2000) + ((y - 1) / 4 - (y - 1) / 100 + (y - 1) / 400 - 484) := wrap_i64 (by omega) (by omega)
  rw [beg_e h1]
  simp +contextual -implicitDefEqProofs (maxSteps := 4000000) only [go_sem, ↓reduceIte, Nat.reduceEqDiff, Nat.reduceAdd, Int.reduceLE, Int.reduceLT, Int.reduceEq, Int.reduceToNat, Nat.reduceMod, Nat.reduceDiv, UInt8.reduceToNat, Nat.reduceLT, w1, w2, w3, e1, e2, e3, w4, w5, w6, w7, w8, w9, w10]
theorem c31 (y m d : Int) (s : St) (K : AV → St → Prop) : CallW cx 31 [.agg [.int .i64 y, .int .i64 m, .int .i64 d]] s K = K (.int .i64 (chkD ⟨y, m, d⟩)) s := by
  refine CallW.eq (CallW.fn' (fn := ir31) rfl rfl (by kernel_rfl) ir31.eq_1 ?_) K
  unfold chkD
  simp only
  by_cases h1 : y < 2000
  · have d1 := decide_eq_true h1
    rw [if_pos (.inl h1)]
    simp +contextual -implicitDefEqProofs (maxSteps := 4000000) only [go_sem, ↓reduceIte, Nat.reduceEqDiff, Nat.reduceAdd, Int.reduceLE, Int.reduceLT, Int.reduceEq, Int.reduceToNat, Nat.reduceMod, Nat.reduceDiv, UInt8.reduceToNat, Nat.reduceLT, d1]
  have d1 := decide_eq_false h1
  by_cases h2 : 2199 < y
  · have d2 := decide_eq_true h2
    rw [if_pos (.inr h2)]
    simp +contextual -implicitDefEqProofs (maxSteps := 4000000) only [go_sem, ↓reduceIte, Nat.reduceEqDiff, Nat.reduceAdd, Int.reduceLE, Int.reduceLT, Int.reduceEq, Int.reduceToNat, Nat.reduceMod, Nat.reduceDiv, UInt8.reduceToNat, Nat.reduceLT, d1, d2]
  have d2 := decide_eq_false h2
  rw [if_neg (by omega)]
  by_cases h3 : d < 1
  · have d3 := decide_eq_true h3
    rw [if_pos (.inl h3)]
    simp +contextual -implicitDefEqProofs (maxSteps := 4000000) only [go_sem, ↓reduceIte, Nat.reduceEqDiff, Nat.reduceAdd, Int.reduceLE, Int.reduceLT, Int.reduceEq, Int.reduceToNat, Nat.reduceMod, Nat.reduceDiv, UInt8.reduceToNat, Nat.reduceLT, d1, d2, d3]
  have d3 := decide_eq_false h3
  by_cases h4 : dinB y m < d
  · have d4 := decide_eq_true h4
    rw [if_pos (.inr h4)]
    simp +contextual -implicitDefEqProofs (maxSteps := 4000000) only [go_sem, ↓reduceIte, Nat.reduceEqDiff, Nat.reduceAdd, Int.reduceLE, Int.reduceLT, Int.reduceEq, Int.reduceToNat, Nat.reduceMod, Nat.reduceDiv, UInt8.reduceToNat, Nat.reduceLT, d1, d2, d3, c57, d4]
  · have d4 := decide_eq_false h4
    rw [if_neg (by omega)]
    simp +contextual -implicitDefEqProofs (maxSteps := 4000000) only [go_sem, ↓reduceIte, Nat.reduceEqDiff, Nat.reduceAdd, Int.reduceLE, Int.reduceLT, Int.reduceEq, Int.reduceToNat, Nat.reduceMod, Nat.reduceDiv, UInt8.reduceToNat, Nat.reduceLT, d1, d2, d3, c57, d4]
theorem c35 (y m d : Int) (s : St) (K : AV → St → Prop) : CallW cx 35 [.agg [.int .i64 y, .int .i64 m, .int .i64 d]] s K = K (.int .i64 (chkD ⟨y, m, d⟩)) s := by
  refine CallW.eq (CallW.fn' (fn := ir35) rfl rfl (by kernel_rfl) ir35.eq_1 ?_) K
  unfold chkD
  simp only
  by_cases h1 : y < 2000
  · have d1 := decide_eq_true h1
    rw [if_pos (.inl h1)]
    simp +contextual -implicitDefEqProofs (maxSteps := 4000000) only [go_sem, ↓reduceIte, Nat.reduceEqDiff, Nat.reduceAdd, Int.reduceLE, Int.reduceLT, Int.reduceEq, Int.reduceToNat, Nat.reduceMod, Nat.reduceDiv, UInt8.reduceToNat, Nat.reduceLT, d1]
  have d1 := decide_eq_false h1
  by_cases h2 : 2199 < y
  · have d2 := decide_eq_true h2
    rw [if_pos (.inr h2)]
    simp +contextual -implicitDefEqProofs (maxSteps := 4000000) only [go_sem, ↓reduceIte, Nat.reduceEqDiff, Nat.reduceAdd, Int.reduceLE, Int.reduceLT, Int.reduceEq, Int.reduceToNat, Nat.reduceMod, Nat.reduceDiv, UInt8.reduceToNat, Nat.reduceLT, d1, d2]
  have d2 := decide_eq_false h2
  rw [if_neg (by omega)]
  by_cases h3 : d < 1
  · have d3 := decide_eq_true h3
    rw [if_pos (.inl h3)]
    simp +contextual -implicitDefEqProofs (maxSteps := 4000000) only [go_sem, ↓reduceIte, Nat.reduceEqDiff, Nat.reduceAdd, Int.reduceLE, Int.reduceLT, Int.reduceEq, Int.reduceToNat, Nat.reduceMod, Nat.reduceDiv, UInt8.reduceToNat, Nat.reduceLT, d1, d2, d3]
  have d3 := decide_eq_false h3
  by_cases h4 : dinB y m < d
  · have d4 := decide_eq_true h4
    rw [if_pos (.inr h4)]
    simp +contextual -implicitDefEqProofs (maxSteps := 4000000) only [go_sem, ↓reduceIte, Nat.reduceEqDiff, Nat.reduceAdd, Int.reduceLE, Int.reduceLT, Int.reduceEq, Int.reduceToNat, Nat.reduceMod, Nat.reduceDiv, UInt8.reduceToNat, Nat.reduceLT, d1, d2, d3, c59, d4]
  · have d4 := decide_eq_false h4
    rw [if_neg (by omega)]
    simp +contextual -implicitDefEqProofs (maxSteps := 4000000) only [go_sem, ↓reduceIte, Nat.reduceEqDiff, Nat.reduceAdd, Int.reduceLE, Int.reduceLT, Int.reduceEq, Int.reduceToNat, Nat.reduceMod, Nat.reduceDiv, UInt8.reduceToNat, Nat.reduceLT, d1, d2, d3, c59, d4]
theorem c76 (n : Int) (s : St) (K : AV → St → Prop) : CallW cx 76 [.int .i64 n] s K = K (.int .i64 (if n < 0 ∨ n > 73048 then 1 else 0)) s := by
  refine CallW.eq (CallW.fn' (fn := ir76) rfl rfl (by kernel_rfl) ir76.eq_1 ?_) K
  by_cases h1 : n < 0
  · have d1 := decide_eq_true h1
    rw [if_pos (.inl h1)]
    simp +contextual -implicitDefEqProofs (maxSteps := 4000000) only [go_sem, ↓reduceIte, Nat.reduceEqDiff, Nat.reduceAdd, Int.reduceLE, Int.reduceLT, Int.reduceEq, Int.reduceToNat, Nat.reduceMod, Nat.reduceDiv, UInt8.reduceToNat, Nat.reduceLT, d1]
  have d1 := decide_eq_false h1
  by_cases h2 : 73048 < n
  · have d2 := decide_eq_true h2
    rw [if_pos (.inr h2)]
    simp +contextual -implicitDefEqProofs (maxSteps := 4000000) only [go_sem, ↓reduceIte, Nat.reduceEqDiff, Nat.reduceAdd, Int.reduceLE, Int.reduceLT, Int.reduceEq, Int.reduceToNat, Nat.reduceMod, Nat.reduceDiv, UInt8.reduceToNat, Nat.reduceLT, d1, d2]
  · have d2 := decide_eq_false h2
    rw [if_neg (by omega)]
    simp +contextual -implicitDefEqProofs (maxSteps := 4000000) only [go_sem, ↓reduceIte, Nat.reduceEqDiff, Nat.reduceAdd, Int.reduceLE, Int.reduceLT, Int.reduceEq, Int.reduceToNat, Nat.reduceMod, Nat.reduceDiv, UInt8.reduceToNat, Nat.reduceLT, d1, d2]
theorem c78 (n : Int) (h0 : 0 ≤ n) (h1 : n ≤ 73048) (s : St) (K : AV → St → Prop) : CallW cx 78 [.int .i64 n] s K = K (.int .i64 (wdB n)) s := by
  refine CallW.eq (CallW.fn' (fn := ir78) rfl rfl (by kernel_rfl) ir78.eq_1 ?_) K
  unfold wdB
  have w1 : IntKind.i64.wrap (n + 5) = n + 5 := wrap_i64 (by omega) (by omega)
  have e : (n + 5).tmod 7 = (n + 5) % 7 := Int.tmod_eq_emod_of_nonneg (by omega)
  have w2 : IntKind.i64.wrap ((n + 5) % 7 + 1) = (n + 5) % 7 + 1 := wrap_i64 (by omega) (by omega)
  simp +contextual -implicitDefEqProofs (maxSteps := 4000000) only [go_sem, ↓reduceIte, Nat.reduceEqDiff, Nat.reduceAdd, Int.reduceLE, Int.reduceLT, Int.reduceEq, Int.reduceToNat, Nat.reduceMod, Nat.reduceDiv, UInt8.reduceToNat, Nat.reduceLT, w1, e, w2]
theorem c65 (n : Int) (h0 : 0 ≤ n) (h1 : n ≤ 73048) (s : St) (K : AV → St → Prop) : CallW cx 65 [.int .i64 n] s K = K (.int .i64 (wdB n)) s := by
  refine CallW.eq (CallW.fn' (fn := ir65) rfl rfl (by kernel_rfl) ir65.eq_1 ?_) K
  unfold wdB
  have w1 : IntKind.i64.wrap (n + 5) = n + 5 := wrap_i64 (by omega) (by omega)
  have e : (n + 5).tmod 7 = (n + 5) % 7 := Int.tmod_eq_emod_of_nonneg (by omega)
  have w2 : IntKind.i64.wrap ((n + 5) % 7 + 1) = (n + 5) % 7 + 1 := wrap_i64 (by omega) (by omega)
  simp +contextual -implicitDefEqProofs (maxSteps := 4000000) only [go_sem, ↓reduceIte, Nat.reduceEqDiff, Nat.reduceAdd, Int.reduceLE, Int.reduceLT, Int.reduceEq, Int.reduceToNat, Nat.reduceMod, Nat.reduceDiv, UInt8.reduceToNat, Nat.reduceLT, w1, e, w2]
theorem c64 (n : Int) (h0 : 0 ≤ n) (h1 : n ≤ 73048) (s : St) (K : AV → St → Prop) : CallW cx 64 [.int .i64 n] s K = K (.tuple [.int .i64 (wdB n), .int .i64 0]) s := by
  refine CallW.eq (CallW.fn' (fn := ir64) rfl rfl (by kernel_rfl) ir64.eq_1 ?_) K
  have k := fun st K => c78 n h0 h1 st K
  have k2 := fun st K => c76 n st K
  rw [if_neg (by omega)] at k2
  simp +contextual -implicitDefEqProofs (maxSteps := 4000000) only [go_sem, ↓reduceIte, Nat.reduceEqDiff, Nat.reduceAdd, Int.reduceLE, Int.reduceLT, Int.reduceEq, Int.reduceToNat, Nat.reduceMod, Nat.reduceDiv, UInt8.reduceToNat, Nat.reduceLT, k, k2, ne_00]
end T06


namespace T06
variable [Mm]
open Go Fw Go.Proofs
set_option maxRecDepth 100000
set_option maxHeartbeats 4000000
theorem mSum_le (y : Int) {k : Nat} (h : k ≤ 12) : mSum y k ≤ 366 := by
  have := mSum_mono y h
  rw [mSum_12] at this
  split at this <;> omega
theorem beg_bounds {y : Int} (h1 : 1 ≤ y) (h2 : y ≤ 100000) : -1000000 ≤ begB y ∧ begB y ≤ 40000000 := by
  rw [beg_e h1]; omega
theorem l32 (y m d : Int) (hm : m ≤ 13) (A : Int) (hA : -100000000 ≤ A ∧ A ≤ 100000000) (C : Nat) (ty : Option TypeId) (st : St) (hlk : Fw.look C st.heap = some (.cells ty [.int .i64 y, .int .i64 m, .int .i64 d])) (Q : Sig → FE → St → Prop) :
    ∀ (n i : Nat) (e : FE), i + n = m.toNat - 1 → e 1 = .ptr C 0 → e 5 = .int .i64 (A + mSum y i) → e 6 = .int .i64 ((i : Int) + 1) → (∀ e', e' 5 = .int .i64 (A + mSum y (m.toNat - 1)) → Q (.exit 0) e' st) → WLoop cx ir32L0 e st Q
  | 0, i, e, hi, h1, h5, h6, hQ => by
    refine WLoop.rnd (c := _) ir32L0.eq_1 ?_
    have hd : decide (((i : Int) + 1) < m) = false := decide_eq_false (by omega)
    simp +contextual -implicitDefEqProofs (maxSteps := 4000000) only [go_sem, ↓reduceIte, Nat.reduceEqDiff, Nat.reduceAdd, Int.reduceLE, Int.reduceLT, Int.reduceEq, Int.reduceToNat, Nat.reduceMod, Nat.reduceDiv, UInt8.reduceToNat, Nat.reduceLT, h1, h5, h6, hlk, hd]
    exact hQ _ (h5.trans (by rw [show m.toNat - 1 = i by omega]))
  | n + 1, i, e, hi, h1, h5, h6, hQ => by
    refine WLoop.rnd (c := _) ir32L0.eq_1 ?_
    have hd : decide (((i : Int) + 1) < m) = true := decide_eq_true (by omega)
    have hb := mSum_le y (k := i + 1) (by omega)
    have hb0 := mSum_nn y i
    have hb2 := din_nn y ((i : Int) + 1)
    have e1 : mSum y (i + 1) = mSum y i + dinB y ((i : Int) + 1) := rfl
    have w1 : IntKind.i64.wrap (A + mSum y i + dinB y ((i : Int) + 1)) = A + mSum y (i + 1) := by rw [wrap_i64 (by omega) (by omega)]; omega
    have w2 : IntKind.i64.wrap ((i : Int) + 1 + 1) = ((i + 1 : Nat) : Int) + 1 := by rw [wrap_i64 (by omega) (by omega)]; omega
    obtain ⟨j, hj⟩ : ∃ j : Int, (i : Int) + 1 = j := ⟨_, rfl⟩
    rw [hj] at hd w1 w2 h6
    simp +contextual -implicitDefEqProofs (maxSteps := 4000000) only [go_sem, ↓reduceIte, Nat.reduceEqDiff, Nat.reduceAdd, Int.reduceLE, Int.reduceLT, Int.reduceEq, Int.reduceToNat, Nat.reduceMod, Nat.reduceDiv, UInt8.reduceToNat, Nat.reduceLT, h1, h5, h6, hlk, hd, c57, w1, w2]
    exact l32 y m d hm A hA C ty st hlk Q n (i + 1) _ (by omega) h1 rfl rfl hQ
theorem c32 (y m d : Int) (s : St) (K : AV → St → Prop) : CallW cx 32 [.agg [.int .i64 y, .int .i64 m, .int .i64 d]] s K = K (.tuple [.int .i64 (if chkD ⟨y, m, d⟩ = 0 then dayB ⟨y, m, d⟩ else 0), .int .i64 (chkD ⟨y, m, d⟩)]) s := by
  refine CallW.eq (CallW.fn' (fn := ir32) rfl rfl (by kernel_rfl) ir32.eq_1 ?_) K
  by_cases hc : chkD ⟨y, m, d⟩ = 0
  · obtain ⟨hv, hy⟩ := chkD_ok hc
    have v1 := hv.y; have v2 := hv.m1; have v3 := hv.m2; have v4 := hv.d1; have v5 := hv.d2
    simp only at v1 v2 v3 v4 v5 hy
    have v6 := (din_pos (y := y) v2 v3).2
    have hbb := beg_bounds (y := y) (by omega) (by omega)
    have k := fun st K => c58 y (by omega) (by omega) st K
    have w1 : IntKind.i64.wrap (begB y + d) = begB y + d := wrap_i64 (by omega) (by omega)
    have w2 : IntKind.i64.wrap (begB y + d - 1) = begB y + d - 1 := wrap_i64 (by omega) (by omega)
    have hd : decide (chkD ⟨y, m, d⟩ ≠ 0) = false := by simp [hc]
    rw [if_pos hc, hc]
    have k2 := fun st K => c31 y m d st K
    rw [hc] at k2
    simp +contextual -implicitDefEqProofs (maxSteps := 4000000) only [go_sem, ↓reduceIte, Nat.reduceEqDiff, Nat.reduceAdd, Int.reduceLE, Int.reduceLT, Int.reduceEq, Int.reduceToNat, Nat.reduceMod, Nat.reduceDiv, UInt8.reduceToNat, Nat.reduceLT, k2, ne_00, k, w1, w2]
    refine l32 y m d (by omega) (begB y + d - 1) (by omega) s.next (some 23) _ (by simp only [Fw.look, if_true]) _ (m.toNat - 1) 0 _ (by omega) rfl (by show AV.int .i64 (begB y + d - 1) = _; congr 1; simp [mSum]) rfl ?_
    intro e' h5
    have e2 : begB y + d - 1 + mSum y (m.toNat - 1) = dayB ⟨y, m, d⟩ := by unfold dayB; simp only; omega
    rw [e2] at h5
    simp +contextual -implicitDefEqProofs (maxSteps := 4000000) only [go_sem, ↓reduceIte, Nat.reduceEqDiff, Nat.reduceAdd, Int.reduceLE, Int.reduceLT, Int.reduceEq, Int.reduceToNat, Nat.reduceMod, Nat.reduceDiv, UInt8.reduceToNat, Nat.reduceLT, h5]
  · have hd : decide (chkD ⟨y, m, d⟩ ≠ 0) = true := by simp [hc]
    rw [if_neg hc]
    simp +contextual -implicitDefEqProofs (maxSteps := 4000000) only [go_sem, ↓reduceIte, Nat.reduceEqDiff, Nat.reduceAdd, Int.reduceLE, Int.reduceLT, Int.reduceEq, Int.reduceToNat, Nat.reduceMod, Nat.reduceDiv, UInt8.reduceToNat, Nat.reduceLT, c31, hd]
theorem l036 (y m d : Int) (hy : y ≤ 100000) (hd : -1000000 ≤ d ∧ d ≤ 1000000) (C : Nat) (ty : Option TypeId) (st : St) (hlk : Fw.look C st.heap = some (.cells ty [.int .i64 y, .int .i64 m, .int .i64 d])) (Q : Sig → FE → St → Prop) :
    ∀ (n : Nat) (x : Int) (e : FE), 2000 ≤ x → x + n = y → e 1 = .ptr C 0 → e 3 = .int .i64 (d - 1 + begB x) → e 4 = .int .i64 x → (∀ e', e' 1 = .ptr C 0 → e' 3 = .int .i64 (d - 1 + begB y) → Q (.exit 0) e' st) → WLoop cx ir36L0 e st Q
  | 0, x, e, hx, hxy, h1, h3, h4, hQ => by
    refine WLoop.rnd (c := _) ir36L0.eq_1 ?_
    have hd : decide (x < y) = false := decide_eq_false (by omega)
    simp +contextual -implicitDefEqProofs (maxSteps := 4000000) only [go_sem, ↓reduceIte, Nat.reduceEqDiff, Nat.reduceAdd, Int.reduceLE, Int.reduceLT, Int.reduceEq, Int.reduceToNat, Nat.reduceMod, Nat.reduceDiv, UInt8.reduceToNat, Nat.reduceLT, h1, h3, h4, hlk, hd]
    exact hQ _ h1 (h3.trans (by rw [show y = x by omega]))
  | n + 1, x, e, hx, hxy, h1, h3, h4, hQ => by
    refine WLoop.rnd (c := _) ir36L0.eq_1 ?_
    have hd : decide (x < y) = true := decide_eq_true (by omega)
    have hb := beg_bounds (y := x) (by omega) (by omega)
    have hs := beg_step (y := x) (by omega)
    have w1 : IntKind.i64.wrap (d - 1 + begB x + 365) = d - 1 + begB x + 365 := wrap_i64 (by omega) (by omega)
    have w2 : IntKind.i64.wrap (d - 1 + begB x + 365 + 1) = d - 1 + begB x + 365 + 1 := wrap_i64 (by omega) (by omega)
    have w3 : IntKind.i64.wrap (x + 1) = x + 1 := wrap_i64 (by omega) (by omega)
    obtain ⟨b, hb'⟩ : ∃ b : Int, d - 1 + begB x = b := ⟨_, rfl⟩
    rw [hb'] at h3 w1 w2
    cases hl : leapB x
    · rw [hl, if_neg (by decide)] at hs
      simp +contextual -implicitDefEqProofs (maxSteps := 4000000) only [go_sem, ↓reduceIte, Nat.reduceEqDiff, Nat.reduceAdd, Int.reduceLE, Int.reduceLT, Int.reduceEq, Int.reduceToNat, Nat.reduceMod, Nat.reduceDiv, UInt8.reduceToNat, Nat.reduceLT, h1, h3, h4, hlk, hd, c60, hl, w1, w3]
      exact l036 y m d hy ‹_› C ty st hlk Q n (x + 1) _ (by omega) (by omega) h1 (by show AV.int .i64 (b + 365) = _; congr 1; omega) rfl hQ
    · rw [hl, if_pos rfl] at hs
      simp +contextual -implicitDefEqProofs (maxSteps := 4000000) only [go_sem, ↓reduceIte, Nat.reduceEqDiff, Nat.reduceAdd, Int.reduceLE, Int.reduceLT, Int.reduceEq, Int.reduceToNat, Nat.reduceMod, Nat.reduceDiv, UInt8.reduceToNat, Nat.reduceLT, h1, h3, h4, hlk, hd, c60, hl, w1, w2, w3]
      exact l036 y m d hy ‹_› C ty st hlk Q n (x + 1) _ (by omega) (by omega) h1 (by show AV.int .i64 (b + 365 + 1) = _; congr 1; omega) rfl hQ
theorem l136 (y m d : Int) (hm : m ≤ 13) (A : Int) (hA : -100000000 ≤ A ∧ A ≤ 100000000) (C : Nat) (ty : Option TypeId) (st : St) (hlk : Fw.look C st.heap = some (.cells ty [.int .i64 y, .int .i64 m, .int .i64 d])) (Q : Sig → FE → St → Prop) :
    ∀ (n i : Nat) (e : FE), i + n = m.toNat - 1 → e 1 = .ptr C 0 → e 3 = .int .i64 (A + mSum y i) → e 5 = .int .i64 ((i : Int) + 1) → (∀ e', e' 3 = .int .i64 (A + mSum y (m.toNat - 1)) → Q (.exit 2) e' st) → WLoop cx ir36L1 e st Q
  | 0, i, e, hi, h1, h5, h6, hQ => by
    refine WLoop.rnd (c := _) ir36L1.eq_1 ?_
    have hd : decide (((i : Int) + 1) < m) = false := decide_eq_false (by omega)
    simp +contextual -implicitDefEqProofs (maxSteps := 4000000) only [go_sem, ↓reduceIte, Nat.reduceEqDiff, Nat.reduceAdd, Int.reduceLE, Int.reduceLT, Int.reduceEq, Int.reduceToNat, Nat.reduceMod, Nat.reduceDiv, UInt8.reduceToNat, Nat.reduceLT, h1, h5, h6, hlk, hd]
    exact hQ _ (h5.trans (by rw [show m.toNat - 1 = i by omega]))
  | n + 1, i, e, hi, h1, h5, h6, hQ => by
    refine WLoop.rnd (c := _) ir36L1.eq_1 ?_
    have hd : decide (((i : Int) + 1) < m) = true := decide_eq_true (by omega)
    have hb := mSum_le y (k := i + 1) (by omega)
    have hb0 := mSum_nn y i
    have hb2 := din_nn y ((i : Int) + 1)
    have e1 : mSum y (i + 1) = mSum y i + dinB y ((i : Int) + 1) := rfl
    have w1 : IntKind.i64.wrap (A + mSum y i + dinB y ((i : Int) + 1)) = A + mSum y (i + 1) := by rw [wrap_i64 (by omega) (by omega)]; omega
    have w2 : IntKind.i64.wrap ((i : Int) + 1 + 1) = ((i + 1 : Nat) : Int) + 1 := by rw [wrap_i64 (by omega) (by omega)]; omega
    obtain ⟨j, hj⟩ : ∃ j : Int, (i : Int) + 1 = j := ⟨_, rfl⟩
    rw [hj] at hd w1 w2 h6
    simp +contextual -implicitDefEqProofs (maxSteps := 4000000) only [go_sem, ↓reduceIte, Nat.reduceEqDiff, Nat.reduceAdd, Int.reduceLE, Int.reduceLT, Int.reduceEq, Int.reduceToNat, Nat.reduceMod, Nat.reduceDiv, UInt8.reduceToNat, Nat.reduceLT, h1, h5, h6, hlk, hd, c59, w1, w2]
    exact l136 y m d hm A hA C ty st hlk Q n (i + 1) _ (by omega) h1 rfl rfl hQ
theorem c36 (y m d : Int) (h1 : 2000 ≤ y) (h2 : y ≤ 100000) (h3 : 1 ≤ m) (h4 : m ≤ 13) (h5 : -1000000 ≤ d ∧ d ≤ 1000000) (s : St) (K : AV → St → Prop) : CallW cx 36 [.agg [.int .i64 y, .int .i64 m, .int .i64 d]] s K = K (.int .i64 (dayB ⟨y, m, d⟩)) s := by
  refine CallW.eq (CallW.fn' (fn := ir36) rfl rfl (by kernel_rfl) ir36.eq_1 ?_) K
  have hb0 : begB 2000 = 0 := by decide
  have hbb := beg_bounds (y := y) (by omega) (by omega)
  have w1 : IntKind.i64.wrap (d - 1) = d - 1 := wrap_i64 (by omega) (by omega)
  simp +contextual -implicitDefEqProofs (maxSteps := 4000000) only [go_sem, ↓reduceIte, Nat.reduceEqDiff, Nat.reduceAdd, Int.reduceLE, Int.reduceLT, Int.reduceEq, Int.reduceToNat, Nat.reduceMod, Nat.reduceDiv, UInt8.reduceToNat, Nat.reduceLT, w1]
  refine l036 y m d h2 h5 s.next (some 23) _ (by simp only [Fw.look, if_true]) _ (y - 2000).toNat 2000 _ (Int.le_refl _) (by omega) rfl (by show AV.int .i64 (d - 1) = _; rw [hb0]; congr 1; omega) rfl ?_
  intro e' g1 g3
  simp +contextual -implicitDefEqProofs (maxSteps := 4000000) only [go_sem, ↓reduceIte, Nat.reduceEqDiff, Nat.reduceAdd, Int.reduceLE, Int.reduceLT, Int.reduceEq, Int.reduceToNat, Nat.reduceMod, Nat.reduceDiv, UInt8.reduceToNat, Nat.reduceLT, g1, g3]
  refine l136 y m d h4 (d - 1 + begB y) (by omega) s.next (some 23) _ (by simp only [Fw.look, if_true]) _ (m.toNat - 1) 0 _ (by omega) g1 (by show e' 3 = _; rw [g3]; simp [mSum]) rfl ?_
  intro e2 g5
  have e3 : d - 1 + begB y + mSum y (m.toNat - 1) = dayB ⟨y, m, d⟩ := by unfold dayB; simp only; omega
  rw [e3] at g5
  simp +contextual -implicitDefEqProofs (maxSteps := 4000000) only [go_sem, ↓reduceIte, Nat.reduceEqDiff, Nat.reduceAdd, Int.reduceLE, Int.reduceLT, Int.reduceEq, Int.reduceToNat, Nat.reduceMod, Nat.reduceDiv, UInt8.reduceToNat, Nat.reduceLT, g5]
theorem l077 (day : Int) (hday : day ≤ 10000000) (N : Nat) (h : List (Nat × AObj)) (a b : AObj) (ty : Option TypeId) (m d : Int) (Q : Sig → FE → St → Prop) :
    ∀ (n : Nat) (y : Int) (e : FE), 1 ≤ y → y + n ≤ 50000 → day < begB (y + n + 1) → e 0 = .int .i64 day → e 3 = .ptr (N + 1) 0 →
    (∀ e', e' 0 = .int .i64 day → e' 2 = e 2 → e' 3 = .ptr (N + 1) 0 → Q (.exit 0) e' { heap := (N + 1, .cells ty [.int .i64 (yrB day n y), .int .i64 m, .int .i64 d]) :: (N, b) :: h, next := N + 2, low := N }) →
    WLoop cx ir77L0 e { heap := (N + 1, .cells ty [.int .i64 y, .int .i64 m, .int .i64 d]) :: (N, b) :: h, next := N + 2, low := N } Q
  | 0, y, e, hy, hy2, hd, h0, h3, hQ => by
    refine WLoop.rnd (c := _) ir77L0.eq_1 ?_
    rw [show y + (0 : Nat) + 1 = y + 1 by omega] at hd
    have w1 : IntKind.i64.wrap (y + 1) = y + 1 := wrap_i64 (by omega) (by omega)
    have k := fun st K => c58 (y + 1) (by omega) (by omega) st K
    have d1 : decide (begB (y + 1) ≤ day) = false := decide_eq_false (by omega)
    simp +contextual -implicitDefEqProofs (maxSteps := 4000000) only [go_sem, ↓reduceIte, Nat.reduceEqDiff, Nat.reduceAdd, Int.reduceLE, Int.reduceLT, Int.reduceEq, Int.reduceToNat, Nat.reduceMod, Nat.reduceDiv, UInt8.reduceToNat, Nat.reduceLT, h0, h3, w1, k, d1]
    exact hQ _ h0 rfl h3
  | n + 1, y, e, hy, hy2, hd, h0, h3, hQ => by
    refine WLoop.rnd (c := _) ir77L0.eq_1 ?_
    have w1 : IntKind.i64.wrap (y + 1) = y + 1 := wrap_i64 (by omega) (by omega)
    have k := fun st K => c58 (y + 1) (by omega) (by omega) st K
    have hmin : min N (N + 1) = N := by omega
    simp only [yrB] at hQ
    by_cases hb : begB (y + 1) ≤ day
    · have d1 := decide_eq_true hb
      rw [if_pos hb] at hQ
      simp +contextual -implicitDefEqProofs (maxSteps := 4000000) only [go_sem, ↓reduceIte, Nat.reduceEqDiff, Nat.reduceAdd, Int.reduceLE, Int.reduceLT, Int.reduceEq, Int.reduceToNat, Nat.reduceMod, Nat.reduceDiv, UInt8.reduceToNat, Nat.reduceLT, h0, h3, w1, k, d1, hmin]
      exact l077 day hday N h a b ty m d Q n (y + 1) _ (by omega) (by omega) (by rw [show y + 1 + (n : Int) + 1 = y + ((n + 1 : Nat) : Int) + 1 by omega]; exact hd) h0 h3 hQ
    · have d1 := decide_eq_false hb
      rw [if_neg hb] at hQ
      simp +contextual -implicitDefEqProofs (maxSteps := 4000000) only [go_sem, ↓reduceIte, Nat.reduceEqDiff, Nat.reduceAdd, Int.reduceLE, Int.reduceLT, Int.reduceEq, Int.reduceToNat, Nat.reduceMod, Nat.reduceDiv, UInt8.reduceToNat, Nat.reduceLT, h0, h3, w1, k, d1]
      exact hQ _ h0 rfl h3
theorem l177 (N : Nat) (h : List (Nat × AObj)) (b : AObj) (ty : Option TypeId) (y d : Int) (Q : Sig → FE → St → Prop) :
    ∀ (n : Nat) (r m : Int) (e : FE), 1 ≤ m → m + n = 13 → 0 ≤ r → r + mSum y (m.toNat - 1) < mSum y 12 → e 3 = .ptr (N + 1) 0 → e 4 = .int .i64 r →
    (∀ e', e' 2 = e 2 → e' 3 = .ptr (N + 1) 0 → e' 4 = .int .i64 (moB y n r m).1 → Q (.exit 2) e' { heap := (N + 1, .cells ty [.int .i64 y, .int .i64 (moB y n r m).2, .int .i64 d]) :: (N, b) :: h, next := N + 2, low := N }) →
    WLoop cx ir77L1 e { heap := (N + 1, .cells ty [.int .i64 y, .int .i64 m, .int .i64 d]) :: (N, b) :: h, next := N + 2, low := N } Q
  | 0, r, m, e, h1, h2, h3, h4, g3, g4, hQ => by
    exfalso
    have : m.toNat - 1 = 12 := by omega
    rw [this] at h4; omega
  | n + 1, r, m, e, h1, h2, h3, h4, g3, g4, hQ => by
    refine WLoop.rnd (c := _) ir77L1.eq_1 ?_
    have hs := mSum_m (y := y) h1
    have hb2 := din_nn y m
    have hle := mSum_le y (k := 12) (Nat.le_refl _)
    have hnn := mSum_nn y (m.toNat - 1)
    have w1 : IntKind.i64.wrap (m + 1) = m + 1 := wrap_i64 (by omega) (by omega)
    have hmin : min N (N + 1) = N := by omega
    simp only [moB] at hQ
    by_cases hd : dinB y m ≤ r
    · have d1 := decide_eq_true hd
      rw [if_pos hd] at hQ
      have w2 : IntKind.i64.wrap (r - dinB y m) = r - dinB y m := wrap_i64 (by omega) (by omega)
      simp +contextual -implicitDefEqProofs (maxSteps := 4000000) only [go_sem, ↓reduceIte, Nat.reduceEqDiff, Nat.reduceAdd, Int.reduceLE, Int.reduceLT, Int.reduceEq, Int.reduceToNat, Nat.reduceMod, Nat.reduceDiv, UInt8.reduceToNat, Nat.reduceLT, g3, g4, c57, d1, w1, w2, hmin]
      have e1 : (m + 1).toNat - 1 = m.toNat := by omega
      exact l177 N h b ty y d Q n (r - dinB y m) (m + 1) _ (by omega) (by omega) (by omega) (by rw [e1]; omega) g3 rfl hQ
    · have d1 := decide_eq_false hd
      rw [if_neg hd] at hQ
      simp +contextual -implicitDefEqProofs (maxSteps := 4000000) only [go_sem, ↓reduceIte, Nat.reduceEqDiff, Nat.reduceAdd, Int.reduceLE, Int.reduceLT, Int.reduceEq, Int.reduceToNat, Nat.reduceMod, Nat.reduceDiv, UInt8.reduceToNat, Nat.reduceLT, g3, g4, c57, d1]
      exact hQ _ rfl g3 g4
theorem of_facts {day : Int} (h0 : 0 ≤ day) (h1 : day ≤ 73048) : ∃ y, yrB day 300 (2000 + day.tdiv 366) = y ∧ 2000 ≤ y ∧ y ≤ 2300 ∧ begB y ≤ day ∧ day < begB (y + 1) ∧ (ofB day) = ⟨y, (moB y 12 (day - begB y) 1).2, (moB y 12 (day - begB y) 1).1 + 1⟩ := by
  have hd : 0 ≤ day.tdiv 366 := by rw [Int.tdiv_eq_ediv_of_nonneg h0]; omega
  have hv := ofB_ok h0 h1
  obtain ⟨a1, a2, a3⟩ := yrB_ok day 300 (2000 + day.tdiv 366) (by omega) (beg_366 h0) (beg_far h1 (by omega))
  refine ⟨_, rfl, by omega, ?_, a2, a3, rfl⟩
  have h2 : ∀ z, 2300 < z → 73048 < begB z := fun z hz => by rw [beg_e (by omega)]; omega
  apply Classical.byContradiction
  intro hc
  have := h2 _ (Int.not_le.1 hc)
  omega
theorem c77 (day : Int) (h0 : 0 ≤ day) (h1 : day ≤ 73048) (s : St) (K : AV → St → Prop) : CallW cx 77 [.int .i64 day] s K = K (.agg [.int .i64 (ofB day).y, .int .i64 (ofB day).m, .int .i64 (ofB day).d]) s := by
  refine CallW.eq (CallW.fn' (fn := ir77) rfl rfl (by kernel_rfl) ir77.eq_1 ?_) K
  obtain ⟨y, hy, y1, y2, y3, y4, hof⟩ := of_facts h0 h1
  rw [hof]
  simp only
  have hd : 0 ≤ day.tdiv 366 := by rw [Int.tdiv_eq_ediv_of_nonneg h0]; omega
  have hd2 : day.tdiv 366 ≤ 200 := by rw [Int.tdiv_eq_ediv_of_nonneg h0]; omega
  have w1 : IntKind.i64.wrap (day.tdiv 366) = day.tdiv 366 := wrap_i64 (by omega) (by omega)
  have w2 : IntKind.i64.wrap (2000 + day.tdiv 366) = 2000 + day.tdiv 366 := wrap_i64 (by omega) (by omega)
  have hmin : min s.next (s.next + 1) = s.next := by omega
  have hs := beg_step (y := y) (by omega)
  have h12 := mSum_12 y
  have hmo := moB_ok y 12 (day - begB y) 1 (by omega) (by omega) (by omega) (by
    rw [h12, show mSum y ((1 : Int).toNat - 1) = 0 from rfl]; omega)
  simp only at hmo
  have hle := mSum_le y (k := 12) (Nat.le_refl _)
  have hbb := beg_bounds (y := y) (by omega) (by omega)
  have k := fun st K => c58 y (by omega) (by omega) st K
  have w3 : IntKind.i64.wrap (day - begB y) = day - begB y := wrap_i64 (by omega) (by omega)
  have w4 : IntKind.i64.wrap ((moB y 12 (day - begB y) 1).1 + 1) = (moB y 12 (day - begB y) 1).1 + 1 := by
    have b1 := hmo.1; have b2 := hmo.2.2.2.1; have b3 := (din_pos (y := y) hmo.2.1 hmo.2.2.1).2
    exact wrap_i64 (by omega) (by omega)
  simp +contextual -implicitDefEqProofs (maxSteps := 4000000) only [go_sem, ↓reduceIte, Nat.reduceEqDiff, Nat.reduceAdd, Int.reduceLE, Int.reduceLT, Int.reduceEq, Int.reduceToNat, Nat.reduceMod, Nat.reduceDiv, UInt8.reduceToNat, Nat.reduceLT, w1, w2, hmin]
  refine l077 day (by omega) s.next s.heap (.map []) _ (some 23) 1 0 _ 300 (2000 + day.tdiv 366) _ (by omega) (by omega) (beg_far h1 (by omega)) rfl rfl ?_
  intro e' g0 g2 g3
  rw [hy]
  have g2' : e' 2 = .ptr s.next 0 := g2
  simp +contextual -implicitDefEqProofs (maxSteps := 4000000) only [go_sem, ↓reduceIte, Nat.reduceEqDiff, Nat.reduceAdd, Int.reduceLE, Int.reduceLT, Int.reduceEq, Int.reduceToNat, Nat.reduceMod, Nat.reduceDiv, UInt8.reduceToNat, Nat.reduceLT, g0, g2', g3, k, w3]
  refine l177 s.next s.heap _ (some 23) y 0 _ 12 (day - begB y) 1 _ (by omega) (by omega) (by omega) (by rw [h12, show mSum y ((1 : Int).toNat - 1) = 0 from rfl]; omega) g3 rfl ?_
  intro e2 q2 q3 q4
  have q2' : e2 2 = .ptr s.next 0 := q2.trans g2'
  simp +contextual -implicitDefEqProofs (maxSteps := 4000000) only [go_sem, ↓reduceIte, Nat.reduceEqDiff, Nat.reduceAdd, Int.reduceLE, Int.reduceLT, Int.reduceEq, Int.reduceToNat, Nat.reduceMod, Nat.reduceDiv, UInt8.reduceToNat, Nat.reduceLT, q2', q3, q4, w4, hmin]
theorem c63 (day : Int) (h0 : 0 ≤ day) (h1 : day ≤ 73048) (s : St) (K : AV → St → Prop) : CallW cx 63 [.int .i64 day] s K = K (.tuple [.agg [.int .i64 (ofB day).y, .int .i64 (ofB day).m, .int .i64 (ofB day).d], .int .i64 0]) s := by
  refine CallW.eq (CallW.fn' (fn := ir63) rfl rfl (by kernel_rfl) ir63.eq_1 ?_) K
  have k := fun st K => c77 day h0 h1 st K
  have k2 := fun st K => c76 day st K
  rw [if_neg (by omega)] at k2
  simp +contextual -implicitDefEqProofs (maxSteps := 4000000) only [go_sem, ↓reduceIte, Nat.reduceEqDiff, Nat.reduceAdd, Int.reduceLE, Int.reduceLT, Int.reduceEq, Int.reduceToNat, Nat.reduceMod, Nat.reduceDiv, UInt8.reduceToNat, Nat.reduceLT, k, k2, ne_00]
end T06


namespace T06
variable [Mm]
open Go Fw Go.Proofs
set_option maxRecDepth 100000
set_option maxHeartbeats 4000000
theorem dayB_first (y : Int) : dayB ⟨y, 1, 1⟩ = begB y := by
  unfold dayB; simp only; rw [show mSum y ((1 : Int).toNat - 1) = 0 from rfl]; omega
theorem l040 (day : Int) (hday : day ≤ 10000000) (N : Nat) (h : List (Nat × AObj)) (b : AObj) (ty : Option TypeId) (m d : Int) (Q : Sig → FE → St → Prop) :
    ∀ (n : Nat) (y : Int) (e : FE), 2000 ≤ y → y + n ≤ 50000 → day < begB (y + n + 1) → e 0 = .int .i64 day → e 3 = .ptr (N + 1) 0 →
    (∀ e', e' 0 = .int .i64 day → e' 2 = e 2 → e' 3 = .ptr (N + 1) 0 → Q (.exit 0) e' { heap := (N + 1, .cells ty [.int .i64 (yrB day n y), .int .i64 m, .int .i64 d]) :: (N, b) :: h, next := N + 2, low := N }) →
    WLoop cx ir40L0 e { heap := (N + 1, .cells ty [.int .i64 y, .int .i64 m, .int .i64 d]) :: (N, b) :: h, next := N + 2, low := N } Q
  | 0, y, e, hy, hy2, hd, h0, h3, hQ => by
    refine WLoop.rnd (c := _) ir40L0.eq_1 ?_
    rw [show y + (0 : Nat) + 1 = y + 1 by omega] at hd
    have w1 : IntKind.i64.wrap (y + 1) = y + 1 := wrap_i64 (by omega) (by omega)
    have k := fun st K => c36 (y + 1) 1 1 (by omega) (by omega) (by omega) (by omega) (by omega) st K
    rw [dayB_first] at k
    have d1 : decide (begB (y + 1) ≤ day) = false := decide_eq_false (by omega)
    simp +contextual -implicitDefEqProofs (maxSteps := 4000000) only [go_sem, ↓reduceIte, Nat.reduceEqDiff, Nat.reduceAdd, Int.reduceLE, Int.reduceLT, Int.reduceEq, Int.reduceToNat, Nat.reduceMod, Nat.reduceDiv, UInt8.reduceToNat, Nat.reduceLT, h0, h3, w1, k, d1]
    exact hQ _ h0 rfl h3
  | n + 1, y, e, hy, hy2, hd, h0, h3, hQ => by
    refine WLoop.rnd (c := _) ir40L0.eq_1 ?_
    have w1 : IntKind.i64.wrap (y + 1) = y + 1 := wrap_i64 (by omega) (by omega)
    have k := fun st K => c36 (y + 1) 1 1 (by omega) (by omega) (by omega) (by omega) (by omega) st K
    rw [dayB_first] at k
    have hmin : min N (N + 1) = N := by omega
    simp only [yrB] at hQ
    by_cases hb : begB (y + 1) ≤ day
    · have d1 := decide_eq_true hb
      rw [if_pos hb] at hQ
      simp +contextual -implicitDefEqProofs (maxSteps := 4000000) only [go_sem, ↓reduceIte, Nat.reduceEqDiff, Nat.reduceAdd, Int.reduceLE, Int.reduceLT, Int.reduceEq, Int.reduceToNat, Nat.reduceMod, Nat.reduceDiv, UInt8.reduceToNat, Nat.reduceLT, h0, h3, w1, k, d1, hmin]
      exact l040 day hday N h b ty m d Q n (y + 1) _ (by omega) (by omega) (by rw [show y + 1 + (n : Int) + 1 = y + ((n + 1 : Nat) : Int) + 1 by omega]; exact hd) h0 h3 hQ
    · have d1 := decide_eq_false hb
      rw [if_neg hb] at hQ
      simp +contextual -implicitDefEqProofs (maxSteps := 4000000) only [go_sem, ↓reduceIte, Nat.reduceEqDiff, Nat.reduceAdd, Int.reduceLE, Int.reduceLT, Int.reduceEq, Int.reduceToNat, Nat.reduceMod, Nat.reduceDiv, UInt8.reduceToNat, Nat.reduceLT, h0, h3, w1, k, d1]
      exact hQ _ h0 rfl h3
theorem l140 (day : Int) (hday : day ≤ 10000000) (N : Nat) (h : List (Nat × AObj)) (b : AObj) (ty : Option TypeId) (y d : Int) (hy : 2000 ≤ y) (hy2 : y ≤ 50000) (Q : Sig → FE → St → Prop) :
    ∀ (n : Nat) (m : Int) (e : FE), 1 ≤ m → m + n = 13 → m ≤ 12 → e 0 = .int .i64 day → e 3 = .ptr (N + 1) 0 →
    (∀ e', e' 0 = .int .i64 day → e' 2 = e 2 → e' 3 = .ptr (N + 1) 0 → Q (.exit 2) e' { heap := (N + 1, .cells ty [.int .i64 y, .int .i64 (moR y day n m), .int .i64 d]) :: (N, b) :: h, next := N + 2, low := N }) →
    WLoop cx ir40L1 e { heap := (N + 1, .cells ty [.int .i64 y, .int .i64 m, .int .i64 d]) :: (N, b) :: h, next := N + 2, low := N } Q
  | 0, m, e, h1, h2, h3, g0, g3, hQ => by omega
  | n + 1, m, e, h1, h2, h3, g0, g3, hQ => by
    refine WLoop.rnd (c := _) ir40L1.eq_1 ?_
    have w1 : IntKind.i64.wrap (m + 1) = m + 1 := wrap_i64 (by omega) (by omega)
    have hmin : min N (N + 1) = N := by omega
    simp only [moR] at hQ
    by_cases hm : m < 12
    · have d0 := decide_eq_true hm
      have k := fun st K => c36 y (m + 1) 1 hy (by omega) (by omega) (by omega) (by omega) st K
      by_cases hb : dayB ⟨y, m + 1, 1⟩ ≤ day
      · have d1 := decide_eq_true hb
        rw [if_pos ⟨hm, hb⟩] at hQ
        simp +contextual -implicitDefEqProofs (maxSteps := 4000000) only [go_sem, ↓reduceIte, Nat.reduceEqDiff, Nat.reduceAdd, Int.reduceLE, Int.reduceLT, Int.reduceEq, Int.reduceToNat, Nat.reduceMod, Nat.reduceDiv, UInt8.reduceToNat, Nat.reduceLT, g0, g3, d0, w1, k, d1, hmin]
        exact l140 day hday N h b ty y d hy hy2 Q n (m + 1) _ (by omega) (by omega) (by omega) g0 g3 hQ
      · have d1 := decide_eq_false hb
        rw [if_neg (fun h => hb h.2)] at hQ
        simp +contextual -implicitDefEqProofs (maxSteps := 4000000) only [go_sem, ↓reduceIte, Nat.reduceEqDiff, Nat.reduceAdd, Int.reduceLE, Int.reduceLT, Int.reduceEq, Int.reduceToNat, Nat.reduceMod, Nat.reduceDiv, UInt8.reduceToNat, Nat.reduceLT, g0, g3, d0, w1, k, d1, hmin]
        exact hQ _ g0 rfl g3
    · have d0 := decide_eq_false hm
      rw [if_neg (fun h => hm h.1)] at hQ
      simp +contextual -implicitDefEqProofs (maxSteps := 4000000) only [go_sem, ↓reduceIte, Nat.reduceEqDiff, Nat.reduceAdd, Int.reduceLE, Int.reduceLT, Int.reduceEq, Int.reduceToNat, Nat.reduceMod, Nat.reduceDiv, UInt8.reduceToNat, Nat.reduceLT, g0, g3, d0]
      exact hQ _ g0 rfl g3
theorem c40 (day : Int) (h0 : 0 ≤ day) (h1 : day ≤ 73048) (s : St) (K : AV → St → Prop) : CallW cx 40 [.int .i64 day] s K = K (.agg [.int .i64 (ofB day).y, .int .i64 (ofB day).m, .int .i64 (ofB day).d]) s := by
  refine CallW.eq (CallW.fn' (fn := ir40) rfl rfl (by kernel_rfl) ir40.eq_1 ?_) K
  rw [← ofR_eq h0 h1]
  have b0 : begB 2000 = 0 := by decide
  obtain ⟨a1, a2, a3⟩ := yrB_ok day 300 2000 (by omega) (by omega) (beg_far h1 (by omega))
  have hof : ofR day = ⟨yrB day 300 2000, moR (yrB day 300 2000) day 12 1, 1 + day - dayB ⟨yrB day 300 2000, moR (yrB day 300 2000) day 12 1, 1⟩⟩ := rfl
  rw [hof]
  simp only
  have y2 : yrB day 300 2000 ≤ 2300 := by
    apply Classical.byContradiction
    intro hc
    have h2 : ∀ z, 2300 < z → 73048 < begB z := fun z hz => by rw [beg_e (by omega)]; omega
    have := h2 _ (Int.not_le.1 hc)
    omega
  obtain ⟨b1, b2, b3, b4⟩ := moR_ok (yrB day 300 2000) day a1 a3 12 1 (by omega) (by omega) (by omega) (by rw [dayB_first]; exact a2)
  have hmin : min s.next (s.next + 1) = s.next := by omega
  simp +contextual -implicitDefEqProofs (maxSteps := 4000000) only [go_sem, ↓reduceIte, Nat.reduceEqDiff, Nat.reduceAdd, Int.reduceLE, Int.reduceLT, Int.reduceEq, Int.reduceToNat, Nat.reduceMod, Nat.reduceDiv, UInt8.reduceToNat, Nat.reduceLT, hmin]
  refine l040 day (by omega) s.next s.heap _ (some 23) 1 1 _ 300 2000 _ (by omega) (by omega) (beg_far h1 (by omega)) rfl rfl ?_
  intro e' g0 g2 g3
  have g2' : e' 2 = .ptr s.next 0 := g2
  obtain ⟨y, hy⟩ : ∃ y, yrB day 300 2000 = y := ⟨_, rfl⟩
  rw [hy] at a1 a2 a3 y2 b1 b2 b3 b4 ⊢
  simp +contextual -implicitDefEqProofs (maxSteps := 4000000) only [go_sem, ↓reduceIte, Nat.reduceEqDiff, Nat.reduceAdd, Int.reduceLE, Int.reduceLT, Int.reduceEq, Int.reduceToNat, Nat.reduceMod, Nat.reduceDiv, UInt8.reduceToNat, Nat.reduceLT]
  refine l140 day (by omega) s.next s.heap _ (some 23) y 1 a1 (by omega) _ 12 1 _ (by omega) (by omega) (by omega) g0 g3 ?_
  intro e2 q0 q2 q3
  have q2' : e2 2 = .ptr s.next 0 := q2.trans g2'
  obtain ⟨m, hm⟩ : ∃ m, moR y day 12 1 = m := ⟨_, rfl⟩
  rw [hm] at b1 b2 b3 b4 ⊢
  have k := fun st K => c36 y m 1 a1 (by omega) b1 (by omega) (by omega) st K
  have hdp := (din_pos (y := y) b1 b2).2
  have w1 : IntKind.i64.wrap (1 + day) = 1 + day := wrap_i64 (by omega) (by omega)
  have w2 : IntKind.i64.wrap (1 + day - dayB ⟨y, m, 1⟩) = 1 + day - dayB ⟨y, m, 1⟩ := wrap_i64 (by omega) (by omega)
  simp +contextual -implicitDefEqProofs (maxSteps := 4000000) only [go_sem, ↓reduceIte, Nat.reduceEqDiff, Nat.reduceAdd, Int.reduceLE, Int.reduceLT, Int.reduceEq, Int.reduceToNat, Nat.reduceMod, Nat.reduceDiv, UInt8.reduceToNat, Nat.reduceLT, q0, q2', q3, k, w1, w2, hmin]
theorem c56 (t : Dt) (hv : Valid t) (hy : t.y ≤ 100000) (s : St) (K : AV → St → Prop) : CallW cx 56 [.agg [.int .i64 t.y, .int .i64 t.m, .int .i64 t.d]] s K = K (.agg [.int .i64 (afterB t).y, .int .i64 (afterB t).m, .int .i64 (afterB t).d]) s := by
  refine CallW.eq (CallW.fn' (fn := ir56) rfl rfl (by kernel_rfl) ir56.eq_1 ?_) K
  obtain ⟨y, m, d⟩ := t
  have v1 := hv.y; have v2 := hv.m1; have v3 := hv.m2; have v4 := hv.d1; have v5 := hv.d2
  simp only at v1 v2 v3 v4 v5 hy
  have v6 := (din_pos (y := y) v2 v3).2
  have w1 : IntKind.i64.wrap (d + 1) = d + 1 := wrap_i64 (by omega) (by omega)
  have w2 : IntKind.i64.wrap (m + 1) = m + 1 := wrap_i64 (by omega) (by omega)
  have w3 : IntKind.i64.wrap (y + 1) = y + 1 := wrap_i64 (by omega) (by omega)
  have hmin : min s.next (s.next + 1) = s.next := by omega
  unfold afterB
  simp only
  by_cases hd : dinB y m < d + 1
  · have d1 := decide_eq_true hd
    simp only [gt_iff_lt, if_pos hd]
    by_cases hm : 12 < m + 1
    · have d2 := decide_eq_true hm
      simp only [if_pos hm]
      simp +contextual -implicitDefEqProofs (maxSteps := 4000000) only [go_sem, ↓reduceIte, Nat.reduceEqDiff, Nat.reduceAdd, Int.reduceLE, Int.reduceLT, Int.reduceEq, Int.reduceToNat, Nat.reduceMod, Nat.reduceDiv, UInt8.reduceToNat, Nat.reduceLT, w1, c59, d1, w2, d2, w3, hmin]
    · have d2 := decide_eq_false hm
      simp only [if_neg hm]
      simp +contextual -implicitDefEqProofs (maxSteps := 4000000) only [go_sem, ↓reduceIte, Nat.reduceEqDiff, Nat.reduceAdd, Int.reduceLE, Int.reduceLT, Int.reduceEq, Int.reduceToNat, Nat.reduceMod, Nat.reduceDiv, UInt8.reduceToNat, Nat.reduceLT, w1, c59, d1, w2, d2, hmin]
  · have d1 := decide_eq_false hd
    simp only [gt_iff_lt, if_neg hd]
    have d2 : decide (12 < m) = false := decide_eq_false (by omega)
    rw [if_neg (by omega)]
    simp +contextual -implicitDefEqProofs (maxSteps := 4000000) only [go_sem, ↓reduceIte, Nat.reduceEqDiff, Nat.reduceAdd, Int.reduceLE, Int.reduceLT, Int.reduceEq, Int.reduceToNat, Nat.reduceMod, Nat.reduceDiv, UInt8.reduceToNat, Nat.reduceLT, w1, c59, d1, d2, hmin]
end T06


namespace T06
variable [Mm]
open Go Fw Go.Proofs
set_option maxRecDepth 100000
set_option maxHeartbeats 8000000
theorem eq_noD (a b c : Int) : cellsEq [.int, .int, .int] [.int .i64 a, .int .i64 b, .int .i64 c] [.int .i64 0, .int .i64 0, .int .i64 0] = some (decide ((⟨a, b, c⟩ : Dt) = noD)) := by
  have e : decide ((⟨a, b, c⟩ : Dt) = noD) = (a == 0 && (b == 0 && c == 0)) := by
    rw [Bool.eq_iff_iff]; simp [noD, Dt.mk.injEq]
  rw [e]
  simp only [cellsEq, cellEqK, if_true]
  cases h1 : a == 0 <;> cases h2 : b == 0 <;> cases h3 : c == 0 <;> simp
theorem idx_agg (esz : Nat) (g : Bool) (n : Nat) (cs : List AV) (i : Int) : idxA esz g (some n) (.agg cs) i = if 0 ≤ i ∧ i < n then (sub cs (i.toNat * esz) esz).bind (ofCells g) else none := rfl
theorem iaddr_ptr (esz n id o : Nat) (i : Int) : iaddrA esz (some n) (.ptr id o) i = if 0 ≤ i ∧ i < n then some (.ptr id (o + i.toNat * esz)) else none := rfl
theorem w01 : IntKind.i64.wrap (0 + 1) = 1 := rfl
theorem w11 : IntKind.i64.wrap (1 + 1) = 2 := rfl
theorem eta_D (t : Dt) : (⟨t.y, t.m, t.d⟩ : Dt) = t := rfl
theorem c30 (p : Pat) (s : St) (K : AV → St → Prop) : CallW cx 30 [.agg [.int .i64 p.y, .int .i64 p.m, .int .i64 p.d, .int .i64 p.w, .int .i64 p.k, .int .i64 p.f.y, .int .i64 p.f.m, .int .i64 p.f.d, .int .i64 p.t.y, .int .i64 p.t.m, .int .i64 p.t.d]] s K = K (.bool (isR p)) s := by
  refine CallW.eq (CallW.fn' (fn := ir30) rfl rfl (by kernel_rfl) ir30.eq_1 ?_) K
  unfold isR
  by_cases h1 : p.f = noD
  · by_cases h2 : p.t = noD
    · simp +contextual -implicitDefEqProofs (maxSteps := 4000000) only [go_sem, ↓reduceIte, Nat.reduceEqDiff, Nat.reduceAdd, Int.reduceLE, Int.reduceLT, Int.reduceEq, Int.reduceToNat, Nat.reduceMod, Nat.reduceDiv, UInt8.reduceToNat, Nat.reduceLT, eq_noD, eta_D, h1, h2, decide_true, Bool.not_true]; simp
    · simp +contextual -implicitDefEqProofs (maxSteps := 4000000) only [go_sem, ↓reduceIte, Nat.reduceEqDiff, Nat.reduceAdd, Int.reduceLE, Int.reduceLT, Int.reduceEq, Int.reduceToNat, Nat.reduceMod, Nat.reduceDiv, UInt8.reduceToNat, Nat.reduceLT, eq_noD, eta_D, h1, h2, decide_true, decide_false, Bool.not_true, Bool.not_false]; simp [h2]
  · simp +contextual -implicitDefEqProofs (maxSteps := 4000000) only [go_sem, ↓reduceIte, Nat.reduceEqDiff, Nat.reduceAdd, Int.reduceLE, Int.reduceLT, Int.reduceEq, Int.reduceToNat, Nat.reduceMod, Nat.reduceDiv, UInt8.reduceToNat, Nat.reduceLT, eq_noD, eta_D, h1, decide_false, Bool.not_false]; simp [h1]
theorem c33 (p : Pat) (s : St) (K : AV → St → Prop) : CallW cx 33 [.agg [.int .i64 p.y, .int .i64 p.m, .int .i64 p.d, .int .i64 p.w, .int .i64 p.k, .int .i64 p.f.y, .int .i64 p.f.m, .int .i64 p.f.d, .int .i64 p.t.y, .int .i64 p.t.m, .int .i64 p.t.d]] s K = K (.bool (isR p)) s := by
  refine CallW.eq (CallW.fn' (fn := ir33) rfl rfl (by kernel_rfl) ir33.eq_1 ?_) K
  unfold isR
  by_cases h1 : p.f = noD
  · by_cases h2 : p.t = noD
    · simp +contextual -implicitDefEqProofs (maxSteps := 4000000) only [go_sem, ↓reduceIte, Nat.reduceEqDiff, Nat.reduceAdd, Int.reduceLE, Int.reduceLT, Int.reduceEq, Int.reduceToNat, Nat.reduceMod, Nat.reduceDiv, UInt8.reduceToNat, Nat.reduceLT, eq_noD, eta_D, h1, h2, decide_true, Bool.not_true]; simp
    · simp +contextual -implicitDefEqProofs (maxSteps := 4000000) only [go_sem, ↓reduceIte, Nat.reduceEqDiff, Nat.reduceAdd, Int.reduceLE, Int.reduceLT, Int.reduceEq, Int.reduceToNat, Nat.reduceMod, Nat.reduceDiv, UInt8.reduceToNat, Nat.reduceLT, eq_noD, eta_D, h1, h2, decide_true, decide_false, Bool.not_true, Bool.not_false]; simp [h2]
  · simp +contextual -implicitDefEqProofs (maxSteps := 4000000) only [go_sem, ↓reduceIte, Nat.reduceEqDiff, Nat.reduceAdd, Int.reduceLE, Int.reduceLT, Int.reduceEq, Int.reduceToNat, Nat.reduceMod, Nat.reduceDiv, UInt8.reduceToNat, Nat.reduceLT, eq_noD, eta_D, h1, decide_false, Bool.not_false]; simp [h1]
theorem c29 (n h : Int) (s : St) (K : AV → St → Prop) : CallW cx 29 [.int .i64 n, .int .i64 h] s K = K (.bool (decide (0 ≤ n) && decide (n ≤ h))) s := by
  refine CallW.eq (CallW.fn' (fn := ir29) rfl rfl (by kernel_rfl) ir29.eq_1 ?_) K
  cases h1 : decide (0 ≤ n) <;> cases h2 : decide (n ≤ h)
  all_goals simp +contextual -implicitDefEqProofs (maxSteps := 4000000) only [go_sem, ↓reduceIte, Nat.reduceEqDiff, Nat.reduceAdd, Int.reduceLE, Int.reduceLT, Int.reduceEq, Int.reduceToNat, Nat.reduceMod, Nat.reduceDiv, UInt8.reduceToNat, Nat.reduceLT, h1, h2]
theorem c34 (n l h : Int) (s : St) (K : AV → St → Prop) : CallW cx 34 [.int .i64 n, .int .i64 l, .int .i64 h] s K = K (.bool (decide (l ≤ n) && decide (n ≤ h))) s := by
  refine CallW.eq (CallW.fn' (fn := ir34) rfl rfl (by kernel_rfl) ir34.eq_1 ?_) K
  cases h1 : decide (l ≤ n) <;> cases h2 : decide (n ≤ h)
  all_goals simp +contextual -implicitDefEqProofs (maxSteps := 4000000) only [go_sem, ↓reduceIte, Nat.reduceEqDiff, Nat.reduceAdd, Int.reduceLE, Int.reduceLT, Int.reduceEq, Int.reduceToNat, Nat.reduceMod, Nat.reduceDiv, UInt8.reduceToNat, Nat.reduceLT, h1, h2]
theorem c37 (n : Int) (s : St) (K : AV → St → Prop) : CallW cx 37 [.int .i64 n] s K = K (.bool (decide (0 ≤ n) && decide (n ≤ 73048))) s := by
  refine CallW.eq (CallW.fn' (fn := ir37) rfl rfl (by kernel_rfl) ir37.eq_1 ?_) K
  cases h1 : decide (0 ≤ n) <;> cases h2 : decide (n ≤ 73048)
  all_goals simp +contextual -implicitDefEqProofs (maxSteps := 4000000) only [go_sem, ↓reduceIte, Nat.reduceEqDiff, Nat.reduceAdd, Int.reduceLE, Int.reduceLT, Int.reduceEq, Int.reduceToNat, Nat.reduceMod, Nat.reduceDiv, UInt8.reduceToNat, Nat.reduceLT, h1, h2]
theorem c12 (p : Pat) (s : St) (K : AV → St → Prop) : CallW cx 12 [.agg [.int .i64 p.y, .int .i64 p.m, .int .i64 p.d, .int .i64 p.w, .int .i64 p.k, .int .i64 p.f.y, .int .i64 p.f.m, .int .i64 p.f.d, .int .i64 p.t.y, .int .i64 p.t.m, .int .i64 p.t.d]] s K = K (.int .i64 (chkP p)) s := by
  refine CallW.eq (CallW.fn' (fn := ir12) rfl rfl (by kernel_rfl) ir12.eq_1 ?_) K
  have hR' := fun st K => c30 p st K
  cases hR : isR p
  · rw [hR] at hR'
    cases a1 : decide (p.y ≠ 0)
    · cases b1 : decide (0 ≤ p.m) && decide (p.m ≤ 14)
      · have hb : badF p = true := by unfold badF; simp only [a1, b1, Bool.true_and, Bool.false_and, Bool.and_false, Bool.and_true, Bool.true_or, Bool.or_true, Bool.false_or, Bool.or_false, Bool.not_true, Bool.not_false]
        have hc : chkP p = 6 := by unfold chkP; rw [if_pos hR, hb]; rfl
        rw [hc]
        simp +contextual -implicitDefEqProofs (maxSteps := 4000000) only [go_sem, ↓reduceIte, Nat.reduceEqDiff, Nat.reduceAdd, Int.reduceLE, Int.reduceLT, Int.reduceEq, Int.reduceToNat, Nat.reduceMod, Nat.reduceDiv, UInt8.reduceToNat, Nat.reduceLT, hR', c29, a1, b1, Bool.not_true, Bool.not_false]
      · cases b2 : decide (0 ≤ p.d) && decide (p.d ≤ 34)
        · have hb : badF p = true := by unfold badF; simp only [a1, b1, b2, Bool.true_and, Bool.false_and, Bool.and_false, Bool.and_true, Bool.true_or, Bool.or_true, Bool.false_or, Bool.or_false, Bool.not_true, Bool.not_false]
          have hc : chkP p = 6 := by unfold chkP; rw [if_pos hR, hb]; rfl
          rw [hc]
          simp +contextual -implicitDefEqProofs (maxSteps := 4000000) only [go_sem, ↓reduceIte, Nat.reduceEqDiff, Nat.reduceAdd, Int.reduceLE, Int.reduceLT, Int.reduceEq, Int.reduceToNat, Nat.reduceMod, Nat.reduceDiv, UInt8.reduceToNat, Nat.reduceLT, hR', c29, a1, b1, b2, Bool.not_true, Bool.not_false]
        · cases b3 : decide (0 ≤ p.w) && decide (p.w ≤ 7)
          · have hb : badF p = true := by unfold badF; simp only [a1, b1, b2, b3, Bool.true_and, Bool.false_and, Bool.and_false, Bool.and_true, Bool.true_or, Bool.or_true, Bool.false_or, Bool.or_false, Bool.not_true, Bool.not_false]
            have hc : chkP p = 6 := by unfold chkP; rw [if_pos hR, hb]; rfl
            rw [hc]
            simp +contextual -implicitDefEqProofs (maxSteps := 4000000) only [go_sem, ↓reduceIte, Nat.reduceEqDiff, Nat.reduceAdd, Int.reduceLE, Int.reduceLT, Int.reduceEq, Int.reduceToNat, Nat.reduceMod, Nat.reduceDiv, UInt8.reduceToNat, Nat.reduceLT, hR', c29, a1, b1, b2, b3, Bool.not_true, Bool.not_false]
          · cases b4 : decide (0 ≤ p.k) && decide (p.k ≤ 6)
            · have hb : badF p = true := by unfold badF; simp only [a1, b1, b2, b3, b4, Bool.true_and, Bool.false_and, Bool.and_false, Bool.and_true, Bool.true_or, Bool.or_true, Bool.false_or, Bool.or_false, Bool.not_true, Bool.not_false]
              have hc : chkP p = 6 := by unfold chkP; rw [if_pos hR, hb]; rfl
              rw [hc]
              simp +contextual -implicitDefEqProofs (maxSteps := 4000000) only [go_sem, ↓reduceIte, Nat.reduceEqDiff, Nat.reduceAdd, Int.reduceLE, Int.reduceLT, Int.reduceEq, Int.reduceToNat, Nat.reduceMod, Nat.reduceDiv, UInt8.reduceToNat, Nat.reduceLT, hR', c29, a1, b1, b2, b3, b4, Bool.not_true, Bool.not_false]
            · have hb : badF p = false := by unfold badF; simp only [a1, b1, b2, b3, b4, Bool.true_and, Bool.false_and, Bool.and_false, Bool.and_true, Bool.true_or, Bool.or_true, Bool.false_or, Bool.or_false, Bool.not_true, Bool.not_false]
              have hc : chkP p = 0 := by unfold chkP; rw [if_pos hR, hb]; rfl
              rw [hc]
              simp +contextual -implicitDefEqProofs (maxSteps := 4000000) only [go_sem, ↓reduceIte, Nat.reduceEqDiff, Nat.reduceAdd, Int.reduceLE, Int.reduceLT, Int.reduceEq, Int.reduceToNat, Nat.reduceMod, Nat.reduceDiv, UInt8.reduceToNat, Nat.reduceLT, hR', c29, a1, b1, b2, b3, b4, Bool.not_true, Bool.not_false]
    · cases a2 : decide (p.y < 2000)
      · cases a3 : decide (2199 < p.y)
        · cases b1 : decide (0 ≤ p.m) && decide (p.m ≤ 14)
          · have hb : badF p = true := by unfold badF; simp only [a1, a2, a3, b1, Bool.true_and, Bool.false_and, Bool.and_false, Bool.and_true, Bool.true_or, Bool.or_true, Bool.false_or, Bool.or_false, Bool.not_true, Bool.not_false]
            have hc : chkP p = 6 := by unfold chkP; rw [if_pos hR, hb]; rfl
            rw [hc]
            simp +contextual -implicitDefEqProofs (maxSteps := 4000000) only [go_sem, ↓reduceIte, Nat.reduceEqDiff, Nat.reduceAdd, Int.reduceLE, Int.reduceLT, Int.reduceEq, Int.reduceToNat, Nat.reduceMod, Nat.reduceDiv, UInt8.reduceToNat, Nat.reduceLT, hR', c29, a1, a2, a3, b1, Bool.not_true, Bool.not_false]
          · cases b2 : decide (0 ≤ p.d) && decide (p.d ≤ 34)
            · have hb : badF p = true := by unfold badF; simp only [a1, a2, a3, b1, b2, Bool.true_and, Bool.false_and, Bool.and_false, Bool.and_true, Bool.true_or, Bool.or_true, Bool.false_or, Bool.or_false, Bool.not_true, Bool.not_false]
              have hc : chkP p = 6 := by unfold chkP; rw [if_pos hR, hb]; rfl
              rw [hc]
              simp +contextual -implicitDefEqProofs (maxSteps := 4000000) only [go_sem, ↓reduceIte, Nat.reduceEqDiff, Nat.reduceAdd, Int.reduceLE, Int.reduceLT, Int.reduceEq, Int.reduceToNat, Nat.reduceMod, Nat.reduceDiv, UInt8.reduceToNat, Nat.reduceLT, hR', c29, a1, a2, a3, b1, b2, Bool.not_true, Bool.not_false]
            · cases b3 : decide (0 ≤ p.w) && decide (p.w ≤ 7)
              · have hb : badF p = true := by unfold badF; simp only [a1, a2, a3, b1, b2, b3, Bool.true_and, Bool.false_and, Bool.and_false, Bool.and_true, Bool.true_or, Bool.or_true, Bool.false_or, Bool.or_false, Bool.not_true, Bool.not_false]
                have hc : chkP p = 6 := by unfold chkP; rw [if_pos hR, hb]; rfl
                rw [hc]
                simp +contextual -implicitDefEqProofs (maxSteps := 4000000) only [go_sem, ↓reduceIte, Nat.reduceEqDiff, Nat.reduceAdd, Int.reduceLE, Int.reduceLT, Int.reduceEq, Int.reduceToNat, Nat.reduceMod, Nat.reduceDiv, UInt8.reduceToNat, Nat.reduceLT, hR', c29, a1, a2, a3, b1, b2, b3, Bool.not_true, Bool.not_false]
              · cases b4 : decide (0 ≤ p.k) && decide (p.k ≤ 6)
                · have hb : badF p = true := by unfold badF; simp only [a1, a2, a3, b1, b2, b3, b4, Bool.true_and, Bool.false_and, Bool.and_false, Bool.and_true, Bool.true_or, Bool.or_true, Bool.false_or, Bool.or_false, Bool.not_true, Bool.not_false]
                  have hc : chkP p = 6 := by unfold chkP; rw [if_pos hR, hb]; rfl
                  rw [hc]
                  simp +contextual -implicitDefEqProofs (maxSteps := 4000000) only [go_sem, ↓reduceIte, Nat.reduceEqDiff, Nat.reduceAdd, Int.reduceLE, Int.reduceLT, Int.reduceEq, Int.reduceToNat, Nat.reduceMod, Nat.reduceDiv, UInt8.reduceToNat, Nat.reduceLT, hR', c29, a1, a2, a3, b1, b2, b3, b4, Bool.not_true, Bool.not_false]
                · have hb : badF p = false := by unfold badF; simp only [a1, a2, a3, b1, b2, b3, b4, Bool.true_and, Bool.false_and, Bool.and_false, Bool.and_true, Bool.true_or, Bool.or_true, Bool.false_or, Bool.or_false, Bool.not_true, Bool.not_false]
                  have hc : chkP p = 0 := by unfold chkP; rw [if_pos hR, hb]; rfl
                  rw [hc]
                  simp +contextual -implicitDefEqProofs (maxSteps := 4000000) only [go_sem, ↓reduceIte, Nat.reduceEqDiff, Nat.reduceAdd, Int.reduceLE, Int.reduceLT, Int.reduceEq, Int.reduceToNat, Nat.reduceMod, Nat.reduceDiv, UInt8.reduceToNat, Nat.reduceLT, hR', c29, a1, a2, a3, b1, b2, b3, b4, Bool.not_true, Bool.not_false]
        · have hb : badF p = true := by unfold badF; simp only [a1, a2, a3, Bool.true_and, Bool.false_and, Bool.and_false, Bool.and_true, Bool.true_or, Bool.or_true, Bool.false_or, Bool.or_false, Bool.not_true, Bool.not_false]
          have hc : chkP p = 6 := by unfold chkP; rw [if_pos hR, hb]; rfl
          rw [hc]
          simp +contextual -implicitDefEqProofs (maxSteps := 4000000) only [go_sem, ↓reduceIte, Nat.reduceEqDiff, Nat.reduceAdd, Int.reduceLE, Int.reduceLT, Int.reduceEq, Int.reduceToNat, Nat.reduceMod, Nat.reduceDiv, UInt8.reduceToNat, Nat.reduceLT, hR', c29, a1, a2, a3, Bool.not_true, Bool.not_false]
      · have hb : badF p = true := by unfold badF; simp only [a1, a2, Bool.true_and, Bool.false_and, Bool.and_false, Bool.and_true, Bool.true_or, Bool.or_true, Bool.false_or, Bool.or_false, Bool.not_true, Bool.not_false]
        have hc : chkP p = 6 := by unfold chkP; rw [if_pos hR, hb]; rfl
        rw [hc]
        simp +contextual -implicitDefEqProofs (maxSteps := 4000000) only [go_sem, ↓reduceIte, Nat.reduceEqDiff, Nat.reduceAdd, Int.reduceLE, Int.reduceLT, Int.reduceEq, Int.reduceToNat, Nat.reduceMod, Nat.reduceDiv, UInt8.reduceToNat, Nat.reduceLT, hR', c29, a1, a2, Bool.not_true, Bool.not_false]
  · rw [hR] at hR'
    cases c1 : decide (p.y ≠ 0)
    · cases c2 : decide (p.m ≠ 0)
      · cases c3 : decide (p.d ≠ 0)
        · cases c4 : decide (p.w ≠ 0)
          · cases c5 : decide (p.k ≠ 0)
            · have ha : anyF p = false := by unfold anyF; simp only [c1, c2, c3, c4, c5, Bool.true_and, Bool.false_and, Bool.and_false, Bool.and_true, Bool.true_or, Bool.or_true, Bool.false_or, Bool.or_false, Bool.not_true, Bool.not_false]
              have hmin : min s.next (s.next + 1) = s.next := by omega
              have hmin3 : min s.next (s.next + 3) = s.next := by omega
              simp +contextual -implicitDefEqProofs (maxSteps := 4000000) only [go_sem, ↓reduceIte, Nat.reduceEqDiff, Nat.reduceAdd, Int.reduceLE, Int.reduceLT, Int.reduceEq, Int.reduceToNat, Nat.reduceMod, Nat.reduceDiv, UInt8.reduceToNat, Nat.reduceLT, hR', c1, c2, c3, c4, c5, eq_noD, eta_D, decide_true, decide_false, Bool.not_true, Bool.not_false, hmin, ne_00, idx_agg, iaddr_ptr, w01, w11, hmin3, Nat.reduceMul]
              by_cases hf : p.f = noD
              · have hfd := decide_eq_true hf
                refine WLoop.rnd (c := _) ir12L0.eq_1 ?_
                simp +contextual -implicitDefEqProofs (maxSteps := 4000000) only [go_sem, ↓reduceIte, Nat.reduceEqDiff, Nat.reduceAdd, Int.reduceLE, Int.reduceLT, Int.reduceEq, Int.reduceToNat, Nat.reduceMod, Nat.reduceDiv, UInt8.reduceToNat, Nat.reduceLT, hR', c1, c2, c3, c4, c5, eq_noD, eta_D, decide_true, decide_false, Bool.not_true, Bool.not_false, hmin, ne_00, idx_agg, iaddr_ptr, w01, w11, hmin3, Nat.reduceMul, hfd]
                by_cases ht : p.t = noD
                · have htd := decide_eq_true ht
                  rw [show chkP p = 0 by unfold chkP endE; rw [if_neg (by rw [hR]; decide), ha, if_neg (by decide)]; simp [hf, ht]]
                  refine WLoop.rnd (c := _) ir12L0.eq_1 ?_
                  simp +contextual -implicitDefEqProofs (maxSteps := 4000000) only [go_sem, ↓reduceIte, Nat.reduceEqDiff, Nat.reduceAdd, Int.reduceLE, Int.reduceLT, Int.reduceEq, Int.reduceToNat, Nat.reduceMod, Nat.reduceDiv, UInt8.reduceToNat, Nat.reduceLT, hR', c1, c2, c3, c4, c5, eq_noD, eta_D, decide_true, decide_false, Bool.not_true, Bool.not_false, hmin, ne_00, idx_agg, iaddr_ptr, w01, w11, hmin3, Nat.reduceMul, hfd, htd]
                  refine WLoop.rnd (c := _) ir12L0.eq_1 ?_
                  simp +contextual -implicitDefEqProofs (maxSteps := 4000000) only [go_sem, ↓reduceIte, Nat.reduceEqDiff, Nat.reduceAdd, Int.reduceLE, Int.reduceLT, Int.reduceEq, Int.reduceToNat, Nat.reduceMod, Nat.reduceDiv, UInt8.reduceToNat, Nat.reduceLT, hR', c1, c2, c3, c4, c5, eq_noD, eta_D, decide_true, decide_false, Bool.not_true, Bool.not_false, hmin, ne_00, idx_agg, iaddr_ptr, w01, w11, hmin3, Nat.reduceMul, hfd, htd]
                · have htd := decide_eq_false ht
                  by_cases htc : chkD p.t = 0
                  · have k3 := fun st K => c31 p.t.y p.t.m p.t.d st K
                    have k4 := fun st K => c32 p.t.y p.t.m p.t.d st K
                    rw [eta_D, htc] at k3
                    rw [eta_D, htc, if_pos rfl] at k4
                    by_cases hg : dayB p.t < 0
                    · have dg : decide (dayB p.t < 0) = true := decide_eq_true hg
                      rw [show chkP p = 6 by unfold chkP endE loB hiB; rw [if_neg (by rw [hR]; decide), ha, if_neg (by decide)]; simp [hf, ht, htc, hg]]
                      refine WLoop.rnd (c := _) ir12L0.eq_1 ?_
                      simp +contextual -implicitDefEqProofs (maxSteps := 4000000) only [go_sem, ↓reduceIte, Nat.reduceEqDiff, Nat.reduceAdd, Int.reduceLE, Int.reduceLT, Int.reduceEq, Int.reduceToNat, Nat.reduceMod, Nat.reduceDiv, UInt8.reduceToNat, Nat.reduceLT, hR', c1, c2, c3, c4, c5, eq_noD, eta_D, decide_true, decide_false, Bool.not_true, Bool.not_false, hmin, ne_00, idx_agg, iaddr_ptr, w01, w11, hmin3, Nat.reduceMul, hfd, htd, k3, k4]
                      refine WLoop.rnd (c := _) ir12L0.eq_1 ?_
                      simp +contextual -implicitDefEqProofs (maxSteps := 4000000) only [go_sem, ↓reduceIte, Nat.reduceEqDiff, Nat.reduceAdd, Int.reduceLE, Int.reduceLT, Int.reduceEq, Int.reduceToNat, Nat.reduceMod, Nat.reduceDiv, UInt8.reduceToNat, Nat.reduceLT, hR', c1, c2, c3, c4, c5, eq_noD, eta_D, decide_true, decide_false, Bool.not_true, Bool.not_false, hmin, ne_00, idx_agg, iaddr_ptr, w01, w11, hmin3, Nat.reduceMul, hfd, htd, k3, k4, dg]
                    · have dg : decide (dayB p.t < 0) = false := decide_eq_false hg
                      rw [show chkP p = 0 by unfold chkP endE loB hiB; rw [if_neg (by rw [hR]; decide), ha, if_neg (by decide)]; simp [hf, ht, htc]; omega]
                      refine WLoop.rnd (c := _) ir12L0.eq_1 ?_
                      simp +contextual -implicitDefEqProofs (maxSteps := 4000000) only [go_sem, ↓reduceIte, Nat.reduceEqDiff, Nat.reduceAdd, Int.reduceLE, Int.reduceLT, Int.reduceEq, Int.reduceToNat, Nat.reduceMod, Nat.reduceDiv, UInt8.reduceToNat, Nat.reduceLT, hR', c1, c2, c3, c4, c5, eq_noD, eta_D, decide_true, decide_false, Bool.not_true, Bool.not_false, hmin, ne_00, idx_agg, iaddr_ptr, w01, w11, hmin3, Nat.reduceMul, hfd, htd, k3, k4]
                      refine WLoop.rnd (c := _) ir12L0.eq_1 ?_
                      simp +contextual -implicitDefEqProofs (maxSteps := 4000000) only [go_sem, ↓reduceIte, Nat.reduceEqDiff, Nat.reduceAdd, Int.reduceLE, Int.reduceLT, Int.reduceEq, Int.reduceToNat, Nat.reduceMod, Nat.reduceDiv, UInt8.reduceToNat, Nat.reduceLT, hR', c1, c2, c3, c4, c5, eq_noD, eta_D, decide_true, decide_false, Bool.not_true, Bool.not_false, hmin, ne_00, idx_agg, iaddr_ptr, w01, w11, hmin3, Nat.reduceMul, hfd, htd, k3, k4, dg]
                  · have k3 := fun st K => c31 p.t.y p.t.m p.t.d st K
                    rw [eta_D] at k3
                    have dn : decide (chkD p.t ≠ 0) = true := by simp [htc]
                    rw [show chkP p = chkD p.t by unfold chkP endE; rw [if_neg (by rw [hR]; decide), ha, if_neg (by decide)]; simp [hf, ht, htc]]
                    refine WLoop.rnd (c := _) ir12L0.eq_1 ?_
                    simp +contextual -implicitDefEqProofs (maxSteps := 4000000) only [go_sem, ↓reduceIte, Nat.reduceEqDiff, Nat.reduceAdd, Int.reduceLE, Int.reduceLT, Int.reduceEq, Int.reduceToNat, Nat.reduceMod, Nat.reduceDiv, UInt8.reduceToNat, Nat.reduceLT, hR', c1, c2, c3, c4, c5, eq_noD, eta_D, decide_true, decide_false, Bool.not_true, Bool.not_false, hmin, ne_00, idx_agg, iaddr_ptr, w01, w11, hmin3, Nat.reduceMul, hfd, htd, k3, dn]
              · have hfd := decide_eq_false hf
                by_cases hfc : chkD p.f = 0
                · have k1 := fun st K => c31 p.f.y p.f.m p.f.d st K
                  have k2 := fun st K => c32 p.f.y p.f.m p.f.d st K
                  rw [eta_D, hfc] at k1
                  rw [eta_D, hfc, if_pos rfl] at k2
                  refine WLoop.rnd (c := _) ir12L0.eq_1 ?_
                  simp +contextual -implicitDefEqProofs (maxSteps := 4000000) only [go_sem, ↓reduceIte, Nat.reduceEqDiff, Nat.reduceAdd, Int.reduceLE, Int.reduceLT, Int.reduceEq, Int.reduceToNat, Nat.reduceMod, Nat.reduceDiv, UInt8.reduceToNat, Nat.reduceLT, hR', c1, c2, c3, c4, c5, eq_noD, eta_D, decide_true, decide_false, Bool.not_true, Bool.not_false, hmin, ne_00, idx_agg, iaddr_ptr, w01, w11, hmin3, Nat.reduceMul, hfd, k1, k2]
                  by_cases ht : p.t = noD
                  · have htd := decide_eq_true ht
                    rw [show chkP p = 0 by unfold chkP endE; rw [if_neg (by rw [hR]; decide), ha, if_neg (by decide)]; simp [hf, hfc, ht]]
                    refine WLoop.rnd (c := _) ir12L0.eq_1 ?_
                    simp +contextual -implicitDefEqProofs (maxSteps := 4000000) only [go_sem, ↓reduceIte, Nat.reduceEqDiff, Nat.reduceAdd, Int.reduceLE, Int.reduceLT, Int.reduceEq, Int.reduceToNat, Nat.reduceMod, Nat.reduceDiv, UInt8.reduceToNat, Nat.reduceLT, hR', c1, c2, c3, c4, c5, eq_noD, eta_D, decide_true, decide_false, Bool.not_true, Bool.not_false, hmin, ne_00, idx_agg, iaddr_ptr, w01, w11, hmin3, Nat.reduceMul, hfd, htd]
                    refine WLoop.rnd (c := _) ir12L0.eq_1 ?_
                    simp +contextual -implicitDefEqProofs (maxSteps := 4000000) only [go_sem, ↓reduceIte, Nat.reduceEqDiff, Nat.reduceAdd, Int.reduceLE, Int.reduceLT, Int.reduceEq, Int.reduceToNat, Nat.reduceMod, Nat.reduceDiv, UInt8.reduceToNat, Nat.reduceLT, hR', c1, c2, c3, c4, c5, eq_noD, eta_D, decide_true, decide_false, Bool.not_true, Bool.not_false, hmin, ne_00, idx_agg, iaddr_ptr, w01, w11, hmin3, Nat.reduceMul, hfd, htd]
                  · have htd := decide_eq_false ht
                    by_cases htc : chkD p.t = 0
                    · have k3 := fun st K => c31 p.t.y p.t.m p.t.d st K
                      have k4 := fun st K => c32 p.t.y p.t.m p.t.d st K
                      rw [eta_D, htc] at k3
                      rw [eta_D, htc, if_pos rfl] at k4
                      by_cases hg : dayB p.t < dayB p.f
                      · have dg : decide (dayB p.t < dayB p.f) = true := decide_eq_true hg
                        rw [show chkP p = 6 by unfold chkP endE loB hiB; rw [if_neg (by rw [hR]; decide), ha, if_neg (by decide)]; simp [hf, hfc, ht, htc, hg]]
                        refine WLoop.rnd (c := _) ir12L0.eq_1 ?_
                        simp +contextual -implicitDefEqProofs (maxSteps := 4000000) only [go_sem, ↓reduceIte, Nat.reduceEqDiff, Nat.reduceAdd, Int.reduceLE, Int.reduceLT, Int.reduceEq, Int.reduceToNat, Nat.reduceMod, Nat.reduceDiv, UInt8.reduceToNat, Nat.reduceLT, hR', c1, c2, c3, c4, c5, eq_noD, eta_D, decide_true, decide_false, Bool.not_true, Bool.not_false, hmin, ne_00, idx_agg, iaddr_ptr, w01, w11, hmin3, Nat.reduceMul, hfd, htd, k3, k4]
                        refine WLoop.rnd (c := _) ir12L0.eq_1 ?_
                        simp +contextual -implicitDefEqProofs (maxSteps := 4000000) only [go_sem, ↓reduceIte, Nat.reduceEqDiff, Nat.reduceAdd, Int.reduceLE, Int.reduceLT, Int.reduceEq, Int.reduceToNat, Nat.reduceMod, Nat.reduceDiv, UInt8.reduceToNat, Nat.reduceLT, hR', c1, c2, c3, c4, c5, eq_noD, eta_D, decide_true, decide_false, Bool.not_true, Bool.not_false, hmin, ne_00, idx_agg, iaddr_ptr, w01, w11, hmin3, Nat.reduceMul, hfd, htd, k3, k4, dg]
                      · have dg : decide (dayB p.t < dayB p.f) = false := decide_eq_false hg
                        rw [show chkP p = 0 by unfold chkP endE loB hiB; rw [if_neg (by rw [hR]; decide), ha, if_neg (by decide)]; simp [hf, hfc, ht, htc]; omega]
                        refine WLoop.rnd (c := _) ir12L0.eq_1 ?_
                        simp +contextual -implicitDefEqProofs (maxSteps := 4000000) only [go_sem, ↓reduceIte, Nat.reduceEqDiff, Nat.reduceAdd, Int.reduceLE, Int.reduceLT, Int.reduceEq, Int.reduceToNat, Nat.reduceMod, Nat.reduceDiv, UInt8.reduceToNat, Nat.reduceLT, hR', c1, c2, c3, c4, c5, eq_noD, eta_D, decide_true, decide_false, Bool.not_true, Bool.not_false, hmin, ne_00, idx_agg, iaddr_ptr, w01, w11, hmin3, Nat.reduceMul, hfd, htd, k3, k4]
                        refine WLoop.rnd (c := _) ir12L0.eq_1 ?_
                        simp +contextual -implicitDefEqProofs (maxSteps := 4000000) only [go_sem, ↓reduceIte, Nat.reduceEqDiff, Nat.reduceAdd, Int.reduceLE, Int.reduceLT, Int.reduceEq, Int.reduceToNat, Nat.reduceMod, Nat.reduceDiv, UInt8.reduceToNat, Nat.reduceLT, hR', c1, c2, c3, c4, c5, eq_noD, eta_D, decide_true, decide_false, Bool.not_true, Bool.not_false, hmin, ne_00, idx_agg, iaddr_ptr, w01, w11, hmin3, Nat.reduceMul, hfd, htd, k3, k4, dg]
                    · have k3 := fun st K => c31 p.t.y p.t.m p.t.d st K
                      rw [eta_D] at k3
                      have dn : decide (chkD p.t ≠ 0) = true := by simp [htc]
                      rw [show chkP p = chkD p.t by unfold chkP endE; rw [if_neg (by rw [hR]; decide), ha, if_neg (by decide)]; simp [hf, hfc, ht, htc]]
                      refine WLoop.rnd (c := _) ir12L0.eq_1 ?_
                      simp +contextual -implicitDefEqProofs (maxSteps := 4000000) only [go_sem, ↓reduceIte, Nat.reduceEqDiff, Nat.reduceAdd, Int.reduceLE, Int.reduceLT, Int.reduceEq, Int.reduceToNat, Nat.reduceMod, Nat.reduceDiv, UInt8.reduceToNat, Nat.reduceLT, hR', c1, c2, c3, c4, c5, eq_noD, eta_D, decide_true, decide_false, Bool.not_true, Bool.not_false, hmin, ne_00, idx_agg, iaddr_ptr, w01, w11, hmin3, Nat.reduceMul, hfd, htd, k3, dn]
                · have k1 := fun st K => c31 p.f.y p.f.m p.f.d st K
                  rw [eta_D] at k1
                  have dn : decide (chkD p.f ≠ 0) = true := by simp [hfc]
                  rw [show chkP p = chkD p.f by unfold chkP endE; rw [if_neg (by rw [hR]; decide), ha, if_neg (by decide)]; simp [hf, hfc]]
                  refine WLoop.rnd (c := _) ir12L0.eq_1 ?_
                  simp +contextual -implicitDefEqProofs (maxSteps := 4000000) only [go_sem, ↓reduceIte, Nat.reduceEqDiff, Nat.reduceAdd, Int.reduceLE, Int.reduceLT, Int.reduceEq, Int.reduceToNat, Nat.reduceMod, Nat.reduceDiv, UInt8.reduceToNat, Nat.reduceLT, hR', c1, c2, c3, c4, c5, eq_noD, eta_D, decide_true, decide_false, Bool.not_true, Bool.not_false, hmin, ne_00, idx_agg, iaddr_ptr, w01, w11, hmin3, Nat.reduceMul, hfd, k1, dn]
            · have hb : anyF p = true := by unfold anyF; simp only [c1, c2, c3, c4, c5, Bool.true_and, Bool.false_and, Bool.and_false, Bool.and_true, Bool.true_or, Bool.or_true, Bool.false_or, Bool.or_false, Bool.not_true, Bool.not_false]
              have hc : chkP p = 10 := by unfold chkP; rw [if_neg (by rw [hR]; decide), hb]; rfl
              rw [hc]
              simp +contextual -implicitDefEqProofs (maxSteps := 4000000) only [go_sem, ↓reduceIte, Nat.reduceEqDiff, Nat.reduceAdd, Int.reduceLE, Int.reduceLT, Int.reduceEq, Int.reduceToNat, Nat.reduceMod, Nat.reduceDiv, UInt8.reduceToNat, Nat.reduceLT, hR', c29, c1, c2, c3, c4, c5]
          · have hb : anyF p = true := by unfold anyF; simp only [c1, c2, c3, c4, Bool.true_and, Bool.false_and, Bool.and_false, Bool.and_true, Bool.true_or, Bool.or_true, Bool.false_or, Bool.or_false, Bool.not_true, Bool.not_false]
            have hc : chkP p = 10 := by unfold chkP; rw [if_neg (by rw [hR]; decide), hb]; rfl
            rw [hc]
            simp +contextual -implicitDefEqProofs (maxSteps := 4000000) only [go_sem, ↓reduceIte, Nat.reduceEqDiff, Nat.reduceAdd, Int.reduceLE, Int.reduceLT, Int.reduceEq, Int.reduceToNat, Nat.reduceMod, Nat.reduceDiv, UInt8.reduceToNat, Nat.reduceLT, hR', c29, c1, c2, c3, c4]
        · have hb : anyF p = true := by unfold anyF; simp only [c1, c2, c3, Bool.true_and, Bool.false_and, Bool.and_false, Bool.and_true, Bool.true_or, Bool.or_true, Bool.false_or, Bool.or_false, Bool.not_true, Bool.not_false]
          have hc : chkP p = 10 := by unfold chkP; rw [if_neg (by rw [hR]; decide), hb]; rfl
          rw [hc]
          simp +contextual -implicitDefEqProofs (maxSteps := 4000000) only [go_sem, ↓reduceIte, Nat.reduceEqDiff, Nat.reduceAdd, Int.reduceLE, Int.reduceLT, Int.reduceEq, Int.reduceToNat, Nat.reduceMod, Nat.reduceDiv, UInt8.reduceToNat, Nat.reduceLT, hR', c29, c1, c2, c3]
      · have hb : anyF p = true := by unfold anyF; simp only [c1, c2, Bool.true_and, Bool.false_and, Bool.and_false, Bool.and_true, Bool.true_or, Bool.or_true, Bool.false_or, Bool.or_false, Bool.not_true, Bool.not_false]
        have hc : chkP p = 10 := by unfold chkP; rw [if_neg (by rw [hR]; decide), hb]; rfl
        rw [hc]
        simp +contextual -implicitDefEqProofs (maxSteps := 4000000) only [go_sem, ↓reduceIte, Nat.reduceEqDiff, Nat.reduceAdd, Int.reduceLE, Int.reduceLT, Int.reduceEq, Int.reduceToNat, Nat.reduceMod, Nat.reduceDiv, UInt8.reduceToNat, Nat.reduceLT, hR', c29, c1, c2]
    · have hb : anyF p = true := by unfold anyF; simp only [c1, Bool.true_and, Bool.false_and, Bool.and_false, Bool.and_true, Bool.true_or, Bool.or_true, Bool.false_or, Bool.or_false, Bool.not_true, Bool.not_false]
      have hc : chkP p = 10 := by unfold chkP; rw [if_neg (by rw [hR]; decide), hb]; rfl
      rw [hc]
      simp +contextual -implicitDefEqProofs (maxSteps := 4000000) only [go_sem, ↓reduceIte, Nat.reduceEqDiff, Nat.reduceAdd, Int.reduceLE, Int.reduceLT, Int.reduceEq, Int.reduceToNat, Nat.reduceMod, Nat.reduceDiv, UInt8.reduceToNat, Nat.reduceLT, hR', c29, c1]
end T06


namespace T06
variable [Mm]
open Go Fw Go.Proofs
set_option maxRecDepth 100000
set_option maxHeartbeats 8000000
theorem in_not (n : Int) : (decide (n < 2000) || decide (n > 2199)) = !(decide (2000 ≤ n) && decide (n ≤ 2199)) := by
  rw [Bool.eq_iff_iff]; simp
theorem c13 (p : Pat) (s : St) (K : AV → St → Prop) : CallW cx 13 [.agg [.int .i64 p.y, .int .i64 p.m, .int .i64 p.d, .int .i64 p.w, .int .i64 p.k, .int .i64 p.f.y, .int .i64 p.f.m, .int .i64 p.f.d, .int .i64 p.t.y, .int .i64 p.t.m, .int .i64 p.t.d]] s K = K (.int .i64 (chkP p)) s := by
  refine CallW.eq (CallW.fn' (fn := ir13) rfl rfl (by kernel_rfl) ir13.eq_1 ?_) K
  have hR' := fun st K => c33 p st K
  cases hR : isR p
  · rw [hR] at hR'
    cases a1 : decide (p.y ≠ 0)
    · cases b1 : decide (0 ≤ p.m) && decide (p.m ≤ 14)
      · have hb : badF p = true := by unfold badF; simp only [in_not, a1, b1, Bool.true_and, Bool.false_and, Bool.and_false, Bool.and_true, Bool.true_or, Bool.or_true, Bool.false_or, Bool.or_false, Bool.not_true, Bool.not_false]
        have hc : chkP p = 6 := by unfold chkP; rw [if_pos hR, hb]; rfl
        rw [hc]
        simp +contextual -implicitDefEqProofs (maxSteps := 4000000) only [go_sem, ↓reduceIte, Nat.reduceEqDiff, Nat.reduceAdd, Int.reduceLE, Int.reduceLT, Int.reduceEq, Int.reduceToNat, Nat.reduceMod, Nat.reduceDiv, UInt8.reduceToNat, Nat.reduceLT, hR', c34, a1, b1, Bool.not_true, Bool.not_false]
      · cases b2 : decide (0 ≤ p.d) && decide (p.d ≤ 34)
        · have hb : badF p = true := by unfold badF; simp only [in_not, a1, b1, b2, Bool.true_and, Bool.false_and, Bool.and_false, Bool.and_true, Bool.true_or, Bool.or_true, Bool.false_or, Bool.or_false, Bool.not_true, Bool.not_false]
          have hc : chkP p = 6 := by unfold chkP; rw [if_pos hR, hb]; rfl
          rw [hc]
          simp +contextual -implicitDefEqProofs (maxSteps := 4000000) only [go_sem, ↓reduceIte, Nat.reduceEqDiff, Nat.reduceAdd, Int.reduceLE, Int.reduceLT, Int.reduceEq, Int.reduceToNat, Nat.reduceMod, Nat.reduceDiv, UInt8.reduceToNat, Nat.reduceLT, hR', c34, a1, b1, b2, Bool.not_true, Bool.not_false]
        · cases b3 : decide (0 ≤ p.w) && decide (p.w ≤ 7)
          · have hb : badF p = true := by unfold badF; simp only [in_not, a1, b1, b2, b3, Bool.true_and, Bool.false_and, Bool.and_false, Bool.and_true, Bool.true_or, Bool.or_true, Bool.false_or, Bool.or_false, Bool.not_true, Bool.not_false]
            have hc : chkP p = 6 := by unfold chkP; rw [if_pos hR, hb]; rfl
            rw [hc]
            simp +contextual -implicitDefEqProofs (maxSteps := 4000000) only [go_sem, ↓reduceIte, Nat.reduceEqDiff, Nat.reduceAdd, Int.reduceLE, Int.reduceLT, Int.reduceEq, Int.reduceToNat, Nat.reduceMod, Nat.reduceDiv, UInt8.reduceToNat, Nat.reduceLT, hR', c34, a1, b1, b2, b3, Bool.not_true, Bool.not_false]
          · cases b4 : decide (0 ≤ p.k) && decide (p.k ≤ 6)
            · have hb : badF p = true := by unfold badF; simp only [in_not, a1, b1, b2, b3, b4, Bool.true_and, Bool.false_and, Bool.and_false, Bool.and_true, Bool.true_or, Bool.or_true, Bool.false_or, Bool.or_false, Bool.not_true, Bool.not_false]
              have hc : chkP p = 6 := by unfold chkP; rw [if_pos hR, hb]; rfl
              rw [hc]
              simp +contextual -implicitDefEqProofs (maxSteps := 4000000) only [go_sem, ↓reduceIte, Nat.reduceEqDiff, Nat.reduceAdd, Int.reduceLE, Int.reduceLT, Int.reduceEq, Int.reduceToNat, Nat.reduceMod, Nat.reduceDiv, UInt8.reduceToNat, Nat.reduceLT, hR', c34, a1, b1, b2, b3, b4, Bool.not_true, Bool.not_false]
            · have hb : badF p = false := by unfold badF; simp only [in_not, a1, b1, b2, b3, b4, Bool.true_and, Bool.false_and, Bool.and_false, Bool.and_true, Bool.true_or, Bool.or_true, Bool.false_or, Bool.or_false, Bool.not_true, Bool.not_false]
              have hc : chkP p = 0 := by unfold chkP; rw [if_pos hR, hb]; rfl
              rw [hc]
              simp +contextual -implicitDefEqProofs (maxSteps := 4000000) only [go_sem, ↓reduceIte, Nat.reduceEqDiff, Nat.reduceAdd, Int.reduceLE, Int.reduceLT, Int.reduceEq, Int.reduceToNat, Nat.reduceMod, Nat.reduceDiv, UInt8.reduceToNat, Nat.reduceLT, hR', c34, a1, b1, b2, b3, b4, Bool.not_true, Bool.not_false]
    · cases a2 : decide (2000 ≤ p.y) && decide (p.y ≤ 2199)
      · have hb : badF p = true := by unfold badF; simp only [in_not, a1, a2, Bool.true_and, Bool.false_and, Bool.and_false, Bool.and_true, Bool.true_or, Bool.or_true, Bool.false_or, Bool.or_false, Bool.not_true, Bool.not_false]
        have hc : chkP p = 6 := by unfold chkP; rw [if_pos hR, hb]; rfl
        rw [hc]
        simp +contextual -implicitDefEqProofs (maxSteps := 4000000) only [go_sem, ↓reduceIte, Nat.reduceEqDiff, Nat.reduceAdd, Int.reduceLE, Int.reduceLT, Int.reduceEq, Int.reduceToNat, Nat.reduceMod, Nat.reduceDiv, UInt8.reduceToNat, Nat.reduceLT, hR', c34, a1, a2, Bool.not_true, Bool.not_false]
      · cases b1 : decide (0 ≤ p.m) && decide (p.m ≤ 14)
        · have hb : badF p = true := by unfold badF; simp only [in_not, a1, a2, b1, Bool.true_and, Bool.false_and, Bool.and_false, Bool.and_true, Bool.true_or, Bool.or_true, Bool.false_or, Bool.or_false, Bool.not_true, Bool.not_false]
          have hc : chkP p = 6 := by unfold chkP; rw [if_pos hR, hb]; rfl
          rw [hc]
          simp +contextual -implicitDefEqProofs (maxSteps := 4000000) only [go_sem, ↓reduceIte, Nat.reduceEqDiff, Nat.reduceAdd, Int.reduceLE, Int.reduceLT, Int.reduceEq, Int.reduceToNat, Nat.reduceMod, Nat.reduceDiv, UInt8.reduceToNat, Nat.reduceLT, hR', c34, a1, a2, b1, Bool.not_true, Bool.not_false]
        · cases b2 : decide (0 ≤ p.d) && decide (p.d ≤ 34)
          · have hb : badF p = true := by unfold badF; simp only [in_not, a1, a2, b1, b2, Bool.true_and, Bool.false_and, Bool.and_false, Bool.and_true, Bool.true_or, Bool.or_true, Bool.false_or, Bool.or_false, Bool.not_true, Bool.not_false]
            have hc : chkP p = 6 := by unfold chkP; rw [if_pos hR, hb]; rfl
            rw [hc]
            simp +contextual -implicitDefEqProofs (maxSteps := 4000000) only [go_sem, ↓reduceIte, Nat.reduceEqDiff, Nat.reduceAdd, Int.reduceLE, Int.reduceLT, Int.reduceEq, Int.reduceToNat, Nat.reduceMod, Nat.reduceDiv, UInt8.reduceToNat, Nat.reduceLT, hR', c34, a1, a2, b1, b2, Bool.not_true, Bool.not_false]
          · cases b3 : decide (0 ≤ p.w) && decide (p.w ≤ 7)
            · have hb : badF p = true := by unfold badF; simp only [in_not, a1, a2, b1, b2, b3, Bool.true_and, Bool.false_and, Bool.and_false, Bool.and_true, Bool.true_or, Bool.or_true, Bool.false_or, Bool.or_false, Bool.not_true, Bool.not_false]
              have hc : chkP p = 6 := by unfold chkP; rw [if_pos hR, hb]; rfl
              rw [hc]
              simp +contextual -implicitDefEqProofs (maxSteps := 4000000) only [go_sem, ↓reduceIte, Nat.reduceEqDiff, Nat.reduceAdd, Int.reduceLE, Int.reduceLT, Int.reduceEq, Int.reduceToNat, Nat.reduceMod, Nat.reduceDiv, UInt8.reduceToNat, Nat.reduceLT, hR', c34, a1, a2, b1, b2, b3, Bool.not_true, Bool.not_false]
            · cases b4 : decide (0 ≤ p.k) && decide (p.k ≤ 6)
              · have hb : badF p = true := by unfold badF; simp only [in_not, a1, a2, b1, b2, b3, b4, Bool.true_and, Bool.false_and, Bool.and_false, Bool.and_true, Bool.true_or, Bool.or_true, Bool.false_or, Bool.or_false, Bool.not_true, Bool.not_false]
                have hc : chkP p = 6 := by unfold chkP; rw [if_pos hR, hb]; rfl
                rw [hc]
                simp +contextual -implicitDefEqProofs (maxSteps := 4000000) only [go_sem, ↓reduceIte, Nat.reduceEqDiff, Nat.reduceAdd, Int.reduceLE, Int.reduceLT, Int.reduceEq, Int.reduceToNat, Nat.reduceMod, Nat.reduceDiv, UInt8.reduceToNat, Nat.reduceLT, hR', c34, a1, a2, b1, b2, b3, b4, Bool.not_true, Bool.not_false]
              · have hb : badF p = false := by unfold badF; simp only [in_not, a1, a2, b1, b2, b3, b4, Bool.true_and, Bool.false_and, Bool.and_false, Bool.and_true, Bool.true_or, Bool.or_true, Bool.false_or, Bool.or_false, Bool.not_true, Bool.not_false]
                have hc : chkP p = 0 := by unfold chkP; rw [if_pos hR, hb]; rfl
                rw [hc]
                simp +contextual -implicitDefEqProofs (maxSteps := 4000000) only [go_sem, ↓reduceIte, Nat.reduceEqDiff, Nat.reduceAdd, Int.reduceLE, Int.reduceLT, Int.reduceEq, Int.reduceToNat, Nat.reduceMod, Nat.reduceDiv, UInt8.reduceToNat, Nat.reduceLT, hR', c34, a1, a2, b1, b2, b3, b4, Bool.not_true, Bool.not_false]
  · rw [hR] at hR'
    cases c1 : decide (p.y ≠ 0)
    · cases c2 : decide (p.m ≠ 0)
      · cases c3 : decide (p.d ≠ 0)
        · cases c4 : decide (p.w ≠ 0)
          · cases c5 : decide (p.k ≠ 0)
            · have ha : anyF p = false := by unfold anyF; simp only [c1, c2, c3, c4, c5, Bool.true_and, Bool.false_and, Bool.and_false, Bool.and_true, Bool.true_or, Bool.or_true, Bool.false_or, Bool.or_false, Bool.not_true, Bool.not_false]
              by_cases hf : p.f = noD
              · have hfd := decide_eq_true hf
                by_cases ht : p.t = noD
                · have htd := decide_eq_true ht
                  rw [show chkP p = 0 by unfold chkP endE loB hiB; rw [if_neg (by rw [hR]; decide), ha, if_neg (by decide)]; simp [hf, ht]]
                  simp +contextual -implicitDefEqProofs (maxSteps := 4000000) only [go_sem, ↓reduceIte, Nat.reduceEqDiff, Nat.reduceAdd, Int.reduceLE, Int.reduceLT, Int.reduceEq, Int.reduceToNat, Nat.reduceMod, Nat.reduceDiv, UInt8.reduceToNat, Nat.reduceLT, hR', c1, c2, c3, c4, c5, eq_noD, eta_D, decide_true, decide_false, Bool.not_true, Bool.not_false, ne_00, hfd, htd]
                · have htd := decide_eq_false ht
                  have k3 := fun st K => c35 p.t.y p.t.m p.t.d st K
                  rw [eta_D] at k3
                  by_cases htc : chkD p.t = 0
                  · obtain ⟨vt, yt⟩ := chkD_ok htc
                    have vt1 := vt.y; have vt2 := vt.m1; have vt3 := vt.m2; have vt4 := vt.d1; have vt5 := vt.d2; have vt6 := (din_pos (y := p.t.y) vt2 vt3).2
                    have tr := day_range vt yt
                    have k4 := fun st K => c36 p.t.y p.t.m p.t.d (by omega) (by omega) (by omega) (by omega) (by omega) st K
                    rw [eta_D] at k4
                    rw [htc] at k3
                    rw [show chkP p = 0 by unfold chkP endE loB hiB; rw [if_neg (by rw [hR]; decide), ha, if_neg (by decide)]; simp [hf, ht, htc]; omega]
                    simp +contextual -implicitDefEqProofs (maxSteps := 4000000) only [go_sem, ↓reduceIte, Nat.reduceEqDiff, Nat.reduceAdd, Int.reduceLE, Int.reduceLT, Int.reduceEq, Int.reduceToNat, Nat.reduceMod, Nat.reduceDiv, UInt8.reduceToNat, Nat.reduceLT, hR', c1, c2, c3, c4, c5, eq_noD, eta_D, decide_true, decide_false, Bool.not_true, Bool.not_false, ne_00, hfd, htd, k3, k4]
                  · have dn : decide (chkD p.t ≠ 0) = true := by simp [htc]
                    rw [show chkP p = chkD p.t by unfold chkP endE loB hiB; rw [if_neg (by rw [hR]; decide), ha, if_neg (by decide)]; simp [hf, ht, htc]]
                    simp +contextual -implicitDefEqProofs (maxSteps := 4000000) only [go_sem, ↓reduceIte, Nat.reduceEqDiff, Nat.reduceAdd, Int.reduceLE, Int.reduceLT, Int.reduceEq, Int.reduceToNat, Nat.reduceMod, Nat.reduceDiv, UInt8.reduceToNat, Nat.reduceLT, hR', c1, c2, c3, c4, c5, eq_noD, eta_D, decide_true, decide_false, Bool.not_true, Bool.not_false, ne_00, hfd, htd, k3, dn]
              · have hfd := decide_eq_false hf
                have k1 := fun st K => c35 p.f.y p.f.m p.f.d st K
                rw [eta_D] at k1
                by_cases hfc : chkD p.f = 0
                · obtain ⟨vf, yf⟩ := chkD_ok hfc
                  have vf1 := vf.y; have vf2 := vf.m1; have vf3 := vf.m2; have vf4 := vf.d1; have vf5 := vf.d2; have vf6 := (din_pos (y := p.f.y) vf2 vf3).2
                  have k2 := fun st K => c36 p.f.y p.f.m p.f.d (by omega) (by omega) (by omega) (by omega) (by omega) st K
                  rw [eta_D] at k2
                  rw [hfc] at k1
                  by_cases ht : p.t = noD
                  · have htd := decide_eq_true ht
                    rw [show chkP p = 0 by unfold chkP endE loB hiB; rw [if_neg (by rw [hR]; decide), ha, if_neg (by decide)]; simp [hf, hfc, ht]]
                    simp +contextual -implicitDefEqProofs (maxSteps := 4000000) only [go_sem, ↓reduceIte, Nat.reduceEqDiff, Nat.reduceAdd, Int.reduceLE, Int.reduceLT, Int.reduceEq, Int.reduceToNat, Nat.reduceMod, Nat.reduceDiv, UInt8.reduceToNat, Nat.reduceLT, hR', c1, c2, c3, c4, c5, eq_noD, eta_D, decide_true, decide_false, Bool.not_true, Bool.not_false, ne_00, hfd, k1, k2, htd]
                  · have htd := decide_eq_false ht
                    have k3 := fun st K => c35 p.t.y p.t.m p.t.d st K
                    rw [eta_D] at k3
                    by_cases htc : chkD p.t = 0
                    · obtain ⟨vt, yt⟩ := chkD_ok htc
                      have vt1 := vt.y; have vt2 := vt.m1; have vt3 := vt.m2; have vt4 := vt.d1; have vt5 := vt.d2; have vt6 := (din_pos (y := p.t.y) vt2 vt3).2
                      have tr := day_range vt yt
                      have k4 := fun st K => c36 p.t.y p.t.m p.t.d (by omega) (by omega) (by omega) (by omega) (by omega) st K
                      rw [eta_D] at k4
                      rw [htc] at k3
                      by_cases hg : dayB p.t < dayB p.f
                      · have dg := decide_eq_true hg
                        rw [show chkP p = 6 by unfold chkP endE loB hiB; rw [if_neg (by rw [hR]; decide), ha, if_neg (by decide)]; simp [hf, hfc, ht, htc, hg]]
                        simp +contextual -implicitDefEqProofs (maxSteps := 4000000) only [go_sem, ↓reduceIte, Nat.reduceEqDiff, Nat.reduceAdd, Int.reduceLE, Int.reduceLT, Int.reduceEq, Int.reduceToNat, Nat.reduceMod, Nat.reduceDiv, UInt8.reduceToNat, Nat.reduceLT, hR', c1, c2, c3, c4, c5, eq_noD, eta_D, decide_true, decide_false, Bool.not_true, Bool.not_false, ne_00, hfd, k1, k2, htd, k3, k4, dg]
                      · have dg := decide_eq_false hg
                        rw [show chkP p = 0 by unfold chkP endE loB hiB; rw [if_neg (by rw [hR]; decide), ha, if_neg (by decide)]; simp [hf, hfc, ht, htc]; omega]
                        simp +contextual -implicitDefEqProofs (maxSteps := 4000000) only [go_sem, ↓reduceIte, Nat.reduceEqDiff, Nat.reduceAdd, Int.reduceLE, Int.reduceLT, Int.reduceEq, Int.reduceToNat, Nat.reduceMod, Nat.reduceDiv, UInt8.reduceToNat, Nat.reduceLT, hR', c1, c2, c3, c4, c5, eq_noD, eta_D, decide_true, decide_false, Bool.not_true, Bool.not_false, ne_00, hfd, k1, k2, htd, k3, k4, dg]
                    · have dn : decide (chkD p.t ≠ 0) = true := by simp [htc]
                      rw [show chkP p = chkD p.t by unfold chkP endE loB hiB; rw [if_neg (by rw [hR]; decide), ha, if_neg (by decide)]; simp [hf, hfc, ht, htc]]
                      simp +contextual -implicitDefEqProofs (maxSteps := 4000000) only [go_sem, ↓reduceIte, Nat.reduceEqDiff, Nat.reduceAdd, Int.reduceLE, Int.reduceLT, Int.reduceEq, Int.reduceToNat, Nat.reduceMod, Nat.reduceDiv, UInt8.reduceToNat, Nat.reduceLT, hR', c1, c2, c3, c4, c5, eq_noD, eta_D, decide_true, decide_false, Bool.not_true, Bool.not_false, ne_00, hfd, k1, k2, htd, k3, dn]
                · have dn : decide (chkD p.f ≠ 0) = true := by simp [hfc]
                  rw [show chkP p = chkD p.f by unfold chkP endE loB hiB; rw [if_neg (by rw [hR]; decide), ha, if_neg (by decide)]; simp [hf, hfc]]
                  simp +contextual -implicitDefEqProofs (maxSteps := 4000000) only [go_sem, ↓reduceIte, Nat.reduceEqDiff, Nat.reduceAdd, Int.reduceLE, Int.reduceLT, Int.reduceEq, Int.reduceToNat, Nat.reduceMod, Nat.reduceDiv, UInt8.reduceToNat, Nat.reduceLT, hR', c1, c2, c3, c4, c5, eq_noD, eta_D, decide_true, decide_false, Bool.not_true, Bool.not_false, ne_00, hfd, k1, dn]
            · have hb : anyF p = true := by unfold anyF; simp only [c1, c2, c3, c4, c5, Bool.true_and, Bool.false_and, Bool.and_false, Bool.and_true, Bool.true_or, Bool.or_true, Bool.false_or, Bool.or_false, Bool.not_true, Bool.not_false]
              have hc : chkP p = 10 := by unfold chkP; rw [if_neg (by rw [hR]; decide), hb]; rfl
              rw [hc]
              simp +contextual -implicitDefEqProofs (maxSteps := 4000000) only [go_sem, ↓reduceIte, Nat.reduceEqDiff, Nat.reduceAdd, Int.reduceLE, Int.reduceLT, Int.reduceEq, Int.reduceToNat, Nat.reduceMod, Nat.reduceDiv, UInt8.reduceToNat, Nat.reduceLT, hR', c34, c1, c2, c3, c4, c5]
          · have hb : anyF p = true := by unfold anyF; simp only [c1, c2, c3, c4, Bool.true_and, Bool.false_and, Bool.and_false, Bool.and_true, Bool.true_or, Bool.or_true, Bool.false_or, Bool.or_false, Bool.not_true, Bool.not_false]
            have hc : chkP p = 10 := by unfold chkP; rw [if_neg (by rw [hR]; decide), hb]; rfl
            rw [hc]
            simp +contextual -implicitDefEqProofs (maxSteps := 4000000) only [go_sem, ↓reduceIte, Nat.reduceEqDiff, Nat.reduceAdd, Int.reduceLE, Int.reduceLT, Int.reduceEq, Int.reduceToNat, Nat.reduceMod, Nat.reduceDiv, UInt8.reduceToNat, Nat.reduceLT, hR', c34, c1, c2, c3, c4]
        · have hb : anyF p = true := by unfold anyF; simp only [c1, c2, c3, Bool.true_and, Bool.false_and, Bool.and_false, Bool.and_true, Bool.true_or, Bool.or_true, Bool.false_or, Bool.or_false, Bool.not_true, Bool.not_false]
          have hc : chkP p = 10 := by unfold chkP; rw [if_neg (by rw [hR]; decide), hb]; rfl
          rw [hc]
          simp +contextual -implicitDefEqProofs (maxSteps := 4000000) only [go_sem, ↓reduceIte, Nat.reduceEqDiff, Nat.reduceAdd, Int.reduceLE, Int.reduceLT, Int.reduceEq, Int.reduceToNat, Nat.reduceMod, Nat.reduceDiv, UInt8.reduceToNat, Nat.reduceLT, hR', c34, c1, c2, c3]
      · have hb : anyF p = true := by unfold anyF; simp only [c1, c2, Bool.true_and, Bool.false_and, Bool.and_false, Bool.and_true, Bool.true_or, Bool.or_true, Bool.false_or, Bool.or_false, Bool.not_true, Bool.not_false]
        have hc : chkP p = 10 := by unfold chkP; rw [if_neg (by rw [hR]; decide), hb]; rfl
        rw [hc]
        simp +contextual -implicitDefEqProofs (maxSteps := 4000000) only [go_sem, ↓reduceIte, Nat.reduceEqDiff, Nat.reduceAdd, Int.reduceLE, Int.reduceLT, Int.reduceEq, Int.reduceToNat, Nat.reduceMod, Nat.reduceDiv, UInt8.reduceToNat, Nat.reduceLT, hR', c34, c1, c2]
    · have hb : anyF p = true := by unfold anyF; simp only [c1, Bool.true_and, Bool.false_and, Bool.and_false, Bool.and_true, Bool.true_or, Bool.or_true, Bool.false_or, Bool.or_false, Bool.not_true, Bool.not_false]
      have hc : chkP p = 10 := by unfold chkP; rw [if_neg (by rw [hR]; decide), hb]; rfl
      rw [hc]
      simp +contextual -implicitDefEqProofs (maxSteps := 4000000) only [go_sem, ↓reduceIte, Nat.reduceEqDiff, Nat.reduceAdd, Int.reduceLE, Int.reduceLT, Int.reduceEq, Int.reduceToNat, Nat.reduceMod, Nat.reduceDiv, UInt8.reduceToNat, Nat.reduceLT, hR', c34, c1]
end T06


namespace T06
variable [Mm]
open Go Fw Go.Proofs
set_option maxRecDepth 100000
set_option maxHeartbeats 8000000
theorem c61 (d lo hi : Int) (a b : Nat) (ta tb : Option TypeId) (st : St) (ha : Fw.look a st.heap = some (.cells ta [.int .i64 lo])) (hb : Fw.look b st.heap = some (.cells tb [.int .i64 hi])) (K : AV → St → Prop) : CallW cx 61 [.int .i64 d, .ptr a 0, .ptr b 0] st K = K (.bool (decide (lo ≤ d) && decide (d ≤ hi))) st := by
  refine CallW.eq (CallW.fn' (fn := ir61) rfl rfl (by kernel_rfl) ir61.eq_1 ?_) K
  cases h1 : decide (lo ≤ d) <;> cases h2 : decide (d ≤ hi)
  all_goals simp +contextual -implicitDefEqProofs (maxSteps := 4000000) only [go_sem, ↓reduceIte, Nat.reduceEqDiff, Nat.reduceAdd, Int.reduceLE, Int.reduceLT, Int.reduceEq, Int.reduceToNat, Nat.reduceMod, Nat.reduceDiv, UInt8.reduceToNat, Nat.reduceLT, ha, hb, h1, h2]
theorem badF_f {p : Pat} (h : badF p = false) : 0 ≤ p.m ∧ p.m ≤ 14 ∧ 0 ≤ p.d ∧ p.d ≤ 34 ∧ 0 ≤ p.w ∧ p.w ≤ 7 ∧ 0 ≤ p.k ∧ p.k ≤ 6 := by
  unfold badF at h
  simp only [Bool.or_eq_false_iff, Bool.not_eq_false', Bool.and_eq_true, decide_eq_true_eq] at h
  omega
section
variable (p : Pat) (y m d q n : Int) (C D : Nat) (ty td : Option TypeId) (st : St)
theorem p62C0 (hp : Fw.look C st.heap = some (.cells ty [.int .i64 p.y, .int .i64 p.m, .int .i64 p.d, .int .i64 p.w, .int .i64 p.k, .int .i64 p.f.y, .int .i64 p.f.m, .int .i64 p.f.d, .int .i64 p.t.y, .int .i64 p.t.m, .int .i64 p.t.d])) (hd : Fw.look D st.heap = some (.cells td [.int .i64 y, .int .i64 m, .int .i64 d])) (e : FE) (Q : Sig → FE → St → Prop) (h1 : e 1 = .ptr C 0) (h4 : e 4 = .ptr D 0)
    (hQ : ∀ e', e' 1 = .ptr C 0 → e' 4 = .ptr D 0 → e' 6 = e 6 → e' 44 = .bool ((decide (p.m = 14) && decide (m.tmod 2 = 1)) || (decide (p.m ≠ 0) && decide (p.m ≤ 12) && decide (p.m ≠ m))) → Q .normal e' st) : W cx ir62C0 e st Q := by
  refine W_open ir62C0.eq_1 ?_
  cases a1 : decide (p.m = 14)
  case true =>
    cases a2 : decide (m.tmod 2 = 1)
    case true => simp +contextual -implicitDefEqProofs (maxSteps := 4000000) only [go_sem, ↓reduceIte, Nat.reduceEqDiff, Nat.reduceAdd, Int.reduceLE, Int.reduceLT, Int.reduceEq, Int.reduceToNat, Nat.reduceMod, Nat.reduceDiv, UInt8.reduceToNat, Nat.reduceLT, h1, h4, hp, hd, a1, a2]; exact hQ _ h1 h4 rfl (by rw [a1, a2]; rfl)
    case false =>
      have b1 : decide (p.m ≤ 12) = false := decide_eq_false (by have := of_decide_eq_true a1; omega)
      cases b0 : decide (p.m ≠ 0) <;> · simp +contextual -implicitDefEqProofs (maxSteps := 4000000) only [go_sem, ↓reduceIte, Nat.reduceEqDiff, Nat.reduceAdd, Int.reduceLE, Int.reduceLT, Int.reduceEq, Int.reduceToNat, Nat.reduceMod, Nat.reduceDiv, UInt8.reduceToNat, Nat.reduceLT, h1, h4, hp, hd, a1, a2, b0, b1]; exact hQ _ h1 h4 rfl (by rw [a1, a2, b0, b1]; rfl)
  case false =>
    cases b0 : decide (p.m ≠ 0)
    case false => simp +contextual -implicitDefEqProofs (maxSteps := 4000000) only [go_sem, ↓reduceIte, Nat.reduceEqDiff, Nat.reduceAdd, Int.reduceLE, Int.reduceLT, Int.reduceEq, Int.reduceToNat, Nat.reduceMod, Nat.reduceDiv, UInt8.reduceToNat, Nat.reduceLT, h1, h4, hp, hd, a1, b0]; exact hQ _ h1 h4 rfl (by rw [a1, b0]; rfl)
    case true =>
      cases b1 : decide (p.m ≤ 12) <;> cases b2 : decide (p.m ≠ m) <;> · simp +contextual -implicitDefEqProofs (maxSteps := 4000000) only [go_sem, ↓reduceIte, Nat.reduceEqDiff, Nat.reduceAdd, Int.reduceLE, Int.reduceLT, Int.reduceEq, Int.reduceToNat, Nat.reduceMod, Nat.reduceDiv, UInt8.reduceToNat, Nat.reduceLT, h1, h4, hp, hd, a1, b0, b1, b2]; exact hQ _ h1 h4 rfl (by rw [a1, b0, b1, b2]; rfl)
theorem p62C1 (hp : Fw.look C st.heap = some (.cells ty [.int .i64 p.y, .int .i64 p.m, .int .i64 p.d, .int .i64 p.w, .int .i64 p.k, .int .i64 p.f.y, .int .i64 p.f.m, .int .i64 p.f.d, .int .i64 p.t.y, .int .i64 p.t.m, .int .i64 p.t.d])) (hd : Fw.look D st.heap = some (.cells td [.int .i64 y, .int .i64 m, .int .i64 d])) (e : FE) (Q : Sig → FE → St → Prop) (h1 : e 1 = .ptr C 0) (h4 : e 4 = .ptr D 0)
    (hQ : ∀ e', e' 1 = .ptr C 0 → e' 4 = .ptr D 0 → e' 6 = e 6 → e' 78 = .bool (decide (p.d ≠ 0) && decide (p.d ≤ 31) && decide (p.d ≠ d)) → Q .normal e' st) : W cx ir62C1 e st Q := by
  refine W_open ir62C1.eq_1 ?_
  cases b0 : decide (p.d ≠ 0)
  case false => simp +contextual -implicitDefEqProofs (maxSteps := 4000000) only [go_sem, ↓reduceIte, Nat.reduceEqDiff, Nat.reduceAdd, Int.reduceLE, Int.reduceLT, Int.reduceEq, Int.reduceToNat, Nat.reduceMod, Nat.reduceDiv, UInt8.reduceToNat, Nat.reduceLT, h1, h4, hp, hd, b0]; exact hQ _ h1 h4 rfl (by rw [b0]; rfl)
  case true =>
    cases b1 : decide (p.d ≤ 31) <;> cases b2 : decide (p.d ≠ d) <;> · simp +contextual -implicitDefEqProofs (maxSteps := 4000000) only [go_sem, ↓reduceIte, Nat.reduceEqDiff, Nat.reduceAdd, Int.reduceLE, Int.reduceLT, Int.reduceEq, Int.reduceToNat, Nat.reduceMod, Nat.reduceDiv, UInt8.reduceToNat, Nat.reduceLT, h1, h4, hp, hd, b0, b1, b2]; exact hQ _ h1 h4 rfl (by rw [b0, b1, b2]; rfl)
theorem p62C2 (hp : Fw.look C st.heap = some (.cells ty [.int .i64 p.y, .int .i64 p.m, .int .i64 p.d, .int .i64 p.w, .int .i64 p.k, .int .i64 p.f.y, .int .i64 p.f.m, .int .i64 p.f.d, .int .i64 p.t.y, .int .i64 p.t.m, .int .i64 p.t.d])) (hd : Fw.look D st.heap = some (.cells td [.int .i64 y, .int .i64 m, .int .i64 d])) (e : FE) (Q : Sig → FE → St → Prop) (h1 : e 1 = .ptr C 0) (h4 : e 4 = .ptr D 0)
    (hQ : ∀ e', e' 1 = .ptr C 0 → e' 4 = .ptr D 0 → e' 6 = e 6 → e' 78 = .bool ((decide (p.d = 33) && decide (d.tmod 2 = 0)) || (decide (p.d = 34) && decide (d.tmod 2 = 1)) || (decide (p.d ≠ 0) && decide (p.d ≤ 31) && decide (p.d ≠ d))) → Q .normal e' st) : W cx ir62C2 e st Q := by
  refine W_open ir62C2.eq_1 ?_
  cases a1 : decide (p.d = 33)
  case true =>
    cases a2 : decide (d.tmod 2 = 0)
    case true => simp +contextual -implicitDefEqProofs (maxSteps := 4000000) only [go_sem, ↓reduceIte, Nat.reduceEqDiff, Nat.reduceAdd, Int.reduceLE, Int.reduceLT, Int.reduceEq, Int.reduceToNat, Nat.reduceMod, Nat.reduceDiv, UInt8.reduceToNat, Nat.reduceLT, h1, h4, hp, hd, a1, a2]; exact hQ _ h1 h4 rfl (by rw [a1, a2]; rfl)
    case false =>
      have c1 : decide (p.d = 34) = false := decide_eq_false (by have := of_decide_eq_true a1; omega)
      simp +contextual -implicitDefEqProofs (maxSteps := 4000000) only [go_sem, ↓reduceIte, Nat.reduceEqDiff, Nat.reduceAdd, Int.reduceLE, Int.reduceLT, Int.reduceEq, Int.reduceToNat, Nat.reduceMod, Nat.reduceDiv, UInt8.reduceToNat, Nat.reduceLT, h1, h4, hp, hd, a1, a2, c1]
      refine p62C1 p y m d C D ty td st hp hd _ _ h1 h4 fun e' g1 g4 g6 g78 => hQ e' g1 g4 g6 ?_
      rw [g78, a1, a2, c1]; rfl
  case false =>
    cases c1 : decide (p.d = 34)
    case true =>
      cases c2 : decide (d.tmod 2 = 1)
      case true => simp +contextual -implicitDefEqProofs (maxSteps := 4000000) only [go_sem, ↓reduceIte, Nat.reduceEqDiff, Nat.reduceAdd, Int.reduceLE, Int.reduceLT, Int.reduceEq, Int.reduceToNat, Nat.reduceMod, Nat.reduceDiv, UInt8.reduceToNat, Nat.reduceLT, h1, h4, hp, hd, a1, c1, c2]; exact hQ _ h1 h4 rfl (by rw [a1, c1, c2]; rfl)
      case false =>
        simp +contextual -implicitDefEqProofs (maxSteps := 4000000) only [go_sem, ↓reduceIte, Nat.reduceEqDiff, Nat.reduceAdd, Int.reduceLE, Int.reduceLT, Int.reduceEq, Int.reduceToNat, Nat.reduceMod, Nat.reduceDiv, UInt8.reduceToNat, Nat.reduceLT, h1, h4, hp, hd, a1, c1, c2]
        refine p62C1 p y m d C D ty td st hp hd _ _ h1 h4 fun e' g1 g4 g6 g78 => hQ e' g1 g4 g6 ?_
        rw [g78, a1, c1, c2]; rfl
    case false =>
      simp +contextual -implicitDefEqProofs (maxSteps := 4000000) only [go_sem, ↓reduceIte, Nat.reduceEqDiff, Nat.reduceAdd, Int.reduceLE, Int.reduceLT, Int.reduceEq, Int.reduceToNat, Nat.reduceMod, Nat.reduceDiv, UInt8.reduceToNat, Nat.reduceLT, h1, h4, hp, hd, a1, c1]
      refine p62C1 p y m d C D ty td st hp hd _ _ h1 h4 fun e' g1 g4 g6 g78 => hQ e' g1 g4 g6 ?_
      rw [g78, a1, c1]; rfl
theorem p62C3 (hk0 : 0 ≤ p.k) (hk6 : p.k ≤ 6) (hp : Fw.look C st.heap = some (.cells ty [.int .i64 p.y, .int .i64 p.m, .int .i64 p.d, .int .i64 p.w, .int .i64 p.k, .int .i64 p.f.y, .int .i64 p.f.m, .int .i64 p.f.d, .int .i64 p.t.y, .int .i64 p.t.m, .int .i64 p.t.d])) (hd : Fw.look D st.heap = some (.cells td [.int .i64 y, .int .i64 m, .int .i64 d])) (e : FE) (Q : Sig → FE → St → Prop) (h1 : e 1 = .ptr C 0) (h4 : e 4 = .ptr D 0)
    (hQ : ∀ e', e' 3 = .bool (decide (7 * p.k - 6 ≤ d) && decide (d ≤ 7 * p.k)) → Q .ret e' st) : W cx ir62C3 e st Q := by
  refine W_open ir62C3.eq_1 ?_
  have w1 : IntKind.i64.wrap (7 * p.k) = 7 * p.k := wrap_i64 (by omega) (by omega)
  have w2 : IntKind.i64.wrap (7 * p.k - 6) = 7 * p.k - 6 := wrap_i64 (by omega) (by omega)
  cases a1 : decide (7 * p.k - 6 ≤ d) <;> cases a2 : decide (d ≤ 7 * p.k) <;> · simp +contextual -implicitDefEqProofs (maxSteps := 4000000) only [go_sem, ↓reduceIte, Nat.reduceEqDiff, Nat.reduceAdd, Int.reduceLE, Int.reduceLT, Int.reduceEq, Int.reduceToNat, Nat.reduceMod, Nat.reduceDiv, UInt8.reduceToNat, Nat.reduceLT, h1, h4, hp, hd, w1, w2, a1, a2]; exact hQ _ (by rw [a1, a2]; rfl)
def fitD' : Bool := (decide (p.d = 32) && decide (d ≠ q)) || (decide (p.d = 33) && decide (d.tmod 2 = 0)) || (decide (p.d = 34) && decide (d.tmod 2 = 1)) || (decide (p.d ≠ 0) && decide (p.d ≤ 31) && decide (p.d ≠ d))
theorem p62C4 (hk0 : 0 ≤ p.k) (hk6 : p.k ≤ 6) (hq0 : 0 ≤ q) (hq1 : q ≤ 31) (hp : Fw.look C st.heap = some (.cells ty [.int .i64 p.y, .int .i64 p.m, .int .i64 p.d, .int .i64 p.w, .int .i64 p.k, .int .i64 p.f.y, .int .i64 p.f.m, .int .i64 p.f.d, .int .i64 p.t.y, .int .i64 p.t.m, .int .i64 p.t.d])) (hd : Fw.look D st.heap = some (.cells td [.int .i64 y, .int .i64 m, .int .i64 d])) (e : FE) (Q : Sig → FE → St → Prop) (h1 : e 1 = .ptr C 0) (h4 : e 4 = .ptr D 0) (h6 : e 6 = .int .i64 q)
    (hQ : ∀ e', e' 3 = .bool (if fitD' p d q then false else if p.k = 6 then decide (d > q - 7) else if p.k ≠ 0 then decide (d ≥ 7 * p.k - 6) && decide (d ≤ 7 * p.k) else true) → Q .ret e' st)
    (hN : fitD' p d q = false → p.k = 0 → ∀ e', Q .normal e' st) : W cx ir62C4 e st Q := by
  refine W_open ir62C4.eq_1 ?_
  have w3 : IntKind.i64.wrap (q - 7) = q - 7 := wrap_i64 (by omega) (by omega)
  have hC3 := fun e Q h1 h4 hQ => p62C3 p y m d C D ty td st hk0 hk6 hp hd e Q h1 h4 hQ
  -- what follows once it is known whether the day of the month fits
  have key : ∀ (b32 : Bool), (decide (p.d = 32) && decide (d ≠ q)) = b32 → True := fun _ _ => trivial
  cases a1 : decide (p.d = 32)
  case true =>
    cases a2 : decide (d ≠ q)
    case true =>
      simp +contextual -implicitDefEqProofs (maxSteps := 4000000) only [go_sem, ↓reduceIte, Nat.reduceEqDiff, Nat.reduceAdd, Int.reduceLE, Int.reduceLT, Int.reduceEq, Int.reduceToNat, Nat.reduceMod, Nat.reduceDiv, UInt8.reduceToNat, Nat.reduceLT, h1, h4, h6, hp, hd, a1, a2]
      refine hQ _ ?_
      have : fitD' p d q = true := by unfold fitD'; rw [a1, a2]; rfl
      rw [this]; rfl
    case false =>
      simp +contextual -implicitDefEqProofs (maxSteps := 4000000) only [go_sem, ↓reduceIte, Nat.reduceEqDiff, Nat.reduceAdd, Int.reduceLE, Int.reduceLT, Int.reduceEq, Int.reduceToNat, Nat.reduceMod, Nat.reduceDiv, UInt8.reduceToNat, Nat.reduceLT, h1, h4, h6, hp, hd, a1, a2]
      refine p62C2 p y m d C D ty td st hp hd _ _ h1 h4 fun e' g1 g4 g6 g78 => ?_
      have hfit : fitD' p d q = ((decide (p.d = 33) && decide (d.tmod 2 = 0)) || (decide (p.d = 34) && decide (d.tmod 2 = 1)) || (decide (p.d ≠ 0) && decide (p.d ≤ 31) && decide (p.d ≠ d))) := by
        unfold fitD'; rw [a1, a2]; rfl
      rw [← hfit] at g78
      have g6' : e' 6 = .int .i64 q := g6.trans h6
      cases hb : fitD' p d q
      · rw [hb] at g78 hQ hN
        by_cases k6 : p.k = 6
        · have dk := decide_eq_true k6
          cases a9 : decide (q - 7 < d) <;> · simp +contextual -implicitDefEqProofs (maxSteps := 4000000) only [go_sem, ↓reduceIte, Nat.reduceEqDiff, Nat.reduceAdd, Int.reduceLE, Int.reduceLT, Int.reduceEq, Int.reduceToNat, Nat.reduceMod, Nat.reduceDiv, UInt8.reduceToNat, Nat.reduceLT, g1, g4, g6', g78, hp, hd, dk, w3, a9]; exact hQ _ (by rw [if_neg (by decide), if_pos k6]; exact congrArg AV.bool a9.symm)
        · have dk := decide_eq_false k6
          by_cases k0 : p.k = 0
          · have dk0 : decide (p.k ≠ 0) = false := by simp [k0]
            simp +contextual -implicitDefEqProofs (maxSteps := 4000000) only [go_sem, ↓reduceIte, Nat.reduceEqDiff, Nat.reduceAdd, Int.reduceLE, Int.reduceLT, Int.reduceEq, Int.reduceToNat, Nat.reduceMod, Nat.reduceDiv, UInt8.reduceToNat, Nat.reduceLT, g1, g4, g6', g78, hp, hd, dk, dk0]
            exact hN rfl k0 _
          · have dk0 : decide (p.k ≠ 0) = true := by simp [k0]
            simp +contextual -implicitDefEqProofs (maxSteps := 4000000) only [go_sem, ↓reduceIte, Nat.reduceEqDiff, Nat.reduceAdd, Int.reduceLE, Int.reduceLT, Int.reduceEq, Int.reduceToNat, Nat.reduceMod, Nat.reduceDiv, UInt8.reduceToNat, Nat.reduceLT, g1, g4, g6', g78, hp, hd, dk, dk0]
            refine hC3 _ _ g1 g4 fun e2 q3 => hQ e2 ?_
            rw [if_neg (by decide), if_neg k6, if_pos k0]; exact q3
      · rw [hb] at g78 hQ
        simp +contextual -implicitDefEqProofs (maxSteps := 4000000) only [go_sem, ↓reduceIte, Nat.reduceEqDiff, Nat.reduceAdd, Int.reduceLE, Int.reduceLT, Int.reduceEq, Int.reduceToNat, Nat.reduceMod, Nat.reduceDiv, UInt8.reduceToNat, Nat.reduceLT, g1, g4, g6', g78]
        exact hQ _ rfl
  case false =>
    simp +contextual -implicitDefEqProofs (maxSteps := 4000000) only [go_sem, ↓reduceIte, Nat.reduceEqDiff, Nat.reduceAdd, Int.reduceLE, Int.reduceLT, Int.reduceEq, Int.reduceToNat, Nat.reduceMod, Nat.reduceDiv, UInt8.reduceToNat, Nat.reduceLT, h1, h4, h6, hp, hd, a1]
    refine p62C2 p y m d C D ty td st hp hd _ _ h1 h4 fun e' g1 g4 g6 g78 => ?_
    have hfit : fitD' p d q = ((decide (p.d = 33) && decide (d.tmod 2 = 0)) || (decide (p.d = 34) && decide (d.tmod 2 = 1)) || (decide (p.d ≠ 0) && decide (p.d ≤ 31) && decide (p.d ≠ d))) := by
      unfold fitD'; rw [a1]; rfl
    rw [← hfit] at g78
    have g6' : e' 6 = .int .i64 q := g6.trans h6
    cases hb : fitD' p d q
    · rw [hb] at g78 hQ hN
      by_cases k6 : p.k = 6
      · have dk := decide_eq_true k6
        cases a9 : decide (q - 7 < d) <;> · simp +contextual -implicitDefEqProofs (maxSteps := 4000000) only [go_sem, ↓reduceIte, Nat.reduceEqDiff, Nat.reduceAdd, Int.reduceLE, Int.reduceLT, Int.reduceEq, Int.reduceToNat, Nat.reduceMod, Nat.reduceDiv, UInt8.reduceToNat, Nat.reduceLT, g1, g4, g6', g78, hp, hd, dk, w3, a9]; exact hQ _ (by rw [if_neg (by decide), if_pos k6]; exact congrArg AV.bool a9.symm)
      · have dk := decide_eq_false k6
        by_cases k0 : p.k = 0
        · have dk0 : decide (p.k ≠ 0) = false := by simp [k0]
          simp +contextual -implicitDefEqProofs (maxSteps := 4000000) only [go_sem, ↓reduceIte, Nat.reduceEqDiff, Nat.reduceAdd, Int.reduceLE, Int.reduceLT, Int.reduceEq, Int.reduceToNat, Nat.reduceMod, Nat.reduceDiv, UInt8.reduceToNat, Nat.reduceLT, g1, g4, g6', g78, hp, hd, dk, dk0]
          exact hN rfl k0 _
        · have dk0 : decide (p.k ≠ 0) = true := by simp [k0]
          simp +contextual -implicitDefEqProofs (maxSteps := 4000000) only [go_sem, ↓reduceIte, Nat.reduceEqDiff, Nat.reduceAdd, Int.reduceLE, Int.reduceLT, Int.reduceEq, Int.reduceToNat, Nat.reduceMod, Nat.reduceDiv, UInt8.reduceToNat, Nat.reduceLT, g1, g4, g6', g78, hp, hd, dk, dk0]
          refine hC3 _ _ g1 g4 fun e2 q3 => hQ e2 ?_
          rw [if_neg (by decide), if_neg k6, if_pos k0]; exact q3
    · rw [hb] at g78 hQ
      simp +contextual -implicitDefEqProofs (maxSteps := 4000000) only [go_sem, ↓reduceIte, Nat.reduceEqDiff, Nat.reduceAdd, Int.reduceLE, Int.reduceLT, Int.reduceEq, Int.reduceToNat, Nat.reduceMod, Nat.reduceDiv, UInt8.reduceToNat, Nat.reduceLT, g1, g4, g6', g78]
      exact hQ _ rfl
end
theorem c62 (p : Pat) (hk0 : 0 ≤ p.k) (hk6 : p.k ≤ 6) (n : Int) (h0 : 0 ≤ n) (h1 : n ≤ 73048) (C : Nat) (ty : Option TypeId) (st : St) (hlk : Fw.look C st.heap = some (.cells ty [.int .i64 p.y, .int .i64 p.m, .int .i64 p.d, .int .i64 p.w, .int .i64 p.k, .int .i64 p.f.y, .int .i64 p.f.m, .int .i64 p.f.d, .int .i64 p.t.y, .int .i64 p.t.m, .int .i64 p.t.d])) (hC : C < st.next) (K : AV → St → Prop) : CallW cx 62 [.int .i64 n, .ptr C 0] st K = K (.bool (testD p n (ofB n))) st := by
  refine CallW.eq (CallW.fn' (fn := ir62) rfl rfl (by kernel_rfl) ir62.eq_1 ?_) K
  have hv := (ofB_ok h0 h1).1
  have kk := fun st K => c63 n h0 h1 st K
  have kw := fun st K => c64 n h0 h1 st K
  have e : ∀ t : Dt, testD p n t = testD p n ⟨t.y, t.m, t.d⟩ := fun _ => rfl
  rw [e]
  generalize (ofB n).y = y at *
  generalize (ofB n).m = m at *
  generalize (ofB n).d = d at *
  obtain ⟨q, hq⟩ : ∃ q, dinB y m = q := ⟨_, rfl⟩
  have kd := fun st K => c57 y m st K
  rw [hq] at kd
  have hne : ¬ st.next = C := by omega
  have hqb : 0 ≤ q ∧ q ≤ 31 := by
    rw [← hq]; unfold dinB lenM
    repeat' split
    all_goals omega
  have hfD : fitD p ⟨y, m, d⟩ = fitD' p d q := by unfold fitD fitD'; simp only [hq]
  have hlk2 : Fw.look C ((st.next, AObj.cells (some 23) [.int .i64 y, .int .i64 m, .int .i64 d]) :: st.heap) = some (.cells ty [.int .i64 p.y, .int .i64 p.m, .int .i64 p.d, .int .i64 p.w, .int .i64 p.k, .int .i64 p.f.y, .int .i64 p.f.m, .int .i64 p.f.d, .int .i64 p.t.y, .int .i64 p.t.m, .int .i64 p.t.d]) := by simp only [Fw.look]; rw [if_neg hne]; exact hlk
  have hlk3 : Fw.look st.next ((st.next, AObj.cells (some 23) [.int .i64 y, .int .i64 m, .int .i64 d]) :: st.heap) = some (.cells (some 23) [.int .i64 y, .int .i64 m, .int .i64 d]) := by simp only [Fw.look, if_true]
  have htest : ∀ b, fitM p ⟨y, m, d⟩ = b → ((decide (p.y ≠ 0) && decide (p.y ≠ y)) || (decide (p.w ≠ 0) && decide (p.w ≠ wdB n))) = false → testD p n ⟨y, m, d⟩ = if b = true then false else if fitD' p d q = true then false else if p.k = 6 then decide (d > q - 7) else if p.k ≠ 0 then decide (d ≥ 7 * p.k - 6) && decide (d ≤ 7 * p.k) else true := by
    intro b hb ha
    unfold testD
    simp only [hb, hfD, hq]
    rw [if_neg (by rw [ha]; decide)]
  have hmin : min st.next (st.next + 1) = st.next := by omega
  cases y1 : decide (p.y ≠ 0)
  · cases w1 : decide (p.w ≠ 0)
    · have hA : ((decide (p.y ≠ 0) && decide (p.y ≠ y)) || (decide (p.w ≠ 0) && decide (p.w ≠ wdB n))) = false := by rw [y1, w1]; rfl
      cases m1 : decide (p.m = 13)
      · simp +contextual -implicitDefEqProofs (maxSteps := 4000000) only [go_sem, ↓reduceIte, Nat.reduceEqDiff, Nat.reduceAdd, Int.reduceLE, Int.reduceLT, Int.reduceEq, Int.reduceToNat, Nat.reduceMod, Nat.reduceDiv, UInt8.reduceToNat, Nat.reduceLT, kk, kw, kd, hlk, hlk2, hlk3, hne, hmin, ne_00, y1, w1, m1]
        refine p62C0 p y m d C st.next ty (some 23) _ hlk2 hlk3 _ _ rfl rfl fun e' g1 g4 g6 g44 => ?_
        have hM : fitM p ⟨y, m, d⟩ = ((decide (p.m = 14) && decide (m.tmod 2 = 1)) || (decide (p.m ≠ 0) && decide (p.m ≤ 12) && decide (p.m ≠ m))) := by unfold fitM; simp only; rw [m1]; rfl
        rw [← hM] at g44
        have g6' : e' 6 = .int .i64 q := g6
        cases hb : fitM p ⟨y, m, d⟩
        · have ht9 := htest false hb hA
          rw [hb] at g44
          simp +contextual -implicitDefEqProofs (maxSteps := 4000000) only [go_sem, ↓reduceIte, Nat.reduceEqDiff, Nat.reduceAdd, Int.reduceLE, Int.reduceLT, Int.reduceEq, Int.reduceToNat, Nat.reduceMod, Nat.reduceDiv, UInt8.reduceToNat, Nat.reduceLT, g1, g4, g6', g44]
          refine p62C4 p y m d q C st.next ty (some 23) _ hk0 hk6 hqb.1 hqb.2 hlk2 hlk3 _ _ g1 g4 g6' (fun e2 g3 => ?_) (fun hf k0 e2 => ?_)
          · simp +contextual -implicitDefEqProofs (maxSteps := 4000000) only [go_sem, ↓reduceIte, Nat.reduceEqDiff, Nat.reduceAdd, Int.reduceLE, Int.reduceLT, Int.reduceEq, Int.reduceToNat, Nat.reduceMod, Nat.reduceDiv, UInt8.reduceToNat, Nat.reduceLT, g3]
            rw [ht9]; rfl
          · simp +contextual -implicitDefEqProofs (maxSteps := 4000000) only [go_sem, ↓reduceIte, Nat.reduceEqDiff, Nat.reduceAdd, Int.reduceLE, Int.reduceLT, Int.reduceEq, Int.reduceToNat, Nat.reduceMod, Nat.reduceDiv, UInt8.reduceToNat, Nat.reduceLT]
            rw [ht9, hf, if_neg (by decide), if_neg (by decide), if_neg (by omega), if_neg (by omega)]
        · have ht9 := htest true hb hA
          rw [hb] at g44
          simp +contextual -implicitDefEqProofs (maxSteps := 4000000) only [go_sem, ↓reduceIte, Nat.reduceEqDiff, Nat.reduceAdd, Int.reduceLE, Int.reduceLT, Int.reduceEq, Int.reduceToNat, Nat.reduceMod, Nat.reduceDiv, UInt8.reduceToNat, Nat.reduceLT, g1, g4, g6', g44]
          rw [ht9]; rfl
      · cases m2 : decide (m.tmod 2 = 0)
        · simp +contextual -implicitDefEqProofs (maxSteps := 4000000) only [go_sem, ↓reduceIte, Nat.reduceEqDiff, Nat.reduceAdd, Int.reduceLE, Int.reduceLT, Int.reduceEq, Int.reduceToNat, Nat.reduceMod, Nat.reduceDiv, UInt8.reduceToNat, Nat.reduceLT, kk, kw, kd, hlk, hlk2, hlk3, hne, hmin, ne_00, y1, w1, m1, m2]
          refine p62C0 p y m d C st.next ty (some 23) _ hlk2 hlk3 _ _ rfl rfl fun e' g1 g4 g6 g44 => ?_
          have hM : fitM p ⟨y, m, d⟩ = ((decide (p.m = 14) && decide (m.tmod 2 = 1)) || (decide (p.m ≠ 0) && decide (p.m ≤ 12) && decide (p.m ≠ m))) := by unfold fitM; simp only; rw [m1, m2]; rfl
          rw [← hM] at g44
          have g6' : e' 6 = .int .i64 q := g6
          cases hb : fitM p ⟨y, m, d⟩
          · have ht9 := htest false hb hA
            rw [hb] at g44
            simp +contextual -implicitDefEqProofs (maxSteps := 4000000) only [go_sem, ↓reduceIte, Nat.reduceEqDiff, Nat.reduceAdd, Int.reduceLE, Int.reduceLT, Int.reduceEq, Int.reduceToNat, Nat.reduceMod, Nat.reduceDiv, UInt8.reduceToNat, Nat.reduceLT, g1, g4, g6', g44]
            refine p62C4 p y m d q C st.next ty (some 23) _ hk0 hk6 hqb.1 hqb.2 hlk2 hlk3 _ _ g1 g4 g6' (fun e2 g3 => ?_) (fun hf k0 e2 => ?_)
            · simp +contextual -implicitDefEqProofs (maxSteps := 4000000) only [go_sem, ↓reduceIte, Nat.reduceEqDiff, Nat.reduceAdd, Int.reduceLE, Int.reduceLT, Int.reduceEq, Int.reduceToNat, Nat.reduceMod, Nat.reduceDiv, UInt8.reduceToNat, Nat.reduceLT, g3]
              rw [ht9]; rfl
            · simp +contextual -implicitDefEqProofs (maxSteps := 4000000) only [go_sem, ↓reduceIte, Nat.reduceEqDiff, Nat.reduceAdd, Int.reduceLE, Int.reduceLT, Int.reduceEq, Int.reduceToNat, Nat.reduceMod, Nat.reduceDiv, UInt8.reduceToNat, Nat.reduceLT]
              rw [ht9, hf, if_neg (by decide), if_neg (by decide), if_neg (by omega), if_neg (by omega)]
          · have ht9 := htest true hb hA
            rw [hb] at g44
            simp +contextual -implicitDefEqProofs (maxSteps := 4000000) only [go_sem, ↓reduceIte, Nat.reduceEqDiff, Nat.reduceAdd, Int.reduceLE, Int.reduceLT, Int.reduceEq, Int.reduceToNat, Nat.reduceMod, Nat.reduceDiv, UInt8.reduceToNat, Nat.reduceLT, g1, g4, g6', g44]
            rw [ht9]; rfl
        · have hb : fitM p ⟨y, m, d⟩ = true := by unfold fitM; simp only; rw [m1, m2]; rfl
          have ht9 := htest true hb hA
          simp +contextual -implicitDefEqProofs (maxSteps := 4000000) only [go_sem, ↓reduceIte, Nat.reduceEqDiff, Nat.reduceAdd, Int.reduceLE, Int.reduceLT, Int.reduceEq, Int.reduceToNat, Nat.reduceMod, Nat.reduceDiv, UInt8.reduceToNat, Nat.reduceLT, kk, kw, kd, hlk, hlk2, hlk3, hne, hmin, ne_00, y1, w1, m1, m2]
          rw [ht9]; rfl
    · cases w2 : decide (p.w ≠ wdB n)
      · have hA : ((decide (p.y ≠ 0) && decide (p.y ≠ y)) || (decide (p.w ≠ 0) && decide (p.w ≠ wdB n))) = false := by rw [y1, w1, w2]; rfl
        cases m1 : decide (p.m = 13)
        · simp +contextual -implicitDefEqProofs (maxSteps := 4000000) only [go_sem, ↓reduceIte, Nat.reduceEqDiff, Nat.reduceAdd, Int.reduceLE, Int.reduceLT, Int.reduceEq, Int.reduceToNat, Nat.reduceMod, Nat.reduceDiv, UInt8.reduceToNat, Nat.reduceLT, kk, kw, kd, hlk, hlk2, hlk3, hne, hmin, ne_00, y1, w1, w2, m1]
          refine p62C0 p y m d C st.next ty (some 23) _ hlk2 hlk3 _ _ rfl rfl fun e' g1 g4 g6 g44 => ?_
          have hM : fitM p ⟨y, m, d⟩ = ((decide (p.m = 14) && decide (m.tmod 2 = 1)) || (decide (p.m ≠ 0) && decide (p.m ≤ 12) && decide (p.m ≠ m))) := by unfold fitM; simp only; rw [m1]; rfl
          rw [← hM] at g44
          have g6' : e' 6 = .int .i64 q := g6
          cases hb : fitM p ⟨y, m, d⟩
          · have ht9 := htest false hb hA
            rw [hb] at g44
            simp +contextual -implicitDefEqProofs (maxSteps := 4000000) only [go_sem, ↓reduceIte, Nat.reduceEqDiff, Nat.reduceAdd, Int.reduceLE, Int.reduceLT, Int.reduceEq, Int.reduceToNat, Nat.reduceMod, Nat.reduceDiv, UInt8.reduceToNat, Nat.reduceLT, g1, g4, g6', g44]
            refine p62C4 p y m d q C st.next ty (some 23) _ hk0 hk6 hqb.1 hqb.2 hlk2 hlk3 _ _ g1 g4 g6' (fun e2 g3 => ?_) (fun hf k0 e2 => ?_)
            · simp +contextual -implicitDefEqProofs (maxSteps := 4000000) only [go_sem, ↓reduceIte, Nat.reduceEqDiff, Nat.reduceAdd, Int.reduceLE, Int.reduceLT, Int.reduceEq, Int.reduceToNat, Nat.reduceMod, Nat.reduceDiv, UInt8.reduceToNat, Nat.reduceLT, g3]
              rw [ht9]; rfl
            · simp +contextual -implicitDefEqProofs (maxSteps := 4000000) only [go_sem, ↓reduceIte, Nat.reduceEqDiff, Nat.reduceAdd, Int.reduceLE, Int.reduceLT, Int.reduceEq, Int.reduceToNat, Nat.reduceMod, Nat.reduceDiv, UInt8.reduceToNat, Nat.reduceLT]
              rw [ht9, hf, if_neg (by decide), if_neg (by decide), if_neg (by omega), if_neg (by omega)]
          · have ht9 := htest true hb hA
            rw [hb] at g44
            simp +contextual -implicitDefEqProofs (maxSteps := 4000000) only [go_sem, ↓reduceIte, Nat.reduceEqDiff, Nat.reduceAdd, Int.reduceLE, Int.reduceLT, Int.reduceEq, Int.reduceToNat, Nat.reduceMod, Nat.reduceDiv, UInt8.reduceToNat, Nat.reduceLT, g1, g4, g6', g44]
            rw [ht9]; rfl
        · cases m2 : decide (m.tmod 2 = 0)
          · simp +contextual -implicitDefEqProofs (maxSteps := 4000000) only [go_sem, ↓reduceIte, Nat.reduceEqDiff, Nat.reduceAdd, Int.reduceLE, Int.reduceLT, Int.reduceEq, Int.reduceToNat, Nat.reduceMod, Nat.reduceDiv, UInt8.reduceToNat, Nat.reduceLT, kk, kw, kd, hlk, hlk2, hlk3, hne, hmin, ne_00, y1, w1, w2, m1, m2]
            refine p62C0 p y m d C st.next ty (some 23) _ hlk2 hlk3 _ _ rfl rfl fun e' g1 g4 g6 g44 => ?_
            have hM : fitM p ⟨y, m, d⟩ = ((decide (p.m = 14) && decide (m.tmod 2 = 1)) || (decide (p.m ≠ 0) && decide (p.m ≤ 12) && decide (p.m ≠ m))) := by unfold fitM; simp only; rw [m1, m2]; rfl
            rw [← hM] at g44
            have g6' : e' 6 = .int .i64 q := g6
            cases hb : fitM p ⟨y, m, d⟩
            · have ht9 := htest false hb hA
              rw [hb] at g44
              simp +contextual -implicitDefEqProofs (maxSteps := 4000000) only [go_sem, ↓reduceIte, Nat.reduceEqDiff, Nat.reduceAdd, Int.reduceLE, Int.reduceLT, Int.reduceEq, Int.reduceToNat, Nat.reduceMod, Nat.reduceDiv, UInt8.reduceToNat, Nat.reduceLT, g1, g4, g6', g44]
              refine p62C4 p y m d q C st.next ty (some 23) _ hk0 hk6 hqb.1 hqb.2 hlk2 hlk3 _ _ g1 g4 g6' (fun e2 g3 => ?_) (fun hf k0 e2 => ?_)
              · simp +contextual -implicitDefEqProofs (maxSteps := 4000000) only [go_sem, ↓reduceIte, Nat.reduceEqDiff, Nat.reduceAdd, Int.reduceLE, Int.reduceLT, Int.reduceEq, Int.reduceToNat, Nat.reduceMod, Nat.reduceDiv, UInt8.reduceToNat, Nat.reduceLT, g3]
                rw [ht9]; rfl
              · simp +contextual -implicitDefEqProofs (maxSteps := 4000000) only [go_sem, ↓reduceIte, Nat.reduceEqDiff, Nat.reduceAdd, Int.reduceLE, Int.reduceLT, Int.reduceEq, Int.reduceToNat, Nat.reduceMod, Nat.reduceDiv, UInt8.reduceToNat, Nat.reduceLT]
                rw [ht9, hf, if_neg (by decide), if_neg (by decide), if_neg (by omega), if_neg (by omega)]
            · have ht9 := htest true hb hA
              rw [hb] at g44
              simp +contextual -implicitDefEqProofs (maxSteps := 4000000) only [go_sem, ↓reduceIte, Nat.reduceEqDiff, Nat.reduceAdd, Int.reduceLE, Int.reduceLT, Int.reduceEq, Int.reduceToNat, Nat.reduceMod, Nat.reduceDiv, UInt8.reduceToNat, Nat.reduceLT, g1, g4, g6', g44]
              rw [ht9]; rfl
          · have hb : fitM p ⟨y, m, d⟩ = true := by unfold fitM; simp only; rw [m1, m2]; rfl
            have ht9 := htest true hb hA
            simp +contextual -implicitDefEqProofs (maxSteps := 4000000) only [go_sem, ↓reduceIte, Nat.reduceEqDiff, Nat.reduceAdd, Int.reduceLE, Int.reduceLT, Int.reduceEq, Int.reduceToNat, Nat.reduceMod, Nat.reduceDiv, UInt8.reduceToNat, Nat.reduceLT, kk, kw, kd, hlk, hlk2, hlk3, hne, hmin, ne_00, y1, w1, w2, m1, m2]
            rw [ht9]; rfl
      · have hA : testD p n ⟨y, m, d⟩ = false := by unfold testD; simp only; rw [y1, w1, w2]; rfl
        simp +contextual -implicitDefEqProofs (maxSteps := 4000000) only [go_sem, ↓reduceIte, Nat.reduceEqDiff, Nat.reduceAdd, Int.reduceLE, Int.reduceLT, Int.reduceEq, Int.reduceToNat, Nat.reduceMod, Nat.reduceDiv, UInt8.reduceToNat, Nat.reduceLT, kk, kw, kd, hlk, hlk2, hlk3, hne, hmin, ne_00, y1, w1, w2]
        rw [hA]
  · cases y2 : decide (p.y ≠ y)
    · cases w1 : decide (p.w ≠ 0)
      · have hA : ((decide (p.y ≠ 0) && decide (p.y ≠ y)) || (decide (p.w ≠ 0) && decide (p.w ≠ wdB n))) = false := by rw [y1, y2, w1]; rfl
        cases m1 : decide (p.m = 13)
        · simp +contextual -implicitDefEqProofs (maxSteps := 4000000) only [go_sem, ↓reduceIte, Nat.reduceEqDiff, Nat.reduceAdd, Int.reduceLE, Int.reduceLT, Int.reduceEq, Int.reduceToNat, Nat.reduceMod, Nat.reduceDiv, UInt8.reduceToNat, Nat.reduceLT, kk, kw, kd, hlk, hlk2, hlk3, hne, hmin, ne_00, y1, y2, w1, m1]
          refine p62C0 p y m d C st.next ty (some 23) _ hlk2 hlk3 _ _ rfl rfl fun e' g1 g4 g6 g44 => ?_
          have hM : fitM p ⟨y, m, d⟩ = ((decide (p.m = 14) && decide (m.tmod 2 = 1)) || (decide (p.m ≠ 0) && decide (p.m ≤ 12) && decide (p.m ≠ m))) := by unfold fitM; simp only; rw [m1]; rfl
          rw [← hM] at g44
          have g6' : e' 6 = .int .i64 q := g6
          cases hb : fitM p ⟨y, m, d⟩
          · have ht9 := htest false hb hA
            rw [hb] at g44
            simp +contextual -implicitDefEqProofs (maxSteps := 4000000) only [go_sem, ↓reduceIte, Nat.reduceEqDiff, Nat.reduceAdd, Int.reduceLE, Int.reduceLT, Int.reduceEq, Int.reduceToNat, Nat.reduceMod, Nat.reduceDiv, UInt8.reduceToNat, Nat.reduceLT, g1, g4, g6', g44]
            refine p62C4 p y m d q C st.next ty (some 23) _ hk0 hk6 hqb.1 hqb.2 hlk2 hlk3 _ _ g1 g4 g6' (fun e2 g3 => ?_) (fun hf k0 e2 => ?_)
            · simp +contextual -implicitDefEqProofs (maxSteps := 4000000) only [go_sem, ↓reduceIte, Nat.reduceEqDiff, Nat.reduceAdd, Int.reduceLE, Int.reduceLT, Int.reduceEq, Int.reduceToNat, Nat.reduceMod, Nat.reduceDiv, UInt8.reduceToNat, Nat.reduceLT, g3]
              rw [ht9]; rfl
            · simp +contextual -implicitDefEqProofs (maxSteps := 4000000) only [go_sem, ↓reduceIte, Nat.reduceEqDiff, Nat.reduceAdd, Int.reduceLE, Int.reduceLT, Int.reduceEq, Int.reduceToNat, Nat.reduceMod, Nat.reduceDiv, UInt8.reduceToNat, Nat.reduceLT]
              rw [ht9, hf, if_neg (by decide), if_neg (by decide), if_neg (by omega), if_neg (by omega)]
          · have ht9 := htest true hb hA
            rw [hb] at g44
            simp +contextual -implicitDefEqProofs (maxSteps := 4000000) only [go_sem, ↓reduceIte, Nat.reduceEqDiff, Nat.reduceAdd, Int.reduceLE, Int.reduceLT, Int.reduceEq, Int.reduceToNat, Nat.reduceMod, Nat.reduceDiv, UInt8.reduceToNat, Nat.reduceLT, g1, g4, g6', g44]
            rw [ht9]; rfl
        · cases m2 : decide (m.tmod 2 = 0)
          · simp +contextual -implicitDefEqProofs (maxSteps := 4000000) only [go_sem, ↓reduceIte, Nat.reduceEqDiff, Nat.reduceAdd, Int.reduceLE, Int.reduceLT, Int.reduceEq, Int.reduceToNat, Nat.reduceMod, Nat.reduceDiv, UInt8.reduceToNat, Nat.reduceLT, kk, kw, kd, hlk, hlk2, hlk3, hne, hmin, ne_00, y1, y2, w1, m1, m2]
            refine p62C0 p y m d C st.next ty (some 23) _ hlk2 hlk3 _ _ rfl rfl fun e' g1 g4 g6 g44 => ?_
            have hM : fitM p ⟨y, m, d⟩ = ((decide (p.m = 14) && decide (m.tmod 2 = 1)) || (decide (p.m ≠ 0) && decide (p.m ≤ 12) && decide (p.m ≠ m))) := by unfold fitM; simp only; rw [m1, m2]; rfl
            rw [← hM] at g44
            have g6' : e' 6 = .int .i64 q := g6
            cases hb : fitM p ⟨y, m, d⟩
            · have ht9 := htest false hb hA
              rw [hb] at g44
              simp +contextual -implicitDefEqProofs (maxSteps := 4000000) only [go_sem, ↓reduceIte, Nat.reduceEqDiff, Nat.reduceAdd, Int.reduceLE, Int.reduceLT, Int.reduceEq, Int.reduceToNat, Nat.reduceMod, Nat.reduceDiv, UInt8.reduceToNat, Nat.reduceLT, g1, g4, g6', g44]
              refine p62C4 p y m d q C st.next ty (some 23) _ hk0 hk6 hqb.1 hqb.2 hlk2 hlk3 _ _ g1 g4 g6' (fun e2 g3 => ?_) (fun hf k0 e2 => ?_)
              · simp +contextual -implicitDefEqProofs (maxSteps := 4000000) only [go_sem, ↓reduceIte, Nat.reduceEqDiff, Nat.reduceAdd, Int.reduceLE, Int.reduceLT, Int.reduceEq, Int.reduceToNat, Nat.reduceMod, Nat.reduceDiv, UInt8.reduceToNat, Nat.reduceLT, g3]
                rw [ht9]; rfl
              · simp +contextual -implicitDefEqProofs (maxSteps := 4000000) only [go_sem, ↓reduceIte, Nat.reduceEqDiff, Nat.reduceAdd, Int.reduceLE, Int.reduceLT, Int.reduceEq, Int.reduceToNat, Nat.reduceMod, Nat.reduceDiv, UInt8.reduceToNat, Nat.reduceLT]
                rw [ht9, hf, if_neg (by decide), if_neg (by decide), if_neg (by omega), if_neg (by omega)]
            · have ht9 := htest true hb hA
              rw [hb] at g44
              simp +contextual -implicitDefEqProofs (maxSteps := 4000000) only [go_sem, ↓reduceIte, Nat.reduceEqDiff, Nat.reduceAdd, Int.reduceLE, Int.reduceLT, Int.reduceEq, Int.reduceToNat, Nat.reduceMod, Nat.reduceDiv, UInt8.reduceToNat, Nat.reduceLT, g1, g4, g6', g44]
              rw [ht9]; rfl
          · have hb : fitM p ⟨y, m, d⟩ = true := by unfold fitM; simp only; rw [m1, m2]; rfl
            have ht9 := htest true hb hA
            simp +contextual -implicitDefEqProofs (maxSteps := 4000000) only [go_sem, ↓reduceIte, Nat.reduceEqDiff, Nat.reduceAdd, Int.reduceLE, Int.reduceLT, Int.reduceEq, Int.reduceToNat, Nat.reduceMod, Nat.reduceDiv, UInt8.reduceToNat, Nat.reduceLT, kk, kw, kd, hlk, hlk2, hlk3, hne, hmin, ne_00, y1, y2, w1, m1, m2]
            rw [ht9]; rfl
      · cases w2 : decide (p.w ≠ wdB n)
        · have hA : ((decide (p.y ≠ 0) && decide (p.y ≠ y)) || (decide (p.w ≠ 0) && decide (p.w ≠ wdB n))) = false := by rw [y1, y2, w1, w2]; rfl
          cases m1 : decide (p.m = 13)
          · simp +contextual -implicitDefEqProofs (maxSteps := 4000000) only [go_sem, ↓reduceIte, Nat.reduceEqDiff, Nat.reduceAdd, Int.reduceLE, Int.reduceLT, Int.reduceEq, Int.reduceToNat, Nat.reduceMod, Nat.reduceDiv, UInt8.reduceToNat, Nat.reduceLT, kk, kw, kd, hlk, hlk2, hlk3, hne, hmin, ne_00, y1, y2, w1, w2, m1]
            refine p62C0 p y m d C st.next ty (some 23) _ hlk2 hlk3 _ _ rfl rfl fun e' g1 g4 g6 g44 => ?_
            have hM : fitM p ⟨y, m, d⟩ = ((decide (p.m = 14) && decide (m.tmod 2 = 1)) || (decide (p.m ≠ 0) && decide (p.m ≤ 12) && decide (p.m ≠ m))) := by unfold fitM; simp only; rw [m1]; rfl
            rw [← hM] at g44
            have g6' : e' 6 = .int .i64 q := g6
            cases hb : fitM p ⟨y, m, d⟩
            · have ht9 := htest false hb hA
              rw [hb] at g44
              simp +contextual -implicitDefEqProofs (maxSteps := 4000000) only [go_sem, ↓reduceIte, Nat.reduceEqDiff, Nat.reduceAdd, Int.reduceLE, Int.reduceLT, Int.reduceEq, Int.reduceToNat, Nat.reduceMod, Nat.reduceDiv, UInt8.reduceToNat, Nat.reduceLT, g1, g4, g6', g44]
              refine p62C4 p y m d q C st.next ty (some 23) _ hk0 hk6 hqb.1 hqb.2 hlk2 hlk3 _ _ g1 g4 g6' (fun e2 g3 => ?_) (fun hf k0 e2 => ?_)
              · simp +contextual -implicitDefEqProofs (maxSteps := 4000000) only [go_sem, ↓reduceIte, Nat.reduceEqDiff, Nat.reduceAdd, Int.reduceLE, Int.reduceLT, Int.reduceEq, Int.reduceToNat, Nat.reduceMod, Nat.reduceDiv, UInt8.reduceToNat, Nat.reduceLT, g3]
                rw [ht9]; rfl
              · simp +contextual -implicitDefEqProofs (maxSteps := 4000000) only [go_sem, ↓reduceIte, Nat.reduceEqDiff, Nat.reduceAdd, Int.reduceLE, Int.reduceLT, Int.reduceEq, Int.reduceToNat, Nat.reduceMod, Nat.reduceDiv, UInt8.reduceToNat, Nat.reduceLT]
                rw [ht9, hf, if_neg (by decide), if_neg (by decide), if_neg (by omega), if_neg (by omega)]
            · have ht9 := htest true hb hA
              rw [hb] at g44
              simp +contextual -implicitDefEqProofs (maxSteps := 4000000) only [go_sem, ↓reduceIte, Nat.reduceEqDiff, Nat.reduceAdd, Int.reduceLE, Int.reduceLT, Int.reduceEq, Int.reduceToNat, Nat.reduceMod, Nat.reduceDiv, UInt8.reduceToNat, Nat.reduceLT, g1, g4, g6', g44]
              rw [ht9]; rfl
          · cases m2 : decide (m.tmod 2 = 0)
            · simp +contextual -implicitDefEqProofs (maxSteps := 4000000) only [go_sem, ↓reduceIte, Nat.reduceEqDiff, Nat.reduceAdd, Int.reduceLE, Int.reduceLT, Int.reduceEq, Int.reduceToNat, Nat.reduceMod, Nat.reduceDiv, UInt8.reduceToNat, Nat.reduceLT, kk, kw, kd, hlk, hlk2, hlk3, hne, hmin, ne_00, y1, y2, w1, w2, m1, m2]
              refine p62C0 p y m d C st.next ty (some 23) _ hlk2 hlk3 _ _ rfl rfl fun e' g1 g4 g6 g44 => ?_
              have hM : fitM p ⟨y, m, d⟩ = ((decide (p.m = 14) && decide (m.tmod 2 = 1)) || (decide (p.m ≠ 0) && decide (p.m ≤ 12) && decide (p.m ≠ m))) := by unfold fitM; simp only; rw [m1, m2]; rfl
              rw [← hM] at g44
              have g6' : e' 6 = .int .i64 q := g6
              cases hb : fitM p ⟨y, m, d⟩
              · have ht9 := htest false hb hA
                rw [hb] at g44
                simp +contextual -implicitDefEqProofs (maxSteps := 4000000) only [go_sem, ↓reduceIte, Nat.reduceEqDiff, Nat.reduceAdd, Int.reduceLE, Int.reduceLT, Int.reduceEq, Int.reduceToNat, Nat.reduceMod, Nat.reduceDiv, UInt8.reduceToNat, Nat.reduceLT, g1, g4, g6', g44]
                refine p62C4 p y m d q C st.next ty (some 23) _ hk0 hk6 hqb.1 hqb.2 hlk2 hlk3 _ _ g1 g4 g6' (fun e2 g3 => ?_) (fun hf k0 e2 => ?_)
                · simp +contextual -implicitDefEqProofs (maxSteps := 4000000) only [go_sem, ↓reduceIte, Nat.reduceEqDiff, Nat.reduceAdd, Int.reduceLE, Int.reduceLT, Int.reduceEq, Int.reduceToNat, Nat.reduceMod, Nat.reduceDiv, UInt8.reduceToNat, Nat.reduceLT, g3]
                  rw [ht9]; rfl
                · simp +contextual -implicitDefEqProofs (maxSteps := 4000000) only [go_sem, ↓reduceIte, Nat.reduceEqDiff, Nat.reduceAdd, Int.reduceLE, Int.reduceLT, Int.reduceEq, Int.reduceToNat, Nat.reduceMod, Nat.reduceDiv, UInt8.reduceToNat, Nat.reduceLT]
                  rw [ht9, hf, if_neg (by decide), if_neg (by decide), if_neg (by omega), if_neg (by omega)]
              · have ht9 := htest true hb hA
                rw [hb] at g44
                simp +contextual -implicitDefEqProofs (maxSteps := 4000000) only [go_sem, ↓reduceIte, Nat.reduceEqDiff, Nat.reduceAdd, Int.reduceLE, Int.reduceLT, Int.reduceEq, Int.reduceToNat, Nat.reduceMod, Nat.reduceDiv, UInt8.reduceToNat, Nat.reduceLT, g1, g4, g6', g44]
                rw [ht9]; rfl
            · have hb : fitM p ⟨y, m, d⟩ = true := by unfold fitM; simp only; rw [m1, m2]; rfl
              have ht9 := htest true hb hA
              simp +contextual -implicitDefEqProofs (maxSteps := 4000000) only [go_sem, ↓reduceIte, Nat.reduceEqDiff, Nat.reduceAdd, Int.reduceLE, Int.reduceLT, Int.reduceEq, Int.reduceToNat, Nat.reduceMod, Nat.reduceDiv, UInt8.reduceToNat, Nat.reduceLT, kk, kw, kd, hlk, hlk2, hlk3, hne, hmin, ne_00, y1, y2, w1, w2, m1, m2]
              rw [ht9]; rfl
        · have hA : testD p n ⟨y, m, d⟩ = false := by unfold testD; simp only; rw [y1, y2, w1, w2]; rfl
          simp +contextual -implicitDefEqProofs (maxSteps := 4000000) only [go_sem, ↓reduceIte, Nat.reduceEqDiff, Nat.reduceAdd, Int.reduceLE, Int.reduceLT, Int.reduceEq, Int.reduceToNat, Nat.reduceMod, Nat.reduceDiv, UInt8.reduceToNat, Nat.reduceLT, kk, kw, kd, hlk, hlk2, hlk3, hne, hmin, ne_00, y1, y2, w1, w2]
          rw [hA]
    · have hA : testD p n ⟨y, m, d⟩ = false := by unfold testD; simp only; rw [y1, y2]; rfl
      simp +contextual -implicitDefEqProofs (maxSteps := 4000000) only [go_sem, ↓reduceIte, Nat.reduceEqDiff, Nat.reduceAdd, Int.reduceLE, Int.reduceLT, Int.reduceEq, Int.reduceToNat, Nat.reduceMod, Nat.reduceDiv, UInt8.reduceToNat, Nat.reduceLT, kk, kw, kd, hlk, hlk2, hlk3, hne, hmin, ne_00, y1, y2]
      rw [hA]
end T06


namespace T06
variable [Mm]
open Go Fw Go.Proofs
set_option maxRecDepth 100000
set_option maxHeartbeats 8000000
def Clo (p : Pat) (st : St) (f : AV) : Prop :=
  (isR p = true ∧ ∃ a b ta tb, f = .func 61 [] [.ptr a 0, .ptr b 0] ∧ Fw.look a st.heap = some (.cells ta [.int .i64 (loB p)]) ∧ Fw.look b st.heap = some (.cells tb [.int .i64 (hiB p)]) ∧ a < st.next ∧ b < st.next) ∨
  (isR p = false ∧ ∃ C ty, f = .func 62 [] [.ptr C 0] ∧ Fw.look C st.heap = some (.cells ty [.int .i64 p.y, .int .i64 p.m, .int .i64 p.d, .int .i64 p.w, .int .i64 p.k, .int .i64 p.f.y, .int .i64 p.f.m, .int .i64 p.f.d, .int .i64 p.t.y, .int .i64 p.t.m, .int .i64 p.t.d]) ∧ C < st.next)
theorem chk_fields {p : Pat} (hp : chkP p = 0) (hr : isR p = false) : badF p = false := by
  unfold chkP at hp
  rw [if_pos hr] at hp
  cases hb : badF p
  · rfl
  · rw [hb] at hp; exact absurd hp (by decide)
theorem Clo.call {p : Pat} {st : St} {f : AV} (h : Clo p st f) (hp : chkP p = 0) (n : Int) (h0 : 0 ≤ n) (h1 : n ≤ 73048) (K : AV → St → Prop) : FunK cx f [.int .i64 n] st K = K (.bool (testB p n)) st := by
  rcases h with ⟨hr, a, b, ta, tb, rfl, h2, h3, _, _⟩ | ⟨hr, C, ty, rfl, h2, h3⟩
  · show CallW cx 61 ([] ++ [AV.int .i64 n] ++ [.ptr a 0, .ptr b 0]) st K = _
    simp only [List.nil_append, List.cons_append]
    rw [c61 n (loB p) (hiB p) a b ta tb st h2 h3 K]
    unfold testB; rw [if_pos hr]
  · show CallW cx 62 ([] ++ [AV.int .i64 n] ++ [.ptr C 0]) st K = _
    simp only [List.nil_append, List.cons_append]
    have hb := badF_f (chk_fields hp hr)
    rw [c62 p (by omega) (by omega) n h0 h1 C ty st h2 h3 K]
    unfold testB; rw [if_neg (by rw [hr]; decide)]
theorem Clo.keep {p : Pat} {st st' : St} {f : AV} (h : Clo p st f) (hn : st.next ≤ st'.next) (hk : ∀ i, i < st.next → Fw.look i st'.heap = Fw.look i st.heap) : Clo p st' f := by
  rcases h with ⟨hr, a, b, ta, tb, rfl, h2, h3, h4, h5⟩ | ⟨hr, C, ty, rfl, h2, h3⟩
  · exact .inl ⟨hr, a, b, ta, tb, rfl, by rw [hk a h4]; exact h2, by rw [hk b h5]; exact h3, by omega, by omega⟩
  · exact .inr ⟨hr, C, ty, rfl, by rw [hk C h3]; exact h2, by omega⟩
theorem chk_ends {p : Pat} (hp : chkP p = 0) (hr : isR p = true) : (p.f ≠ noD → chkD p.f = 0) ∧ (p.t ≠ noD → chkD p.t = 0) := by
  unfold chkP at hp
  rw [if_neg (by rw [hr]; decide)] at hp
  split at hp
  · exact absurd hp (by decide)
  split at hp
  · rename_i h; exact absurd hp h
  split at hp
  · rename_i h; exact absurd hp h
  rename_i h1 h2
  unfold endE at h1 h2
  constructor
  · intro h; rw [if_neg h] at h1; exact Decidable.not_not.1 h1
  · intro h; rw [if_neg h] at h2; exact Decidable.not_not.1 h2
theorem test_ok (p : Pat) (hp : chkP p = 0) (h : List (Nat × AObj)) (N l : Nat) (hl : l ≤ N) : ∃ f h' N', (∀ K, CallW cx 38 [.agg [.int .i64 p.y, .int .i64 p.m, .int .i64 p.d, .int .i64 p.w, .int .i64 p.k, .int .i64 p.f.y, .int .i64 p.f.m, .int .i64 p.f.d, .int .i64 p.t.y, .int .i64 p.t.m, .int .i64 p.t.d]] { heap := h, next := N, low := l } K = K f { heap := h', next := N', low := l }) ∧ Clo p { heap := h', next := N', low := l } f ∧ N < N' ∧ (∀ i, i < N → Fw.look i h' = Fw.look i h) := by
  have hR' := fun st K => c30 p st K
  have hmin : min l N = l := by omega
  have hmin2 : min N (N + 1) = N := by omega
  have hmin3 : min N (N + 2) = N := by omega
  cases hr : isR p
  · rw [hr] at hR'
    refine ⟨.func 62 [] [.ptr N 0], (N, .cells (some 25) [.int .i64 p.y, .int .i64 p.m, .int .i64 p.d, .int .i64 p.w, .int .i64 p.k, .int .i64 p.f.y, .int .i64 p.f.m, .int .i64 p.f.d, .int .i64 p.t.y, .int .i64 p.t.m, .int .i64 p.t.d]) :: h, N + 1, fun K => ?_, .inr ⟨hr, N, some 25, rfl, by simp only [Fw.look, if_true], Nat.lt_succ_self _⟩, Nat.lt_succ_self _, fun i hi => by simp only [Fw.look]; rw [if_neg (by omega)]⟩
    refine CallW.eq (CallW.fn' (fn := ir38) rfl rfl (by kernel_rfl) ir38.eq_1 ?_) K
    have hlv : ∀ (s' : St) (K : AV → St → Prop), LeaveW { heap := h, next := N, low := l } s' (.func 62 [] [.ptr N 0]) K = K (.func 62 [] [.ptr N 0]) { heap := s'.heap, next := s'.next, low := min l s'.low } := fun s' K => LeaveW_new rfl (by simp [AV.al, alAll, below]) K
    simp +contextual -implicitDefEqProofs (maxSteps := 4000000) only [go_sem, ↓reduceIte, Nat.reduceEqDiff, Nat.reduceAdd, Int.reduceLE, Int.reduceLT, Int.reduceEq, Int.reduceToNat, Nat.reduceMod, Nat.reduceDiv, UInt8.reduceToNat, Nat.reduceLT, hR', hlv, hmin]
  · rw [hr] at hR'
    obtain ⟨e1, e2⟩ := chk_ends hp hr
    refine ⟨.func 61 [] [.ptr (N + 1) 0, .ptr (N + 2) 0], (N + 2, .cells (some 3) [.int .i64 (hiB p)]) :: (N + 1, .cells (some 3) [.int .i64 (loB p)]) :: (N, .cells (some 25) [.int .i64 p.y, .int .i64 p.m, .int .i64 p.d, .int .i64 p.w, .int .i64 p.k, .int .i64 p.f.y, .int .i64 p.f.m, .int .i64 p.f.d, .int .i64 p.t.y, .int .i64 p.t.m, .int .i64 p.t.d]) :: h, N + 3, fun K => ?_,
      .inl ⟨hr, N + 1, N + 2, some 3, some 3, rfl, by simp only [Fw.look, if_true]; rw [if_neg (by omega)], by simp only [Fw.look, if_true], by simp, by simp⟩, by omega, fun i hi => by simp only [Fw.look]; rw [if_neg (by omega), if_neg (by omega), if_neg (by omega)]⟩
    refine CallW.eq (CallW.fn' (fn := ir38) rfl rfl (by kernel_rfl) ir38.eq_1 ?_) K
    have hlv : ∀ (s' : St) (K : AV → St → Prop), LeaveW { heap := h, next := N, low := l } s' (.func 61 [] [.ptr (N + 1) 0, .ptr (N + 2) 0]) K = K (.func 61 [] [.ptr (N + 1) 0, .ptr (N + 2) 0]) { heap := s'.heap, next := s'.next, low := min l s'.low } := fun s' K => LeaveW_new rfl (by simp [AV.al, alAll, below]) K
    unfold loB hiB
    have k1 := fun st K => c32 p.f.y p.f.m p.f.d st K
    have k2 := fun st K => c32 p.t.y p.t.m p.t.d st K
    rw [eta_D] at k1 k2
    by_cases hf : p.f = noD
    · have hfd := decide_eq_true hf
      by_cases ht : p.t = noD
      · have htd := decide_eq_true ht
        rw [if_pos hf, if_pos ht]
        simp +contextual -implicitDefEqProofs (maxSteps := 4000000) only [go_sem, ↓reduceIte, Nat.reduceEqDiff, Nat.reduceAdd, Int.reduceLE, Int.reduceLT, Int.reduceEq, Int.reduceToNat, Nat.reduceMod, Nat.reduceDiv, UInt8.reduceToNat, Nat.reduceLT, hR', hlv, hmin, hmin2, hmin3, eq_noD, eta_D, hfd, htd, Bool.not_true, Bool.not_false]
      · have htd := decide_eq_false ht
        rw [if_pos hf, if_neg ht]
        rw [e2 ht, if_pos rfl] at k2
        simp +contextual -implicitDefEqProofs (maxSteps := 4000000) only [go_sem, ↓reduceIte, Nat.reduceEqDiff, Nat.reduceAdd, Int.reduceLE, Int.reduceLT, Int.reduceEq, Int.reduceToNat, Nat.reduceMod, Nat.reduceDiv, UInt8.reduceToNat, Nat.reduceLT, hR', hlv, hmin, hmin2, hmin3, eq_noD, eta_D, hfd, htd, Bool.not_true, Bool.not_false, k2]
    · have hfd := decide_eq_false hf
      rw [e1 hf, if_pos rfl] at k1
      by_cases ht : p.t = noD
      · have htd := decide_eq_true ht
        rw [if_neg hf, if_pos ht]
        simp +contextual -implicitDefEqProofs (maxSteps := 4000000) only [go_sem, ↓reduceIte, Nat.reduceEqDiff, Nat.reduceAdd, Int.reduceLE, Int.reduceLT, Int.reduceEq, Int.reduceToNat, Nat.reduceMod, Nat.reduceDiv, UInt8.reduceToNat, Nat.reduceLT, hR', hlv, hmin, hmin2, hmin3, eq_noD, eta_D, hfd, htd, Bool.not_true, Bool.not_false, k1]
      · have htd := decide_eq_false ht
        rw [if_neg hf, if_neg ht]
        rw [e2 ht, if_pos rfl] at k2
        simp +contextual -implicitDefEqProofs (maxSteps := 4000000) only [go_sem, ↓reduceIte, Nat.reduceEqDiff, Nat.reduceAdd, Int.reduceLE, Int.reduceLT, Int.reduceEq, Int.reduceToNat, Nat.reduceMod, Nat.reduceDiv, UInt8.reduceToNat, Nat.reduceLT, hR', hlv, hmin, hmin2, hmin3, eq_noD, eta_D, hfd, htd, Bool.not_true, Bool.not_false, k1, k2]
def inD (n : Int) : Bool := decide (0 ≤ n) && decide (n ≤ 73048)
def matB (p : Pat) (n : Int) : Bool := decide (chkP p = 0) && inD n && testB p n
theorem c14 (p : Pat) (n : Int) (s : St) (K : AV → St → Prop) : CallW cx 14 [.agg [.int .i64 p.y, .int .i64 p.m, .int .i64 p.d, .int .i64 p.w, .int .i64 p.k, .int .i64 p.f.y, .int .i64 p.f.m, .int .i64 p.f.d, .int .i64 p.t.y, .int .i64 p.t.m, .int .i64 p.t.d], .int .i64 n] s K = K (.bool (matB p n)) s := by
  refine CallW.eq (CallW.fn' (fn := ir14) rfl rfl (by kernel_rfl) ir14.eq_1 ?_) K
  unfold matB inD
  by_cases hp : chkP p = 0
  · have d1 := decide_eq_true hp
    cases hi : (decide (0 ≤ n) && decide (n ≤ 73048))
    · simp +contextual -implicitDefEqProofs (maxSteps := 4000000) only [go_sem, ↓reduceIte, Nat.reduceEqDiff, Nat.reduceAdd, Int.reduceLE, Int.reduceLT, Int.reduceEq, Int.reduceToNat, Nat.reduceMod, Nat.reduceDiv, UInt8.reduceToNat, Nat.reduceLT, c12, c37, d1, hi, Bool.true_and, Bool.false_and]
    · have hi2 := hi
      simp only [Bool.and_eq_true, decide_eq_true_eq] at hi2
      obtain ⟨f, h', N', k1, k2, k3, k4⟩ := test_ok p hp ((s.next, .cells (some 25) [.int .i64 p.y, .int .i64 p.m, .int .i64 p.d, .int .i64 p.w, .int .i64 p.k, .int .i64 p.f.y, .int .i64 p.f.m, .int .i64 p.f.d, .int .i64 p.t.y, .int .i64 p.t.m, .int .i64 p.t.d]) :: s.heap) (s.next + 1) s.next (by omega)
      have k5 := fun K => k2.call hp n hi2.1 hi2.2 K
      simp +contextual -implicitDefEqProofs (maxSteps := 4000000) only [go_sem, ↓reduceIte, Nat.reduceEqDiff, Nat.reduceAdd, Int.reduceLE, Int.reduceLT, Int.reduceEq, Int.reduceToNat, Nat.reduceMod, Nat.reduceDiv, UInt8.reduceToNat, Nat.reduceLT, c12, c37, d1, hi, k1, k5, Bool.true_and]
  · have d1 := decide_eq_false hp
    simp +contextual -implicitDefEqProofs (maxSteps := 4000000) only [go_sem, ↓reduceIte, Nat.reduceEqDiff, Nat.reduceAdd, Int.reduceLE, Int.reduceLT, Int.reduceEq, Int.reduceToNat, Nat.reduceMod, Nat.reduceDiv, UInt8.reduceToNat, Nat.reduceLT, c12, d1, Bool.false_and]
end T06


namespace T06
variable [Mm]
open Go Fw Go.Proofs
set_option maxRecDepth 100000
set_option maxHeartbeats 8000000
def gT (p : Pat) (i : Nat) : Bool := testB p (i : Int)
theorem inside_t {n : Int} (h0 : 0 ≤ n) (h1 : n ≤ 73048) : (decide (0 ≤ n) && decide (n ≤ 73048)) = true := by simp [h0, h1]
theorem lu55 (p : Pat) (hp : chkP p = 0) (f : AV) (st : St) (hf : Clo p st f) (Q : Sig → FE → St → Prop) : ∀ (n d : Nat) (e : FE), d + n = 73049 → e 1 = .int .i64 (d : Int) → e 2 = .int .i64 1 → e 9 = f →
    (∀ e', up (gT p) n d = none → Q (.exit 0) e' st) → (∀ e' i, up (gT p) n d = some i → e' 6 = .int .i64 (i : Int) → e' 7 = .int .i64 0 → Q .ret e' st) → WLoop cx ir55L0 e st Q
  | 0, d, e, hd, h1, h2, h9, hN, hS => by
    refine WLoop.rnd (c := _) ir55L0.eq_1 ?_
    have hi : (decide (0 ≤ (d : Int)) && decide ((d : Int) ≤ 73048)) = false := by
      rw [Bool.and_eq_false_iff]; right; exact decide_eq_false (by omega)
    simp +contextual -implicitDefEqProofs (maxSteps := 4000000) only [go_sem, ↓reduceIte, Nat.reduceEqDiff, Nat.reduceAdd, Int.reduceLE, Int.reduceLT, Int.reduceEq, Int.reduceToNat, Nat.reduceMod, Nat.reduceDiv, UInt8.reduceToNat, Nat.reduceLT, h1, h2, h9, c37, hi]
    exact hN _ rfl
  | n + 1, d, e, hd, h1, h2, h9, hN, hS => by
    refine WLoop.rnd (c := _) ir55L0.eq_1 ?_
    have hi := inside_t (n := (d : Int)) (by omega) (by omega)
    have k := fun K => hf.call hp (d : Int) (by omega) (by omega) K
    have w := wrap_one (i := d) (by omega)
    simp only [up] at hN hS
    cases hg : testB p (d : Int)
    · have hg' : gT p d = false := hg
      rw [hg'] at hN hS
      simp only [Bool.false_eq_true, if_false] at hN hS
      rw [hg] at k
      simp +contextual -implicitDefEqProofs (maxSteps := 4000000) only [go_sem, ↓reduceIte, Nat.reduceEqDiff, Nat.reduceAdd, Int.reduceLE, Int.reduceLT, Int.reduceEq, Int.reduceToNat, Nat.reduceMod, Nat.reduceDiv, UInt8.reduceToNat, Nat.reduceLT, h1, h2, h9, c37, hi, k, w]
      exact lu55 p hp f st hf Q n (d + 1) _ (by omega) rfl h2 h9 hN hS
    · have hg' : gT p d = true := hg
      rw [hg'] at hN hS
      simp only [if_true] at hN hS
      rw [hg] at k
      simp +contextual -implicitDefEqProofs (maxSteps := 4000000) only [go_sem, ↓reduceIte, Nat.reduceEqDiff, Nat.reduceAdd, Int.reduceLE, Int.reduceLT, Int.reduceEq, Int.reduceToNat, Nat.reduceMod, Nat.reduceDiv, UInt8.reduceToNat, Nat.reduceLT, h1, h2, h9, c37, hi, k]
      exact hS _ d rfl rfl rfl
def srchB (p : Pat) (n : Int) (r : Option Nat) : Int × Int := if chkP p ≠ 0 then (0, chkP p) else if inD n = false then (0, 1) else match r with
  | some i => ((i : Int), 0)
  | none => (0, 9)
theorem c20 (p : Pat) (n : Int) (s : St) (K : AV → St → Prop) : CallW cx 20 [.agg [.int .i64 p.y, .int .i64 p.m, .int .i64 p.d, .int .i64 p.w, .int .i64 p.k, .int .i64 p.f.y, .int .i64 p.f.m, .int .i64 p.f.d, .int .i64 p.t.y, .int .i64 p.t.m, .int .i64 p.t.d], .int .i64 n] s K = K (.tuple [.int .i64 (srchB p n (up (gT p) (73049 - n.toNat) n.toNat)).1, .int .i64 (srchB p n (up (gT p) (73049 - n.toNat) n.toNat)).2]) s := by
  have key : ∀ (s : St) (K : AV → St → Prop), CallW cx 55 [.agg [.int .i64 p.y, .int .i64 p.m, .int .i64 p.d, .int .i64 p.w, .int .i64 p.k, .int .i64 p.f.y, .int .i64 p.f.m, .int .i64 p.f.d, .int .i64 p.t.y, .int .i64 p.t.m, .int .i64 p.t.d], .int .i64 n, .int .i64 1] s K = K (.tuple [.int .i64 (srchB p n (up (gT p) (73049 - n.toNat) n.toNat)).1, .int .i64 (srchB p n (up (gT p) (73049 - n.toNat) n.toNat)).2]) s := by
    intro s K
    refine CallW.eq (CallW.fn' (fn := ir55) rfl rfl (by kernel_rfl) ir55.eq_1 ?_) K
    by_cases hp : chkP p = 0
    · have d1 : decide (chkP p ≠ 0) = false := by simp [hp]
      have kc := fun st K => c12 p st K
      rw [hp] at kc
      cases hi : (decide (0 ≤ n) && decide (n ≤ 73048))
      · have e : ∀ r, srchB p n r = (0, 1) := fun r => by unfold srchB inD; rw [if_neg (by simp [hp]), if_pos hi]
        rw [e]
        simp +contextual -implicitDefEqProofs (maxSteps := 4000000) only [go_sem, ↓reduceIte, Nat.reduceEqDiff, Nat.reduceAdd, Int.reduceLE, Int.reduceLT, Int.reduceEq, Int.reduceToNat, Nat.reduceMod, Nat.reduceDiv, UInt8.reduceToNat, Nat.reduceLT, kc, ne_00, c37, hi]
      · have hi2 := hi
        simp only [Bool.and_eq_true, decide_eq_true_eq] at hi2
        have e : ∀ r, srchB p n r = match r with | some i => ((i : Int), 0) | none => (0, 9) := fun r => by unfold srchB inD; rw [if_neg (by simp [hp]), if_neg (by rw [hi]; decide)]
        obtain ⟨f, h', N', k1, k2, k3, k4⟩ := test_ok p hp ((s.next, .cells (some 25) [.int .i64 p.y, .int .i64 p.m, .int .i64 p.d, .int .i64 p.w, .int .i64 p.k, .int .i64 p.f.y, .int .i64 p.f.m, .int .i64 p.f.d, .int .i64 p.t.y, .int .i64 p.t.m, .int .i64 p.t.d]) :: s.heap) (s.next + 1) s.next (by omega)
        simp +contextual -implicitDefEqProofs (maxSteps := 4000000) only [go_sem, ↓reduceIte, Nat.reduceEqDiff, Nat.reduceAdd, Int.reduceLE, Int.reduceLT, Int.reduceEq, Int.reduceToNat, Nat.reduceMod, Nat.reduceDiv, UInt8.reduceToNat, Nat.reduceLT, kc, ne_00, c37, hi, k1]
        refine lu55 p hp f _ k2 _ (73049 - n.toNat) n.toNat _ (by omega) (by show AV.int .i64 n = _; congr 1; omega) rfl rfl ?_ ?_
        · intro e' hn
          rw [hn, e]
          simp +contextual -implicitDefEqProofs (maxSteps := 4000000) only [go_sem, ↓reduceIte, Nat.reduceEqDiff, Nat.reduceAdd, Int.reduceLE, Int.reduceLT, Int.reduceEq, Int.reduceToNat, Nat.reduceMod, Nat.reduceDiv, UInt8.reduceToNat, Nat.reduceLT]
        · intro e' i hs h6 h7
          rw [hs, e]
          simp +contextual -implicitDefEqProofs (maxSteps := 4000000) only [go_sem, ↓reduceIte, Nat.reduceEqDiff, Nat.reduceAdd, Int.reduceLE, Int.reduceLT, Int.reduceEq, Int.reduceToNat, Nat.reduceMod, Nat.reduceDiv, UInt8.reduceToNat, Nat.reduceLT, h6, h7]
    · have d1 : decide (chkP p ≠ 0) = true := by simp [hp]
      have e : ∀ r, srchB p n r = (0, chkP p) := fun r => by unfold srchB; rw [if_pos hp]
      rw [e]
      simp +contextual -implicitDefEqProofs (maxSteps := 4000000) only [go_sem, ↓reduceIte, Nat.reduceEqDiff, Nat.reduceAdd, Int.reduceLE, Int.reduceLT, Int.reduceEq, Int.reduceToNat, Nat.reduceMod, Nat.reduceDiv, UInt8.reduceToNat, Nat.reduceLT, c12, d1]
  refine CallW.eq (CallW.fn' (fn := ir20) rfl rfl (by kernel_rfl) ir20.eq_1 ?_) K
  simp +contextual -implicitDefEqProofs (maxSteps := 4000000) only [go_sem, ↓reduceIte, Nat.reduceEqDiff, Nat.reduceAdd, Int.reduceLE, Int.reduceLT, Int.reduceEq, Int.reduceToNat, Nat.reduceMod, Nat.reduceDiv, UInt8.reduceToNat, Nat.reduceLT, key]
end T06


namespace T06
variable [Mm]
open Go Fw Go.Proofs
set_option maxRecDepth 100000
set_option maxHeartbeats 8000000
theorem l27 (p : Pat) (hp : chkP p = 0) (f : AV) (st : St) (hf : Clo p st f) (b : Int) (hb : b ≤ 73048) (Q : Sig → FE → St → Prop) : ∀ (n d c : Nat) (e : FE), (d : Int) + n = b + 1 → c ≤ d → e 2 = .int .i64 b → e 9 = .int .i64 (c : Int) → e 10 = f → e 11 = .int .i64 (d : Int) →
    (∀ e', e' 9 = .int .i64 ((c + cnt (gT p) n d : Nat) : Int) → Q (.exit 0) e' st) → WLoop cx ir27L0 e st Q
  | 0, d, c, e, hd, hc, h2, h9, h10, h11, hQ => by
    refine WLoop.rnd (c := _) ir27L0.eq_1 ?_
    have d1 : decide ((d : Int) ≤ b) = false := decide_eq_false (by omega)
    simp +contextual -implicitDefEqProofs (maxSteps := 4000000) only [go_sem, ↓reduceIte, Nat.reduceEqDiff, Nat.reduceAdd, Int.reduceLE, Int.reduceLT, Int.reduceEq, Int.reduceToNat, Nat.reduceMod, Nat.reduceDiv, UInt8.reduceToNat, Nat.reduceLT, h2, h9, h10, h11, d1]
    exact hQ _ h9
  | n + 1, d, c, e, hd, hc, h2, h9, h10, h11, hQ => by
    refine WLoop.rnd (c := _) ir27L0.eq_1 ?_
    have d1 : decide ((d : Int) ≤ b) = true := decide_eq_true (by omega)
    have k := fun K => hf.call hp (d : Int) (by omega) (by omega) K
    have w := wrap_one (i := d) (by omega)
    have w2 := wrap_one (i := c) (by omega)
    simp only [cnt] at hQ
    cases hg : testB p (d : Int)
    · have hg' : gT p d = false := hg
      rw [hg'] at hQ
      simp only [Bool.false_eq_true, if_false, Nat.zero_add] at hQ
      rw [hg] at k
      simp +contextual -implicitDefEqProofs (maxSteps := 4000000) only [go_sem, ↓reduceIte, Nat.reduceEqDiff, Nat.reduceAdd, Int.reduceLE, Int.reduceLT, Int.reduceEq, Int.reduceToNat, Nat.reduceMod, Nat.reduceDiv, UInt8.reduceToNat, Nat.reduceLT, h2, h9, h10, h11, d1, k, w]
      exact l27 p hp f st hf b hb Q n (d + 1) c _ (by omega) (by omega) h2 h9 h10 rfl hQ
    · have hg' : gT p d = true := hg
      rw [hg'] at hQ
      simp only [if_true] at hQ
      rw [hg] at k
      simp +contextual -implicitDefEqProofs (maxSteps := 4000000) only [go_sem, ↓reduceIte, Nat.reduceEqDiff, Nat.reduceAdd, Int.reduceLE, Int.reduceLT, Int.reduceEq, Int.reduceToNat, Nat.reduceMod, Nat.reduceDiv, UInt8.reduceToNat, Nat.reduceLT, h2, h9, h10, h11, d1, k, w, w2]
      refine l27 p hp f st hf b hb Q n (d + 1) (c + 1) _ (by omega) (by omega) h2 rfl h10 rfl ?_
      rw [show c + 1 + cnt (gT p) n (d + 1) = c + (1 + cnt (gT p) n (d + 1)) by omega]
      exact hQ
def cntB (p : Pat) (a b : Int) : Int × Int := if chkP p ≠ 0 then (0, chkP p) else if inD a = false ∨ inD b = false then (0, 1) else ((cnt (gT p) (b + 1 - a).toNat a.toNat : Nat), 0)
theorem c27 (p : Pat) (a b : Int) (s : St) (K : AV → St → Prop) : CallW cx 27 [.agg [.int .i64 p.y, .int .i64 p.m, .int .i64 p.d, .int .i64 p.w, .int .i64 p.k, .int .i64 p.f.y, .int .i64 p.f.m, .int .i64 p.f.d, .int .i64 p.t.y, .int .i64 p.t.m, .int .i64 p.t.d], .int .i64 a, .int .i64 b] s K = K (.tuple [.int .i64 (cntB p a b).1, .int .i64 (cntB p a b).2]) s := by
  refine CallW.eq (CallW.fn' (fn := ir27) rfl rfl (by kernel_rfl) ir27.eq_1 ?_) K
  unfold cntB
  by_cases hp : chkP p = 0
  · have d1 : decide (chkP p ≠ 0) = false := by simp [hp]
    have kc := fun st K => c12 p st K
    rw [hp] at kc
    rw [if_neg (by simp [hp])]
    cases hi : (decide (0 ≤ a) && decide (a ≤ 73048))
    · rw [if_pos (.inl hi)]
      simp +contextual -implicitDefEqProofs (maxSteps := 4000000) only [go_sem, ↓reduceIte, Nat.reduceEqDiff, Nat.reduceAdd, Int.reduceLE, Int.reduceLT, Int.reduceEq, Int.reduceToNat, Nat.reduceMod, Nat.reduceDiv, UInt8.reduceToNat, Nat.reduceLT, kc, ne_00, c37, hi]
    cases hj : (decide (0 ≤ b) && decide (b ≤ 73048))
    · rw [if_pos (.inr hj)]
      simp +contextual -implicitDefEqProofs (maxSteps := 4000000) only [go_sem, ↓reduceIte, Nat.reduceEqDiff, Nat.reduceAdd, Int.reduceLE, Int.reduceLT, Int.reduceEq, Int.reduceToNat, Nat.reduceMod, Nat.reduceDiv, UInt8.reduceToNat, Nat.reduceLT, kc, ne_00, c37, hi, hj]
    rw [if_neg (by unfold inD; rw [hi, hj]; decide)]
    have hi2 := hi
    have hj2 := hj
    simp only [Bool.and_eq_true, decide_eq_true_eq] at hi2 hj2
    obtain ⟨f, h', N', k1, k2, k3, k4⟩ := test_ok p hp ((s.next, .cells (some 25) [.int .i64 p.y, .int .i64 p.m, .int .i64 p.d, .int .i64 p.w, .int .i64 p.k, .int .i64 p.f.y, .int .i64 p.f.m, .int .i64 p.f.d, .int .i64 p.t.y, .int .i64 p.t.m, .int .i64 p.t.d]) :: s.heap) (s.next + 1) s.next (by omega)
    by_cases hab : a ≤ b + 1
    · simp +contextual -implicitDefEqProofs (maxSteps := 4000000) only [go_sem, ↓reduceIte, Nat.reduceEqDiff, Nat.reduceAdd, Int.reduceLE, Int.reduceLT, Int.reduceEq, Int.reduceToNat, Nat.reduceMod, Nat.reduceDiv, UInt8.reduceToNat, Nat.reduceLT, kc, ne_00, c37, hi, hj, k1]
      refine l27 p hp f _ k2 b (by omega) _ (b + 1 - a).toNat a.toNat 0 _ (by omega) (by omega) rfl rfl rfl (by show AV.int .i64 a = _; congr 1; omega) ?_
      intro e' h9
      rw [Nat.zero_add] at h9
      simp +contextual -implicitDefEqProofs (maxSteps := 4000000) only [go_sem, ↓reduceIte, Nat.reduceEqDiff, Nat.reduceAdd, Int.reduceLE, Int.reduceLT, Int.reduceEq, Int.reduceToNat, Nat.reduceMod, Nat.reduceDiv, UInt8.reduceToNat, Nat.reduceLT, h9]
    · have e0 : (b + 1 - a).toNat = 0 := by omega
      rw [e0]
      simp +contextual -implicitDefEqProofs (maxSteps := 4000000) only [go_sem, ↓reduceIte, Nat.reduceEqDiff, Nat.reduceAdd, Int.reduceLE, Int.reduceLT, Int.reduceEq, Int.reduceToNat, Nat.reduceMod, Nat.reduceDiv, UInt8.reduceToNat, Nat.reduceLT, kc, ne_00, c37, hi, hj, k1]
      refine WLoop.rnd (c := _) ir27L0.eq_1 ?_
      have d2 : decide (a ≤ b) = false := decide_eq_false (by omega)
      simp +contextual -implicitDefEqProofs (maxSteps := 4000000) only [go_sem, ↓reduceIte, Nat.reduceEqDiff, Nat.reduceAdd, Int.reduceLE, Int.reduceLT, Int.reduceEq, Int.reduceToNat, Nat.reduceMod, Nat.reduceDiv, UInt8.reduceToNat, Nat.reduceLT, d2]
      rfl
  · have d1 : decide (chkP p ≠ 0) = true := by simp [hp]
    rw [if_pos hp]
    simp +contextual -implicitDefEqProofs (maxSteps := 4000000) only [go_sem, ↓reduceIte, Nat.reduceEqDiff, Nat.reduceAdd, Int.reduceLE, Int.reduceLT, Int.reduceEq, Int.reduceToNat, Nat.reduceMod, Nat.reduceDiv, UInt8.reduceToNat, Nat.reduceLT, c12, d1]
end T06


namespace T06
variable [Mm]
open Go Fw Go.Proofs
set_option maxRecDepth 100000
set_option maxHeartbeats 8000000
theorem c66 (a o e n : Int) (s : St) (K : AV → St → Prop) : CallW cx 66 [.int .i64 a, .int .i64 o, .int .i64 e, .int .i64 n] s K = K (.bool (parR a o e n)) s := by
  refine CallW.eq (CallW.fn' (fn := ir66) rfl rfl (by kernel_rfl) ir66.eq_1 ?_) K
  unfold parR
  cases h1 : decide (a = o) <;> cases h2 : decide (n.tmod 2 = 1) <;> cases h3 : decide (a = e) <;> cases h4 : decide (n.tmod 2 = 0)
  all_goals simp +contextual -implicitDefEqProofs (maxSteps := 4000000) only [go_sem, ↓reduceIte, Nat.reduceEqDiff, Nat.reduceAdd, Int.reduceLE, Int.reduceLT, Int.reduceEq, Int.reduceToNat, Nat.reduceMod, Nat.reduceDiv, UInt8.reduceToNat, Nat.reduceLT, h1, h2, h3, h4]
section
variable (p : Pat) (y m d q n : Int) (C D : Nat) (ty td : Option TypeId) (st : St)
theorem p39C1 (hd0 : 0 ≤ d) (hd1 : d ≤ 100) (hq0 : 0 ≤ q) (hq1 : q ≤ 31) (hp : Fw.look C st.heap = some (.cells ty [.int .i64 p.y, .int .i64 p.m, .int .i64 p.d, .int .i64 p.w, .int .i64 p.k, .int .i64 p.f.y, .int .i64 p.f.m, .int .i64 p.f.d, .int .i64 p.t.y, .int .i64 p.t.m, .int .i64 p.t.d])) (hd : Fw.look D st.heap = some (.cells td [.int .i64 y, .int .i64 m, .int .i64 d])) (e : FE) (Q : Sig → FE → St → Prop) (h3 : e 3 = .ptr C 0) (h5 : e 5 = .ptr D 0) (h7 : e 7 = .int .i64 q)
    (hQ : ∀ e', e' 6 = .bool (decide (p.k = 0) || decide (p.k = (d + 6).tdiv 7) || (decide (p.k = 6) && decide (d > q - 7))) → Q .ret e' st) : W cx ir39C1 e st Q := by
  refine W_open ir39C1.eq_1 ?_
  have w1 : IntKind.i64.wrap (d + 6) = d + 6 := wrap_i64 (by omega) (by omega)
  have e1 : (d + 6).tdiv 7 = (d + 6) / 7 := Int.tdiv_eq_ediv_of_nonneg (by omega)
  have w2 : IntKind.i64.wrap ((d + 6) / 7) = (d + 6) / 7 := wrap_i64 (by omega) (by omega)
  have w3 : IntKind.i64.wrap (q - 7) = q - 7 := wrap_i64 (by omega) (by omega)
  rw [e1] at hQ
  cases a1 : decide (p.k = 0)
  · cases a2 : decide (p.k = (d + 6) / 7)
    · cases a3 : decide (p.k = 6)
      · simp +contextual -implicitDefEqProofs (maxSteps := 4000000) only [go_sem, ↓reduceIte, Nat.reduceEqDiff, Nat.reduceAdd, Int.reduceLE, Int.reduceLT, Int.reduceEq, Int.reduceToNat, Nat.reduceMod, Nat.reduceDiv, UInt8.reduceToNat, Nat.reduceLT, h3, h5, h7, hp, hd, w1, e1, w2, a1, a2, a3]; exact hQ _ (by rw [a1, a2, a3]; rfl)
      · cases a4 : decide (q - 7 < d) <;> · simp +contextual -implicitDefEqProofs (maxSteps := 4000000) only [go_sem, ↓reduceIte, Nat.reduceEqDiff, Nat.reduceAdd, Int.reduceLE, Int.reduceLT, Int.reduceEq, Int.reduceToNat, Nat.reduceMod, Nat.reduceDiv, UInt8.reduceToNat, Nat.reduceLT, h3, h5, h7, hp, hd, w1, e1, w2, w3, a1, a2, a3, a4]; exact hQ _ (by rw [a1, a2, a3, show decide (d > q - 7) = _ from a4]; rfl)
    · simp +contextual -implicitDefEqProofs (maxSteps := 4000000) only [go_sem, ↓reduceIte, Nat.reduceEqDiff, Nat.reduceAdd, Int.reduceLE, Int.reduceLT, Int.reduceEq, Int.reduceToNat, Nat.reduceMod, Nat.reduceDiv, UInt8.reduceToNat, Nat.reduceLT, h3, h5, h7, hp, hd, w1, e1, w2, a1, a2]; exact hQ _ (by rw [a1, a2]; rfl)
  · simp +contextual -implicitDefEqProofs (maxSteps := 4000000) only [go_sem, ↓reduceIte, Nat.reduceEqDiff, Nat.reduceAdd, Int.reduceLE, Int.reduceLT, Int.reduceEq, Int.reduceToNat, Nat.reduceMod, Nat.reduceDiv, UInt8.reduceToNat, Nat.reduceLT, h3, h5, h7, hp, hd, a1]; exact hQ _ (by rw [a1]; rfl)
def dB' : Bool := decide (p.d ≠ 0) && decide (p.d ≠ d) && !parR p.d 33 34 d && !(decide (p.d = 32) && decide (d = q))
def mB' : Bool := decide (p.m ≠ 0) && decide (p.m ≠ m) && !parR p.m 13 14 m
def kB' : Bool := decide (p.k = 0) || decide (p.k = (d + 6).tdiv 7) || (decide (p.k = 6) && decide (d > q - 7))
theorem p39C2 (hd0 : 0 ≤ d) (hd1 : d ≤ 100) (hq0 : 0 ≤ q) (hq1 : q ≤ 31) (hp : Fw.look C st.heap = some (.cells ty [.int .i64 p.y, .int .i64 p.m, .int .i64 p.d, .int .i64 p.w, .int .i64 p.k, .int .i64 p.f.y, .int .i64 p.f.m, .int .i64 p.f.d, .int .i64 p.t.y, .int .i64 p.t.m, .int .i64 p.t.d])) (hd : Fw.look D st.heap = some (.cells td [.int .i64 y, .int .i64 m, .int .i64 d])) (e : FE) (Q : Sig → FE → St → Prop) (h3 : e 3 = .ptr C 0) (h5 : e 5 = .ptr D 0) (h7 : e 7 = .int .i64 q)
    (hQ : ∀ e', e' 6 = .bool (if dB' p d q then false else kB' p d q) → Q .ret e' st) : W cx ir39C2 e st Q := by
  refine W_open ir39C2.eq_1 ?_
  have go : ∀ e' : FE, dB' p d q = false → e' 3 = .ptr C 0 → e' 5 = .ptr D 0 → e' 7 = .int .i64 q → W cx ir39C1 e' st Q := fun e' hb g3 g5 g7 =>
    p39C1 p y m d q C D ty td st hd0 hd1 hq0 hq1 hp hd e' Q g3 g5 g7 fun e2 g6 => hQ e2 (by rw [hb]; exact g6)
  cases a1 : decide (p.d ≠ 0)
  · simp +contextual -implicitDefEqProofs (maxSteps := 4000000) only [go_sem, ↓reduceIte, Nat.reduceEqDiff, Nat.reduceAdd, Int.reduceLE, Int.reduceLT, Int.reduceEq, Int.reduceToNat, Nat.reduceMod, Nat.reduceDiv, UInt8.reduceToNat, Nat.reduceLT, h3, h5, h7, hp, hd, a1]
    exact go _ (by unfold dB'; rw [a1]; rfl) h3 h5 h7
  · cases a2 : decide (p.d ≠ d)
    · simp +contextual -implicitDefEqProofs (maxSteps := 4000000) only [go_sem, ↓reduceIte, Nat.reduceEqDiff, Nat.reduceAdd, Int.reduceLE, Int.reduceLT, Int.reduceEq, Int.reduceToNat, Nat.reduceMod, Nat.reduceDiv, UInt8.reduceToNat, Nat.reduceLT, h3, h5, h7, hp, hd, a1, a2]
      exact go _ (by unfold dB'; rw [a1, a2]; rfl) h3 h5 h7
    · cases a3 : parR p.d 33 34 d
      · cases a4 : decide (p.d = 32)
        · simp +contextual -implicitDefEqProofs (maxSteps := 4000000) only [go_sem, ↓reduceIte, Nat.reduceEqDiff, Nat.reduceAdd, Int.reduceLE, Int.reduceLT, Int.reduceEq, Int.reduceToNat, Nat.reduceMod, Nat.reduceDiv, UInt8.reduceToNat, Nat.reduceLT, h3, h5, h7, hp, hd, a1, a2, c66, a3, a4, Bool.not_false, Bool.not_true]
          exact hQ _ (by rw [show dB' p d q = true by unfold dB'; rw [a1, a2, a3, a4]; rfl]; rfl)
        · cases a5 : decide (d = q)
          · simp +contextual -implicitDefEqProofs (maxSteps := 4000000) only [go_sem, ↓reduceIte, Nat.reduceEqDiff, Nat.reduceAdd, Int.reduceLE, Int.reduceLT, Int.reduceEq, Int.reduceToNat, Nat.reduceMod, Nat.reduceDiv, UInt8.reduceToNat, Nat.reduceLT, h3, h5, h7, hp, hd, a1, a2, c66, a3, a4, a5, Bool.not_false, Bool.not_true]
            exact hQ _ (by rw [show dB' p d q = true by unfold dB'; rw [a1, a2, a3, a4, a5]; rfl]; rfl)
          · simp +contextual -implicitDefEqProofs (maxSteps := 4000000) only [go_sem, ↓reduceIte, Nat.reduceEqDiff, Nat.reduceAdd, Int.reduceLE, Int.reduceLT, Int.reduceEq, Int.reduceToNat, Nat.reduceMod, Nat.reduceDiv, UInt8.reduceToNat, Nat.reduceLT, h3, h5, h7, hp, hd, a1, a2, c66, a3, a4, a5, Bool.not_false, Bool.not_true]
            exact go _ (by unfold dB'; rw [a1, a2, a3, a4, a5]; rfl) h3 h5 h7
      · simp +contextual -implicitDefEqProofs (maxSteps := 4000000) only [go_sem, ↓reduceIte, Nat.reduceEqDiff, Nat.reduceAdd, Int.reduceLE, Int.reduceLT, Int.reduceEq, Int.reduceToNat, Nat.reduceMod, Nat.reduceDiv, UInt8.reduceToNat, Nat.reduceLT, h3, h5, h7, hp, hd, a1, a2, c66, a3, Bool.not_false, Bool.not_true]
        exact go _ (by unfold dB'; rw [a1, a2, a3]; rfl) h3 h5 h7
theorem p39C3 (hd0 : 0 ≤ d) (hd1 : d ≤ 100) (hq0 : 0 ≤ q) (hq1 : q ≤ 31) (hp : Fw.look C st.heap = some (.cells ty [.int .i64 p.y, .int .i64 p.m, .int .i64 p.d, .int .i64 p.w, .int .i64 p.k, .int .i64 p.f.y, .int .i64 p.f.m, .int .i64 p.f.d, .int .i64 p.t.y, .int .i64 p.t.m, .int .i64 p.t.d])) (hd : Fw.look D st.heap = some (.cells td [.int .i64 y, .int .i64 m, .int .i64 d])) (e : FE) (Q : Sig → FE → St → Prop) (h3 : e 3 = .ptr C 0) (h5 : e 5 = .ptr D 0) (h7 : e 7 = .int .i64 q)
    (hQ : ∀ e', e' 6 = .bool (if mB' p m then false else if dB' p d q then false else kB' p d q) → Q .ret e' st) : W cx ir39C3 e st Q := by
  refine W_open ir39C3.eq_1 ?_
  have go : ∀ e' : FE, mB' p m = false → e' 3 = .ptr C 0 → e' 5 = .ptr D 0 → e' 7 = .int .i64 q → W cx ir39C2 e' st Q := fun e' hb g3 g5 g7 =>
    p39C2 p y m d q C D ty td st hd0 hd1 hq0 hq1 hp hd e' Q g3 g5 g7 fun e2 g6 => hQ e2 (by rw [hb]; exact g6)
  cases a1 : decide (p.m ≠ 0)
  · simp +contextual -implicitDefEqProofs (maxSteps := 4000000) only [go_sem, ↓reduceIte, Nat.reduceEqDiff, Nat.reduceAdd, Int.reduceLE, Int.reduceLT, Int.reduceEq, Int.reduceToNat, Nat.reduceMod, Nat.reduceDiv, UInt8.reduceToNat, Nat.reduceLT, h3, h5, h7, hp, hd, a1]
    exact go _ (by unfold mB'; rw [a1]; rfl) h3 h5 h7
  · cases a2 : decide (p.m ≠ m)
    · simp +contextual -implicitDefEqProofs (maxSteps := 4000000) only [go_sem, ↓reduceIte, Nat.reduceEqDiff, Nat.reduceAdd, Int.reduceLE, Int.reduceLT, Int.reduceEq, Int.reduceToNat, Nat.reduceMod, Nat.reduceDiv, UInt8.reduceToNat, Nat.reduceLT, h3, h5, h7, hp, hd, a1, a2]
      exact go _ (by unfold mB'; rw [a1, a2]; rfl) h3 h5 h7
    · cases a3 : parR p.m 13 14 m
      · simp +contextual -implicitDefEqProofs (maxSteps := 4000000) only [go_sem, ↓reduceIte, Nat.reduceEqDiff, Nat.reduceAdd, Int.reduceLE, Int.reduceLT, Int.reduceEq, Int.reduceToNat, Nat.reduceMod, Nat.reduceDiv, UInt8.reduceToNat, Nat.reduceLT, h3, h5, h7, hp, hd, a1, a2, c66, a3, Bool.not_false, Bool.not_true]
        exact hQ _ (by rw [show mB' p m = true by unfold mB'; rw [a1, a2, a3]; rfl]; rfl)
      · simp +contextual -implicitDefEqProofs (maxSteps := 4000000) only [go_sem, ↓reduceIte, Nat.reduceEqDiff, Nat.reduceAdd, Int.reduceLE, Int.reduceLT, Int.reduceEq, Int.reduceToNat, Nat.reduceMod, Nat.reduceDiv, UInt8.reduceToNat, Nat.reduceLT, h3, h5, h7, hp, hd, a1, a2, c66, a3, Bool.not_false, Bool.not_true]
        exact go _ (by unfold mB'; rw [a1, a2, a3]; rfl) h3 h5 h7
theorem p39C4 (h0 : 0 ≤ n) (h1 : n ≤ 73048) (hd0 : 0 ≤ d) (hd1 : d ≤ 100) (hp : Fw.look C st.heap = some (.cells ty [.int .i64 p.y, .int .i64 p.m, .int .i64 p.d, .int .i64 p.w, .int .i64 p.k, .int .i64 p.f.y, .int .i64 p.f.m, .int .i64 p.f.d, .int .i64 p.t.y, .int .i64 p.t.m, .int .i64 p.t.d])) (hd : Fw.look D st.heap = some (.cells td [.int .i64 y, .int .i64 m, .int .i64 d])) (hC : C < st.next) (hD : D < st.next) (e : FE) (Q : Sig → FE → St → Prop) (h01 : e 1 = .int .i64 n) (h3 : e 3 = .ptr C 0) (h5 : e 5 = .ptr D 0)
    (hQ : ∀ e', e' 6 = .bool (fitsD p n ⟨y, m, d⟩) → Q .ret e' st) : W cx ir39C4 e st Q := by
  refine W_open ir39C4.eq_1 ?_
  obtain ⟨q, hq⟩ : ∃ q, dinB y m = q := ⟨_, rfl⟩
  have kd := fun st K => c59 y m st K
  rw [hq] at kd
  have hqb : 0 ≤ q ∧ q ≤ 31 := by
    rw [← hq]; unfold dinB lenM
    repeat' split
    all_goals omega
  have kw := fun st K => c65 n h0 h1 st K
  have hfit : fitsD p n ⟨y, m, d⟩ = if (decide (p.y ≠ 0) && decide (p.y ≠ y)) || (decide (p.w ≠ 0) && decide (p.w ≠ wdB n)) then false else if mB' p m then false else if dB' p d q then false else kB' p d q := by
    unfold fitsD mB' dB' kB'; simp only [hq]
  have go : ∀ e' : FE, ((decide (p.y ≠ 0) && decide (p.y ≠ y)) || (decide (p.w ≠ 0) && decide (p.w ≠ wdB n))) = false → e' 3 = .ptr C 0 → e' 5 = .ptr D 0 → e' 7 = .int .i64 q → W cx ir39C3 e' st Q := fun e' hb g3 g5 g7 =>
    p39C3 p y m d q C D ty td st hd0 hd1 hqb.1 hqb.2 hp hd e' Q g3 g5 g7 fun e2 g6 => hQ e2 (by rw [hfit, hb]; exact g6)
  cases a1 : decide (p.y ≠ 0)
  · cases b1 : decide (p.w ≠ 0)
    · simp +contextual -implicitDefEqProofs (maxSteps := 4000000) only [go_sem, ↓reduceIte, Nat.reduceEqDiff, Nat.reduceAdd, Int.reduceLE, Int.reduceLT, Int.reduceEq, Int.reduceToNat, Nat.reduceMod, Nat.reduceDiv, UInt8.reduceToNat, Nat.reduceLT, h01, h3, h5, hp, hd, kd, a1, b1]
      exact go _ (by rw [a1, b1]; rfl) h3 h5 rfl
    · cases b2 : decide (p.w ≠ wdB n)
      · simp +contextual -implicitDefEqProofs (maxSteps := 4000000) only [go_sem, ↓reduceIte, Nat.reduceEqDiff, Nat.reduceAdd, Int.reduceLE, Int.reduceLT, Int.reduceEq, Int.reduceToNat, Nat.reduceMod, Nat.reduceDiv, UInt8.reduceToNat, Nat.reduceLT, h01, h3, h5, hp, hd, kd, kw, a1, b1, b2]
        exact go _ (by rw [a1, b1, b2]; rfl) h3 h5 rfl
      · simp +contextual -implicitDefEqProofs (maxSteps := 4000000) only [go_sem, ↓reduceIte, Nat.reduceEqDiff, Nat.reduceAdd, Int.reduceLE, Int.reduceLT, Int.reduceEq, Int.reduceToNat, Nat.reduceMod, Nat.reduceDiv, UInt8.reduceToNat, Nat.reduceLT, h01, h3, h5, hp, hd, kd, kw, a1, b1, b2]
        exact hQ _ (by rw [hfit, a1, b1, b2]; rfl)
  · cases a2 : decide (p.y ≠ y)
    · cases b1 : decide (p.w ≠ 0)
      · simp +contextual -implicitDefEqProofs (maxSteps := 4000000) only [go_sem, ↓reduceIte, Nat.reduceEqDiff, Nat.reduceAdd, Int.reduceLE, Int.reduceLT, Int.reduceEq, Int.reduceToNat, Nat.reduceMod, Nat.reduceDiv, UInt8.reduceToNat, Nat.reduceLT, h01, h3, h5, hp, hd, kd, a1, a2, b1]
        exact go _ (by rw [a1, a2, b1]; rfl) h3 h5 rfl
      · cases b2 : decide (p.w ≠ wdB n)
        · simp +contextual -implicitDefEqProofs (maxSteps := 4000000) only [go_sem, ↓reduceIte, Nat.reduceEqDiff, Nat.reduceAdd, Int.reduceLE, Int.reduceLT, Int.reduceEq, Int.reduceToNat, Nat.reduceMod, Nat.reduceDiv, UInt8.reduceToNat, Nat.reduceLT, h01, h3, h5, hp, hd, kd, kw, a1, a2, b1, b2]
          exact go _ (by rw [a1, a2, b1, b2]; rfl) h3 h5 rfl
        · simp +contextual -implicitDefEqProofs (maxSteps := 4000000) only [go_sem, ↓reduceIte, Nat.reduceEqDiff, Nat.reduceAdd, Int.reduceLE, Int.reduceLT, Int.reduceEq, Int.reduceToNat, Nat.reduceMod, Nat.reduceDiv, UInt8.reduceToNat, Nat.reduceLT, h01, h3, h5, hp, hd, kd, kw, a1, a2, b1, b2]
          exact hQ _ (by rw [hfit, a1, a2, b1, b2]; rfl)
    · simp +contextual -implicitDefEqProofs (maxSteps := 4000000) only [go_sem, ↓reduceIte, Nat.reduceEqDiff, Nat.reduceAdd, Int.reduceLE, Int.reduceLT, Int.reduceEq, Int.reduceToNat, Nat.reduceMod, Nat.reduceDiv, UInt8.reduceToNat, Nat.reduceLT, h01, h3, h5, hp, hd, kd, a1, a2]
      exact hQ _ (by rw [hfit, a1, a2]; rfl)
end
end T06


namespace T06
variable [Mm]
open Go Fw Go.Proofs
set_option maxRecDepth 100000
set_option maxHeartbeats 8000000
theorem c39 (p : Pat) (hpc : chkP p = 0) (n : Int) (h0 : 0 ≤ n) (h1 : n ≤ 73048) (t : Dt) (hd0 : 0 ≤ t.d) (hd1 : t.d ≤ 100) (s : St) (K : AV → St → Prop) : CallW cx 39 [.agg [.int .i64 p.y, .int .i64 p.m, .int .i64 p.d, .int .i64 p.w, .int .i64 p.k, .int .i64 p.f.y, .int .i64 p.f.m, .int .i64 p.f.d, .int .i64 p.t.y, .int .i64 p.t.m, .int .i64 p.t.d], .int .i64 n, .agg [.int .i64 t.y, .int .i64 t.m, .int .i64 t.d]] s K = K (.bool (fitsR p n t)) s := by
  refine CallW.eq (CallW.fn' (fn := ir39) rfl rfl (by kernel_rfl) ir39.eq_1 ?_) K
  have hR' := fun st K => c33 p st K
  cases hr : isR p
  · rw [hr] at hR'
    simp +contextual -implicitDefEqProofs (maxSteps := 4000000) only [go_sem, ↓reduceIte, Nat.reduceEqDiff, Nat.reduceAdd, Int.reduceLE, Int.reduceLT, Int.reduceEq, Int.reduceToNat, Nat.reduceMod, Nat.reduceDiv, UInt8.reduceToNat, Nat.reduceLT, hR']
    refine p39C4 p t.y t.m t.d n s.next (s.next + 1) (some 25) (some 23) _ h0 h1 hd0 hd1 (by simp [Fw.look]) (by simp [Fw.look]) (by simp) (by simp) _ _ rfl rfl rfl ?_
    intro e' h6
    have : fitsR p n t = fitsD p n ⟨t.y, t.m, t.d⟩ := by unfold fitsR; rw [if_neg (by rw [hr]; decide)]
    simp +contextual -implicitDefEqProofs (maxSteps := 4000000) only [go_sem, ↓reduceIte, Nat.reduceEqDiff, Nat.reduceAdd, Int.reduceLE, Int.reduceLT, Int.reduceEq, Int.reduceToNat, Nat.reduceMod, Nat.reduceDiv, UInt8.reduceToNat, Nat.reduceLT, h6]
    rw [this]
  · rw [hr] at hR'
    obtain ⟨e1, e2⟩ := chk_ends hpc hr
    have hfit : fitsR p n t = ((decide (p.f = noD) || decide (dayB p.f ≤ n)) && (decide (p.t = noD) || decide (n ≤ dayB p.t))) := by unfold fitsR; rw [if_pos hr]
    have kf : ¬ p.f = noD → ∀ st K, CallW cx 36 [.agg [.int .i64 p.f.y, .int .i64 p.f.m, .int .i64 p.f.d]] st K = K (.int .i64 (dayB p.f)) st := by
      intro hf st K
      obtain ⟨v, y⟩ := chkD_ok (e1 hf)
      have v1 := v.y; have v2 := v.m1; have v3 := v.m2; have v4 := v.d1; have v5 := v.d2; have v6 := (din_pos (y := p.f.y) v2 v3).2
      exact c36 p.f.y p.f.m p.f.d v1 (by omega) v2 (by omega) (by omega) st K
    have kt : ¬ p.t = noD → ∀ st K, CallW cx 36 [.agg [.int .i64 p.t.y, .int .i64 p.t.m, .int .i64 p.t.d]] st K = K (.int .i64 (dayB p.t)) st := by
      intro hf st K
      obtain ⟨v, y⟩ := chkD_ok (e2 hf)
      have v1 := v.y; have v2 := v.m1; have v3 := v.m2; have v4 := v.d1; have v5 := v.d2; have v6 := (din_pos (y := p.t.y) v2 v3).2
      exact c36 p.t.y p.t.m p.t.d v1 (by omega) v2 (by omega) (by omega) st K
    rw [hfit]
    simp +contextual -implicitDefEqProofs (maxSteps := 4000000) only [go_sem, ↓reduceIte, Nat.reduceEqDiff, Nat.reduceAdd, Int.reduceLE, Int.reduceLT, Int.reduceEq, Int.reduceToNat, Nat.reduceMod, Nat.reduceDiv, UInt8.reduceToNat, Nat.reduceLT, hR']
    refine W_open ir39C0.eq_1 ?_
    by_cases hf : p.f = noD
    · have hfd := decide_eq_true hf
      by_cases ht : p.t = noD
      · have htd := decide_eq_true ht
        simp +contextual -implicitDefEqProofs (maxSteps := 4000000) only [go_sem, ↓reduceIte, Nat.reduceEqDiff, Nat.reduceAdd, Int.reduceLE, Int.reduceLT, Int.reduceEq, Int.reduceToNat, Nat.reduceMod, Nat.reduceDiv, UInt8.reduceToNat, Nat.reduceLT, eq_noD, eta_D, hfd, htd, Bool.true_or, Bool.and_self]
      · have htd := decide_eq_false ht
        have k2 := kt ht
        cases a2 : decide (n ≤ dayB p.t) <;> · simp +contextual -implicitDefEqProofs (maxSteps := 4000000) only [go_sem, ↓reduceIte, Nat.reduceEqDiff, Nat.reduceAdd, Int.reduceLE, Int.reduceLT, Int.reduceEq, Int.reduceToNat, Nat.reduceMod, Nat.reduceDiv, UInt8.reduceToNat, Nat.reduceLT, eq_noD, eta_D, hfd, htd, k2, a2, Bool.true_or, Bool.false_or, Bool.true_and]
    · have hfd := decide_eq_false hf
      have k1 := kf hf
      cases a1 : decide (dayB p.f ≤ n)
      · simp +contextual -implicitDefEqProofs (maxSteps := 4000000) only [go_sem, ↓reduceIte, Nat.reduceEqDiff, Nat.reduceAdd, Int.reduceLE, Int.reduceLT, Int.reduceEq, Int.reduceToNat, Nat.reduceMod, Nat.reduceDiv, UInt8.reduceToNat, Nat.reduceLT, eq_noD, eta_D, hfd, k1, a1, Bool.false_or, Bool.false_and]
      · by_cases ht : p.t = noD
        · have htd := decide_eq_true ht
          simp +contextual -implicitDefEqProofs (maxSteps := 4000000) only [go_sem, ↓reduceIte, Nat.reduceEqDiff, Nat.reduceAdd, Int.reduceLE, Int.reduceLT, Int.reduceEq, Int.reduceToNat, Nat.reduceMod, Nat.reduceDiv, UInt8.reduceToNat, Nat.reduceLT, eq_noD, eta_D, hfd, htd, k1, a1, Bool.false_or, Bool.true_or, Bool.true_and]
        · have htd := decide_eq_false ht
          have k2 := kt ht
          cases a2 : decide (n ≤ dayB p.t) <;> · simp +contextual -implicitDefEqProofs (maxSteps := 4000000) only [go_sem, ↓reduceIte, Nat.reduceEqDiff, Nat.reduceAdd, Int.reduceLE, Int.reduceLT, Int.reduceEq, Int.reduceToNat, Nat.reduceMod, Nat.reduceDiv, UInt8.reduceToNat, Nat.reduceLT, eq_noD, eta_D, hfd, htd, k1, k2, a1, a2, Bool.true_or, Bool.false_or, Bool.true_and]
theorem fits_day (p : Pat) (hpc : chkP p = 0) (n : Nat) (h1 : n ≤ 73048) (s : St) (K : AV → St → Prop) : CallW cx 39 [.agg [.int .i64 p.y, .int .i64 p.m, .int .i64 p.d, .int .i64 p.w, .int .i64 p.k, .int .i64 p.f.y, .int .i64 p.f.m, .int .i64 p.f.d, .int .i64 p.t.y, .int .i64 p.t.m, .int .i64 p.t.d], .int .i64 (n : Int), .agg [.int .i64 (ofB (n : Int)).y, .int .i64 (ofB (n : Int)).m, .int .i64 (ofB (n : Int)).d]] s K = K (.bool (gT p n)) s := by
  have hv := (ofB_ok (day := (n : Int)) (by omega) (by omega)).1
  have v2 := hv.m1; have v3 := hv.m2; have v4 := hv.d1; have v5 := hv.d2; have v6 := (din_pos (y := (ofB (n : Int)).y) v2 v3).2
  rw [c39 p hpc n (by omega) (by omega) (ofB n) (by omega) (by omega) s K, fits_same hpc (by omega) (by omega)]
  rfl
def dtAft (n : Nat) : Dt := afterB (ofB (n : Int))
theorem after_any (n : Nat) (h1 : n ≤ 73048) (s : St) (K : AV → St → Prop) : CallW cx 56 [.agg [.int .i64 (ofB (n : Int)).y, .int .i64 (ofB (n : Int)).m, .int .i64 (ofB (n : Int)).d]] s K = K (.agg [.int .i64 (dtAft n).y, .int .i64 (dtAft n).m, .int .i64 (dtAft n).d]) s := by
  have hv := ofB_ok (day := (n : Int)) (by omega) (by omega)
  have hy : (ofB (n : Int)).y ≤ 100000 := by
    obtain ⟨y, _, _, h2, _, _, h3⟩ := of_facts (day := (n : Int)) (by omega) (by omega)
    rw [h3]; simp only; omega
  exact c56 (ofB (n : Int)) hv.1 hy s K
theorem dtAft_eq (n : Nat) (h : n + 1 ≤ 73048) : dtAft n = ofB ((n + 1 : Nat) : Int) := after_of (day := (n : Int)) (by omega) (by omega)
def encI (l : List Nat) : List AV := l.map fun (i : Nat) => AV.int .i64 (i : Int)
structure SD (p : Pat) (C D L : Nat) (st : St) (v : AV) (acc : List Nat) (t : Dt) : Prop where
  gr : Gr 3 1 st v (encI acc) acc.length
  tk : ∀ x, tokOf v = some x → L ≤ x ∧ x ≠ C ∧ x ≠ D
  c : Fw.look C st.heap = some (.cells (some 25) [.int .i64 p.y, .int .i64 p.m, .int .i64 p.d, .int .i64 p.w, .int .i64 p.k, .int .i64 p.f.y, .int .i64 p.f.m, .int .i64 p.f.d, .int .i64 p.t.y, .int .i64 p.t.m, .int .i64 p.t.d])
  d : Fw.look D st.heap = some (.cells (some 23) [.int .i64 t.y, .int .i64 t.m, .int .i64 t.d])
  ne : C ≠ D
  lt : C < st.next ∧ D < st.next
  low : L ≤ st.low
  ld : L ≤ D
  nn : v ≠ .nilslice
theorem SD.putD {p : Pat} {C D L : Nat} {st : St} {v : AV} {acc : List Nat} {t : Dt} (h : SD p C D L st v acc t) (u : Dt) :
    SD p C D L { heap := Fw.put D (.cells (some 23) [.int .i64 u.y, .int .i64 u.m, .int .i64 u.d]) st.heap, next := st.next, low := min st.low D } v acc u where
  gr := h.gr.keep ⟨Nat.le_refl _, fun i _ hi => look_put_ne (h.tk i hi).2.2⟩
  tk := h.tk
  c := by simp only; rw [look_put_ne h.ne]; exact h.c
  d := look_put_self h.d
  ne := h.ne
  lt := h.lt
  low := by have := h.low; have := h.ld; simp only; omega
  ld := h.ld
  nn := h.nn
theorem SD.app {p : Pat} {C D L : Nat} {st : St} {v : AV} {acc : List Nat} {t : Dt} (h : SD p C D L st v acc t) (hL : L ≤ st.next) (n : Nat) (hlen : acc.length ≤ 1000000) :
    ∃ v' st', appendA st 3 1 8 v (.slice [.int .i64 (n : Int)] 1 .full) = some (v', st') ∧ SD p C D L st' v' (acc ++ [n]) t ∧ L ≤ st'.next := by
  obtain ⟨v', st', h1, h2, h3, h4, h5, h6, h7⟩ := h.gr.app (bytes := 8) (y := .slice [.int .i64 (n : Int)] 1 .full) (new := [.int .i64 (n : Int)]) (m := 1) rfl rfl rfl rfl (by unfold room; omega)
  refine ⟨v', st', h1, ⟨?_, ?_, ?_, ?_, h.ne, ?_, ?_, h.ld, ?_⟩, Nat.le_trans hL h3.1⟩
  · have e : encI acc ++ ([AV.int .i64 (n : Int)].map AV.strip) = encI (acc ++ [n]) := by simp [encI, AV.strip]
    rw [e] at h2
    rw [List.length_append]; exact h2
  · intro x hx
    rcases h4 x hx with h8 | h8
    · exact h.tk x h8
    · exact ⟨by omega, by have := h.lt.1; omega, by have := h.lt.2; omega⟩
  · rw [h3.2 C h.lt.1 (fun hc => (h.tk C hc).2.1 rfl)]; exact h.c
  · rw [h3.2 D h.lt.2 (fun hc => (h.tk D hc).2.2 rfl)]; exact h.d
  · exact ⟨Nat.lt_of_lt_of_le h.lt.1 h3.1, Nat.lt_of_lt_of_le h.lt.2 h3.1⟩
  · exact h5 L h.low fun x hx => (h.tk x hx).1
  · intro hn
    rcases h2 with ⟨_, _, h9⟩ | ⟨h9, _⟩ | ⟨_, h9, _⟩
    · omega
    · rw [hn] at h9; cases h9
    · rw [hn] at h9; cases h9
theorem l28 (p : Pat) (hpc : chkP p = 0) (b : Int) (hb : b ≤ 73048) (most : Nat) (hm : most ≤ 1000000) (C D L : Nat) (Q : Sig → FE → St → Prop) : ∀ (n d : Nat) (acc : List Nat) (e : FE) (st : St) (v : AV), ((d : Int) + n = b + 1 ∨ n = 0 ∧ b < (d : Int)) → SD p C D L st v acc (if d ≤ 73048 then ofB (d : Int) else dtAft 73048) → L ≤ st.next → e 2 = .int .i64 b → e 3 = .int .i64 (most : Int) → e 4 = .ptr C 0 → e 9 = v → e 10 = .ptr D 0 → e 11 = .int .i64 (d : Int) → acc.length ≤ most →
    (∀ e' st' v' t', SD p C D L st' v' (acc ++ daysL (gT p) n d (most - acc.length)) t' → e' 9 = v' → Q (.exit 0) e' st') → WLoop cx ir28L0 e st Q
  | 0, d, acc, e, st, v, hd, hS, hL, h2, h3, h4, h9, h10, h11, hal, hQ => by
    refine WLoop.rnd (c := _) ir28L0.eq_1 ?_
    have d1 : decide ((d : Int) ≤ b) = false := decide_eq_false (by omega)
    simp +contextual -implicitDefEqProofs (maxSteps := 4000000) only [go_sem, ↓reduceIte, Nat.reduceEqDiff, Nat.reduceAdd, Int.reduceLE, Int.reduceLT, Int.reduceEq, Int.reduceToNat, Nat.reduceMod, Nat.reduceDiv, UInt8.reduceToNat, Nat.reduceLT, h2, h3, h4, h9, h10, h11, d1]
    refine hQ _ _ v (if d ≤ 73048 then ofB (d : Int) else dtAft 73048) ?_ h9
    rw [show daysL (gT p) 0 d (most - acc.length) = [] from rfl, List.append_nil]; exact hS
  | n + 1, d, acc, e, st, v, hd, hS, hL, h2, h3, h4, h9, h10, h11, hal, hQ => by
    refine WLoop.rnd (c := _) ir28L0.eq_1 ?_
    have d1 : decide ((d : Int) ≤ b) = true := decide_eq_true (by omega)
    have hlv := hS.gr.lenv
    have hlc := hS.c
    have hld := hS.d
    rw [if_pos (by omega)] at hS hld
    simp only [daysL] at hQ
    by_cases hl : acc.length < most
    · have d2 : decide ((acc.length : Int) < (most : Int)) = true := decide_eq_true (by omega)
      rw [if_neg (by omega)] at hQ
      have kf := fun st K => fits_day p hpc d (by omega) st K
      have ka := fun st K => after_any d (by omega) st K
      have w := wrap_one (i := d) (by omega)
      have hnext : ∀ (st : St) (v : AV) (acc : List Nat), SD p C D L st v acc (ofB (d : Int)) → SD p C D L { heap := Fw.put D (.cells (some 23) [.int .i64 (dtAft d).y, .int .i64 (dtAft d).m, .int .i64 (dtAft d).d]) st.heap, next := st.next, low := min st.low D } v acc (if d + 1 ≤ 73048 then ofB ((d + 1 : Nat) : Int) else dtAft 73048) := by
        intro st v acc h
        have := h.putD (dtAft d)
        by_cases hlt : d + 1 ≤ 73048
        · rw [if_pos hlt, ← dtAft_eq d hlt]; exact this
        · rw [if_neg hlt]
          have : d = 73048 := by omega
          subst this; assumption
      cases hg : gT p d
      · rw [hg] at kf hQ
        simp only [Bool.false_eq_true, if_false] at hQ
        simp +contextual -implicitDefEqProofs (maxSteps := 4000000) only [go_sem, ↓reduceIte, Nat.reduceEqDiff, Nat.reduceAdd, Int.reduceLE, Int.reduceLT, Int.reduceEq, Int.reduceToNat, Nat.reduceMod, Nat.reduceDiv, UInt8.reduceToNat, Nat.reduceLT, h2, h3, h4, h9, h10, h11, d1, hlv, d2, hlc, hld, kf, ka, w]
        exact l28 p hpc b hb most hm C D L Q n (d + 1) acc _ _ v (by omega) (hnext st v acc hS) hL h2 h3 h4 h9 h10 rfl hal hQ
      · rw [hg] at kf hQ
        simp only [if_true] at hQ
        obtain ⟨v', st', happ, hS2, hL2⟩ := hS.app hL d (by omega)
        have hld2 := hS2.d
        simp +contextual -implicitDefEqProofs (maxSteps := 4000000) only [go_sem, ↓reduceIte, Nat.reduceEqDiff, Nat.reduceAdd, Int.reduceLE, Int.reduceLT, Int.reduceEq, Int.reduceToNat, Nat.reduceMod, Nat.reduceDiv, UInt8.reduceToNat, Nat.reduceLT, h2, h3, h4, h9, h10, h11, d1, hlv, d2, hlc, hld, kf, happ, hld2, ka, w]
        refine l28 p hpc b hb most hm C D L Q n (d + 1) (acc ++ [d]) _ _ v' (by omega) (hnext st' v' _ hS2) hL2 h2 h3 h4 rfl h10 rfl (by rw [List.length_append, List.length_cons, List.length_nil]; omega) ?_
        intro e' st2 v2 t2 hS3 g9
        refine hQ e' st2 v2 t2 ?_ g9
        rw [List.length_append, List.length_cons, List.length_nil, show most - (acc.length + (0 + 1)) = most - acc.length - 1 by omega, List.append_assoc] at hS3
        exact hS3
    · have d2 : decide ((acc.length : Int) < (most : Int)) = false := decide_eq_false (by omega)
      rw [if_pos (by omega)] at hQ
      simp +contextual -implicitDefEqProofs (maxSteps := 4000000) only [go_sem, ↓reduceIte, Nat.reduceEqDiff, Nat.reduceAdd, Int.reduceLE, Int.reduceLT, Int.reduceEq, Int.reduceToNat, Nat.reduceMod, Nat.reduceDiv, UInt8.reduceToNat, Nat.reduceLT, h2, h3, h4, h9, h10, h11, d1, hlv, d2]
      refine hQ _ _ v (ofB (d : Int)) ?_ h9
      rw [List.append_nil]; exact hS
end T06


namespace T06
variable [Mm]
open Go Fw Go.Proofs
set_option maxRecDepth 100000
set_option maxHeartbeats 8000000
theorem encI_al (l : List Nat) : alAll (fun _ => false) (encI l) = true := (alAll_iff _).2 fun a ha => by
  obtain ⟨x, _, rfl⟩ := List.mem_map.1 ha; rfl
theorem days_ok (p : Pat) (hpc : chkP p = 0) (a : Nat) (ha : a ≤ 73048) (b : Int) (hb : b ≤ 73048) (most : Nat) (hm : most ≤ 1000000) (s : St) :
    ∃ o : Own, (o = .no ∨ o = .full) ∧ ∀ K, CallW cx 28 [.agg [.int .i64 p.y, .int .i64 p.m, .int .i64 p.d, .int .i64 p.w, .int .i64 p.k, .int .i64 p.f.y, .int .i64 p.f.m, .int .i64 p.f.d, .int .i64 p.t.y, .int .i64 p.t.m, .int .i64 p.t.d], .int .i64 (a : Int), .int .i64 b, .int .i64 (most : Int)] s K = K (.slice (encI (daysL (gT p) (b + 1 - a).toNat a most)) (daysL (gT p) (b + 1 - a).toNat a most).length o) s := by
  have main : CallW cx 28 [.agg [.int .i64 p.y, .int .i64 p.m, .int .i64 p.d, .int .i64 p.w, .int .i64 p.k, .int .i64 p.f.y, .int .i64 p.f.m, .int .i64 p.f.d, .int .i64 p.t.y, .int .i64 p.t.m, .int .i64 p.t.d], .int .i64 (a : Int), .int .i64 b, .int .i64 (most : Int)] s (fun v s' => s' = s ∧ ∃ o : Own, (o = .no ∨ o = .full) ∧ v = .slice (encI (daysL (gT p) (b + 1 - a).toNat a most)) (daysL (gT p) (b + 1 - a).toNat a most).length o) := by
    refine CallW.fn' (fn := ir28) rfl rfl (by kernel_rfl) ir28.eq_1 ?_
    have ko := fun st K => c40 (a : Int) (by omega) (by omega) st K
    simp +contextual -implicitDefEqProofs (maxSteps := 4000000) only [go_sem, ↓reduceIte, Nat.reduceEqDiff, Nat.reduceAdd, Int.reduceLE, Int.reduceLT, Int.reduceEq, Int.reduceToNat, Nat.reduceMod, Nat.reduceDiv, UInt8.reduceToNat, Nat.reduceLT, ko]
    refine l28 p hpc b hb most hm s.next (s.next + 1) s.next _ (b + 1 - a).toNat a [] _ _ (.slice [] 0 .full) (by omega) ⟨Gr.full rfl, fun x hx => (by cases hx), by simp [Fw.look], ?_, by omega, by simp, Nat.le_refl _, by omega, by intro h; cases h⟩ (by simp) rfl rfl rfl rfl rfl rfl (Nat.zero_le _) ?_
    · rw [if_pos ha]; simp [Fw.look]
    · intro e' st' v' t' hS h9
      rw [List.nil_append, List.length_nil, Nat.sub_zero] at hS
      obtain ⟨o, ho, hdr⟩ := hS.gr.dr_slice
      have hfree := hS.gr.free (L := s.next) (fun x hx => (hS.tk x hx).1) (encI_al _)
      have hlow := hS.low
      have hnt : ∀ vs, v' ≠ .tuple vs := by
        intro vs hv
        rcases hS.gr with ⟨h, _⟩ | ⟨h, _⟩ | ⟨_, h, _⟩ <;> rw [hv] at h <;> cases h
      have hv : v'.dr = .slice (encI (daysL (gT p) (b + 1 - a).toNat a most)) (daysL (gT p) (b + 1 - a).toNat a most).length o := by
        rcases hdr with h | ⟨h, _, _⟩
        · exact h
        · exfalso
          cases v' with
          | nilslice => exact hS.nn rfl
          | slice cs n o => cases o <;> cases h
          | _ => cases h
      simp +contextual -implicitDefEqProofs (maxSteps := 4000000) only [go_sem, ↓reduceIte, Nat.reduceEqDiff, Nat.reduceAdd, Int.reduceLE, Int.reduceLT, Int.reduceEq, Int.reduceToNat, Nat.reduceMod, Nat.reduceDiv, UInt8.reduceToNat, Nat.reduceLT, h9]
      rw [LeaveW_free hfree hlow hnt, hv]
      exact ⟨rfl, o, ho, rfl⟩
  obtain ⟨k, v, s', h1, rfl, o, ho, rfl⟩ := main
  exact ⟨o, ho, fun K => CallW.eq ⟨k, _, _, h1, rfl, rfl⟩ K⟩
end T06
