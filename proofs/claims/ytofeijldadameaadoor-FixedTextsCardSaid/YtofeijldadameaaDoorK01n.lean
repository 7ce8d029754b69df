/- Parts of the proof, one behind the other. -/
import Derived.KernelRfl
set_option linter.unusedSimpArgs false
set_option linter.unusedVariables false
/- The division of a number of three digits by one of two, a digit at a time (plain numbers). -/
namespace T01
theorem dig_mul (q y1 y0 B : Nat) : q * (y1 * B + y0) = q * y1 * B + q * y0 := by rw [Nat.mul_add, Nat.mul_assoc]
/-- q is not too great. -/
theorem dig_le {B q y1 y0 r u u1 : Nat} (e : q * y1 + r = u) (h : q * y0 ≤ B * r + u1) : q * (y1 * B + y0) ≤ u * B + u1 := by
  rw [dig_mul, ← e, Nat.add_mul, Nat.mul_comm r B]; omega
theorem dig_gt {B q y1 y0 r u u1 : Nat} (e : q * y1 + r = u) (h : B * r + u1 < q * y0) : u * B + u1 < q * (y1 * B + y0) := by
  rw [dig_mul, ← e, Nat.add_mul, Nat.mul_comm r B]; omega
theorem quo_lt {B u u1 y : Nat} (hu : u < y) (h1 : u1 < B) : (u * B + u1) / y < B := by
  rw [Nat.div_lt_iff_lt_mul (by omega)]
  have : (u + 1) * B ≤ y * B := Nat.mul_le_mul_right B hu
  rw [Nat.add_mul] at this; rw [Nat.mul_comm B y]; omega
structure Dig (B y1 y0 u u1 q r : Nat) : Prop where
  e : q * y1 + r = u
  lo : (u * B + u1) / (y1 * B + y0) ≤ q
  hi : q ≤ B + 1
  rl : r < B
theorem Dig.stop {B y1 y0 u u1 q r : Nat} (h : Dig B y1 y0 u u1 q r) (hy : 0 < y1 * B + y0) (h2 : q * y0 ≤ B * r + u1) : (u * B + u1) / (y1 * B + y0) = q :=
  Nat.le_antisymm h.lo ((Nat.le_div_iff_mul_le hy).2 (dig_le h.e h2))
theorem Dig.less {B y1 y0 u u1 q r : Nat} (h : Dig B y1 y0 u u1 q r) (hu : u < y1 * B + y0) (h1 : u1 < B) (h2 : B ≤ q ∨ B * r + u1 < q * y0) : 1 ≤ q ∧ (u * B + u1) / (y1 * B + y0) ≤ q - 1 ∧ (q - 1) * y1 + (r + y1) = u := by
  have h3 : (u * B + u1) / (y1 * B + y0) < q := by
    rcases h2 with h2 | h2
    · exact Nat.lt_of_lt_of_le (quo_lt hu h1) h2
    · exact (Nat.div_lt_iff_lt_mul (by omega)).2 (dig_gt h.e h2)
  generalize (u * B + u1) / (y1 * B + y0) = Q at *
  refine ⟨by omega, by omega, ?_⟩
  have := h.e
  obtain ⟨p, rfl⟩ : ∃ p, q = p + 1 := ⟨q - 1, by omega⟩
  rw [Nat.add_mul] at this; simp only [Nat.add_sub_cancel]; omega
theorem Dig.next {B y1 y0 u u1 q r : Nat} (h : Dig B y1 y0 u u1 q r) (hu : u < y1 * B + y0) (h1 : u1 < B) (h2 : B ≤ q ∨ B * r + u1 < q * y0) (hr : r + y1 < B) : Dig B y1 y0 u u1 (q - 1) (r + y1) := by
  obtain ⟨a, b, c⟩ := h.less hu h1 h2
  exact ⟨c, b, by have := h.hi; omega, hr⟩
theorem Dig.brk {B y1 y0 u u1 q r : Nat} (h : Dig B y1 y0 u u1 q r) (hu : u < y1 * B + y0) (h1 : u1 < B) (h2 : B ≤ q ∨ B * r + u1 < q * y0) (hy0 : y0 < B) (hr : B ≤ r + y1) : (u * B + u1) / (y1 * B + y0) = q - 1 := by
  obtain ⟨a, b, c⟩ := h.less hu h1 h2
  refine Nat.le_antisymm b ((Nat.le_div_iff_mul_le (by omega)).2 (dig_le c ?_))
  have h3 : (q - 1) * y0 ≤ B * y0 := Nat.mul_le_mul_right y0 (by have := h.hi; omega)
  have h4 : B * y0 ≤ B * (r + y1) := Nat.mul_le_mul_left B (by omega)
  omega
theorem Dig.start {B y1 y0 u u1 : Nat} (hy : B ≤ 2 * y1) (hy1 : y1 < B) (hy0 : y0 < B) (hB : 2 ≤ B) (h1 : u1 < B) (hu : u < y1 * B + y0) : Dig B y1 y0 u u1 (u / y1) (u - u / y1 * y1) := by
  have hm := Nat.div_add_mod u y1
  have hl := Nat.mod_lt u (show y1 > 0 by omega)
  rw [Nat.mul_comm] at hm
  have e1 : u - u / y1 * y1 = u % y1 := by omega
  refine ⟨by omega, ?_, ?_, by omega⟩
  · -- (u*B+u1)/(y1*B+y0) ≤ u/y1
    refine Nat.le_trans (Nat.div_le_div_left (show y1 * B ≤ y1 * B + y0 by omega) (Nat.mul_pos (by omega) (by omega))) (Nat.le_of_eq ?_)
    rw [Nat.mul_comm y1 B, ← Nat.div_div_eq_div_mul, Nat.add_comm, Nat.add_mul_div_right _ _ (by omega), Nat.div_eq_of_lt h1, Nat.zero_add]
  · -- u/y1 ≤ B+1
    have : u / y1 < B + 2 := by
      rw [Nat.div_lt_iff_lt_mul (by omega)]
      rw [Nat.add_mul, Nat.mul_comm B y1]; omega
    omega
end T01

/- Rounded quotients (plain numbers). -/
namespace T01
def rnd (n c : Nat) : Nat := n / c + (if c ≤ 2 * (n % c) then 1 else 0)
def lim (n c : Nat) : Nat := min 1000000000000 (rnd n c)
def sgn (neg : Bool) (n : Nat) : Int := if neg then -(n : Int) else n
/-- A quotient, rounded (halves away from 0) and limited. -/
def rndI (n : Int) (c : Nat) : Int := sgn (decide (n < 0)) (lim n.natAbs c)
theorem lim_zero {c : Nat} (hc : 0 < c) : lim 0 c = 0 := by
  unfold lim rnd; rw [Nat.zero_div, Nat.zero_mod, if_neg (by omega)]; rfl
theorem lim_le (n c : Nat) : lim n c ≤ 1000000000000 := Nat.min_le_left _ _
theorem sgn_lim {c : Nat} (hc : 0 < c) (neg : Bool) (n : Nat) : sgn neg (lim n c) = rndI (sgn neg n) c := by
  unfold rndI
  have e : (sgn neg n).natAbs = n := by unfold sgn; cases neg <;> simp
  rw [e]
  by_cases hn : n = 0
  · subst hn; rw [lim_zero hc]; unfold sgn; cases neg <;> rfl
  · have : decide (sgn neg n < 0) = neg := by unfold sgn; cases neg <;> simp <;> omega
    rw [this]
theorem rndI_le (n : Int) (c : Nat) : -1000000000000 ≤ rndI n c ∧ rndI n c ≤ 1000000000000 := by
  have := lim_le n.natAbs c
  unfold rndI sgn; split <;> omega
theorem rndI_neg {c : Nat} (hc : 0 < c) (n : Int) : rndI (-n) c = - rndI n c := by
  unfold rndI
  rw [Int.natAbs_neg]
  by_cases hn : n = 0
  · subst hn; rw [Int.natAbs_zero, lim_zero hc]; rfl
  · by_cases h : n < 0
    · have h2 : ¬ (-n < 0) := by omega
      simp only [h, h2, decide_true, decide_false, sgn, if_true, Bool.false_eq_true, if_false, Int.neg_neg]
    · have h2 : -n < 0 := by omega
      simp only [h, h2, decide_true, decide_false, sgn, if_true, Bool.false_eq_true, if_false]
theorem rnd_exact (n c : Nat) (hc : 0 < c) : rnd (n * c) c = n := by
  unfold rnd; rw [Nat.mul_div_cancel _ hc, Nat.mul_mod_left, if_neg (by omega), Nat.add_zero]
theorem rnd_near (n c : Nat) (hc : 0 < c) : 2 * (n : Int) - 2 * ((rnd n c * c : Nat) : Int) ≤ c ∧ -(c : Int) ≤ 2 * (n : Int) - 2 * ((rnd n c * c : Nat) : Int) := by
  unfold rnd
  have h := Nat.div_add_mod n c
  have h2 := Nat.mod_lt n hc
  rw [Nat.add_mul, Nat.mul_comm (n / c) c]
  generalize c * (n / c) = q at *
  split <;> omega
end T01
