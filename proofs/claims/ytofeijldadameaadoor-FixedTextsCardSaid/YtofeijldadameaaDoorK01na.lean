/- Parts of the proof, one behind the other. -/
import Derived.Test.YtofeijldadameaaDoorK01s
import Derived.Test.YtofeijldadameaaDoorFwX
set_option linter.unusedSimpArgs false
set_option linter.unusedVariables false
/- Decimal numerals of the library: numDigits, formatBase10, FormatUint, FormatInt at base 10. -/
namespace T01
open Go Fw Go.Proofs
set_option maxRecDepth 100000
set_option linter.unusedSimpArgs false
set_option linter.unusedVariables false
theorem c75 (n : Nat) (h : n ≤ 64) (s : St) (K : AV → St → Prop) : CallW cx 75 [.int .i64 (n : Int)] s K = K (.int .i64 ((n * 78913 / 262144 : Nat) : Int)) s := by
  refine CallW.eq (CallW.fn' (fn := ir75) rfl rfl (by kernel_rfl) ir75.eq_1 ?_) K
  have e1 : IntKind.i64.wrap ((n : Int) * 78913) = ((n * 78913 : Nat) : Int) := by rw [wrap_i64 (by omega) (by omega)]; omega
  have e2 : evBin .shr (.int .i64 ((n * 78913 : Nat) : Int)) (.int .u64 18) = some (.int .i64 ((n * 78913 / 262144 : Nat) : Int)) := by
    rw [bin_shr, if_neg (by omega)]
    congr 2
    have h : min (18 : Int).toNat IntKind.i64.bits = 18 := rfl
    rw [h, Int.fdiv_eq_ediv_of_nonneg _ (Int.pow_nonneg (by decide))]
    norm_cast
  simp (config := {contextual := true, implicitDefEqProofs := false, maxSteps := 4000000}) only [go_sem, ↓reduceIte, Bool.false_eq_true, Nat.reduceEqDiff, Nat.reduceAdd, Int.reduceLE, Int.reduceLT, Int.reduceEq, Int.reduceToNat, Int.toNat_natCast, Int.cast_ofNat_Int, Int.natCast_one, Nat.reduceMod, Nat.reduceDiv, UInt8.reduceToNat, Nat.reduceLT, e1, e2]
theorem c76 (b : Bool) (s : St) (K : AV → St → Prop) : CallW cx 76 [.bool b] s K = K (.int .i64 (if b then 1 else 0)) s := by
  refine CallW.eq (CallW.fn' (fn := ir76) rfl rfl (by kernel_rfl) ir76.eq_1 ?_) K
  cases b
  · simp (config := {contextual := true, implicitDefEqProofs := false, maxSteps := 4000000}) only [go_sem, ↓reduceIte, Bool.false_eq_true, Nat.reduceEqDiff, Nat.reduceAdd, Int.reduceLE, Int.reduceLT, Int.reduceEq, Int.reduceToNat, Int.toNat_natCast, Int.cast_ofNat_Int, Int.natCast_one, Nat.reduceMod, Nat.reduceDiv, UInt8.reduceToNat, Nat.reduceLT]
  · simp (config := {contextual := true, implicitDefEqProofs := false, maxSteps := 4000000}) only [go_sem, ↓reduceIte, Bool.false_eq_true, Nat.reduceEqDiff, Nat.reduceAdd, Int.reduceLE, Int.reduceLT, Int.reduceEq, Int.reduceToNat, Int.toNat_natCast, Int.cast_ofNat_Int, Int.natCast_one, Nat.reduceMod, Nat.reduceDiv, UInt8.reduceToNat, Nat.reduceLT]
theorem leNN (a b : Nat) : ((a : Int) ≤ (b : Int)) = (a ≤ b) := by apply propext; omega
def pow10s : List Nat := [1, 10, 100, 1000, 10000, 100000, 1000000, 10000000, 100000000, 1000000000, 10000000000, 100000000000, 1000000000000, 10000000000000, 100000000000000, 1000000000000000, 10000000000000000, 100000000000000000, 1000000000000000000, 10000000000000000000]
theorem pow10s_get : ∀ i : Fin 20, pow10s.getD i.val 0 = 10 ^ i.val := by decide +kernel
theorem log_facts : ∀ l : Fin 65, l.val * 78913 / 262144 ≤ 19 ∧ (1 ≤ l.val → 10 ^ (l.val * 78913 / 262144) ≤ 10 * 2 ^ (l.val - 1)) ∧ 2 ^ l.val ≤ 10 ^ (l.val * 78913 / 262144 + 1) := by decide +kernel
/-- How many digits a number has. -/
def nd (x : Nat) : Nat := lenU x * 78913 / 262144 + (if 10 ^ (lenU x * 78913 / 262144) ≤ x then 1 else 0)
theorem lenU_64 {x : Nat} (hx : x < 18446744073709551616) : lenU x ≤ 64 := by
  by_cases h : 0 < x
  · have h1 := lenU_le x h
    have h2 : lenU x - 1 < 64 := (Nat.pow_lt_pow_iff_right (by decide : 1 < 2)).1 (Nat.lt_of_le_of_lt h1 (by simpa using hx))
    omega
  · have : x = 0 := by omega
    subst this; decide
theorem nd_facts {x : Nat} (hx : x < 18446744073709551616) (h0 : 0 < x) : 1 ≤ nd x ∧ nd x ≤ 20 ∧ x < 10 ^ nd x ∧ 10 ^ (nd x - 1) ≤ x := by
  have h1 := lenU_le x h0
  have h2 := lenU_lt x
  have h3 := lenU_64 hx
  have h4 : 1 ≤ lenU x := by unfold lenU; split <;> omega
  obtain ⟨f1, f2, f3⟩ := log_facts ⟨lenU x, by omega⟩
  simp only at f1 f2 f3
  have f2 := f2 h4
  unfold nd
  generalize lenU x * 78913 / 262144 = t at *
  generalize lenU x = l at *
  by_cases h : 10 ^ t ≤ x
  · rw [if_pos h]
    exact ⟨by omega, by omega, by omega, by simpa using h⟩
  · rw [if_neg h]
    have ht : t ≠ 0 := by intro e; subst e; simp at h; omega
    obtain ⟨u, rfl⟩ : ∃ u, t = u + 1 := ⟨t - 1, by omega⟩
    rw [Nat.pow_succ] at f2
    exact ⟨by omega, by omega, by simpa using h, by simp only [Nat.add_sub_cancel, Nat.add_zero]; omega⟩
theorem c63 (x : Nat) (hx : x < 18446744073709551616) (s : St) (K : AV → St → Prop) : CallW cx 63 [.int .u64 (x : Int)] s K = K (.int .i64 (nd x : Int)) s := by
  refine CallW.eq (CallW.fn' (fn := ir63) rfl rfl (by kernel_rfl) ir63.eq_1 ?_) K
  have h3 := lenU_64 hx
  have k1 := fun st K => c69 x hx st K
  have k2 := fun st K => c75 (lenU x) h3 st K
  obtain ⟨f1, f2, f3⟩ := log_facts ⟨lenU x, by omega⟩
  simp only at f1
  unfold nd
  generalize lenU x * 78913 / 262144 = t at *
  have hgl : cx.gl 3 = some (pows.map (AV.int .u64)) := rfl
  have hsub : sub (pows.map (AV.int .u64)) t 1 = some [.int .u64 ((10 ^ t : Nat) : Int)] := by
    have : ∀ i : Fin 20, sub (pows.map (AV.int .u64)) i.val 1 = some [.int .u64 ((pow10s.getD i.val 0 : Nat) : Int)] := by
      intro i
      have hl : ∀ i : Fin 20, (pows.map (AV.int .u64)).getD i.val AV.undef = .int .u64 ((pow10s.getD i.val 0 : Nat) : Int) := by
        intro i; match i with
        | ⟨0, _⟩ => rfl | ⟨1, _⟩ => rfl | ⟨2, _⟩ => rfl | ⟨3, _⟩ => rfl | ⟨4, _⟩ => rfl | ⟨5, _⟩ => rfl | ⟨6, _⟩ => rfl | ⟨7, _⟩ => rfl | ⟨8, _⟩ => rfl | ⟨9, _⟩ => rfl
        | ⟨10, _⟩ => rfl | ⟨11, _⟩ => rfl | ⟨12, _⟩ => rfl | ⟨13, _⟩ => rfl | ⟨14, _⟩ => rfl | ⟨15, _⟩ => rfl | ⟨16, _⟩ => rfl | ⟨17, _⟩ => rfl | ⟨18, _⟩ => rfl | ⟨19, _⟩ => rfl
        | ⟨n + 20, h⟩ => exact absurd h (by omega)
      rw [sub_one (show i.val < (pows.map (AV.int .u64)).length from i.isLt), hl]
    have := this ⟨t, by omega⟩
    rw [this, pow10s_get ⟨t, by omega⟩]
  have b1 : (0 : Int) ≤ (t : Int) := by omega
  have b2 : (t : Int) < 20 := by omega
  by_cases h : 10 ^ t ≤ x
  · have d1 : decide (10 ^ t ≤ x) = true := by simpa using h
    have w1 : IntKind.i64.wrap ((t : Int) + 1) = ((t + 1 : Nat) : Int) := by rw [wrap_i64 (by omega) (by omega)]; rfl
    rw [if_pos h]
    simp (config := {contextual := true, implicitDefEqProofs := false, maxSteps := 4000000}) only [go_sem, ↓reduceIte, Bool.false_eq_true, Nat.reduceEqDiff, Nat.reduceAdd, Int.reduceLE, Int.reduceLT, Int.reduceEq, Int.reduceToNat, Int.toNat_natCast, Int.cast_ofNat_Int, Int.natCast_one, Nat.reduceMod, Nat.reduceDiv, UInt8.reduceToNat, Nat.reduceLT, k1, k2, hgl, iaddrA, b1, b2, Nat_mul_one, hsub, c76, leNN, d1, w1]
  · have d1 : decide (10 ^ t ≤ x) = false := by simpa using h
    have w1 : IntKind.i64.wrap ((t : Int) + 0) = ((t : Nat) : Int) := by rw [wrap_i64 (by omega) (by omega)]; omega
    rw [if_neg h]
    simp (config := {contextual := true, implicitDefEqProofs := false, maxSteps := 4000000}) only [go_sem, ↓reduceIte, Bool.false_eq_true, Nat.reduceEqDiff, Nat.reduceAdd, Int.reduceLE, Int.reduceLT, Int.reduceEq, Int.reduceToNat, Int.toNat_natCast, Int.cast_ofNat_Int, Int.natCast_one, Nat.reduceMod, Nat.reduceDiv, UInt8.reduceToNat, Nat.reduceLT, k1, k2, hgl, iaddrA, b1, b2, Nat_mul_one, hsub, c76, leNN, d1, w1]
end T01

/- formatBase10 fills a buffer with digits. -/
namespace T01
open Go Fw Go.Proofs
set_option maxRecDepth 100000
set_option maxHeartbeats 4000000
set_option linter.unusedSimpArgs false
set_option linter.unusedVariables false

/- formatBase10 -/
def digC (x k : Nat) : AV := .int .u8 ((48 + x / 10 ^ k % 10 : Nat) : Int)
/-- The buffer while it is filled from behind: i places are left, u stands for what is left of x. -/
structure NB (x n : Nat) (cs0 : List AV) (i u : Nat) (cs : List AV) : Prop where
  len : cs.length = cs0.length
  low : ∀ j, i ≤ j → j < n → cs[j]? = some (digC x (n - 1 - j))
  high : ∀ j, n ≤ j → cs[j]? = cs0[j]?
  val : u = x / 10 ^ (n - i)
theorem NB.start {x n : Nat} {cs0 : List AV} : NB x n cs0 n x cs0 := ⟨rfl, fun j h1 h2 => absurd h1 (by omega), fun _ _ => rfl, by simp⟩
theorem NB.one {x n i u : Nat} {cs0 cs : List AV} (h : NB x n cs0 (i + 1) u cs) (hn : i + 1 ≤ n) (hl : n ≤ cs0.length) {v : AV} (hv : v = .int .u8 ((48 + u % 10 : Nat) : Int)) : NB x n cs0 i (u / 10) (cs.set i v) := by
  refine ⟨by rw [List.length_set]; exact h.len, fun j h1 h2 => ?_, fun j h1 => ?_, ?_⟩
  · by_cases hj : j = i
    · subst hj
      rw [List.getElem?_set_self (by rw [h.len]; omega), hv, h.val]
      unfold digC
      rw [show n - (j + 1) = n - 1 - j by omega]
    · rw [List.getElem?_set_ne (by omega)]
      exact h.low j (by omega) h2
  · rw [List.getElem?_set_ne (by omega)]; exact h.high j h1
  · rw [h.val, Nat.div_div_eq_div_mul, show n - i = (n - (i + 1)) + 1 by omega, Nat.pow_succ]
theorem NB.two {x n i u : Nat} {cs0 cs : List AV} (h : NB x n cs0 (i + 2) u cs) (hn : i + 2 ≤ n) (hl : n ≤ cs0.length) {v w : AV} (hv : v = .int .u8 ((48 + u % 10 : Nat) : Int)) (hw : w = .int .u8 ((48 + u / 10 % 10 : Nat) : Int)) : NB x n cs0 i (u / 100) ((cs.set (i + 1) v).set i w) := by
  have h1 := (NB.one (i := i + 1) h (by omega) hl hv).one (by omega) hl hw
  rw [Nat.div_div_eq_div_mul] at h1; exact h1
theorem NB.done {x n u : Nat} {cs0 cs : List AV} (h : NB x n cs0 0 u cs) (hl : n ≤ cs0.length) : cs = (List.range n).map (fun j => digC x (n - 1 - j)) ++ cs0.drop n := by
  apply List.ext_getElem?
  intro j
  by_cases hj : j < n
  · rw [h.low j (by omega) hj, List.getElem?_append_left (by simpa using hj), List.getElem?_map, List.getElem?_range hj]; rfl
  · rw [h.high j (by omega), List.getElem?_append_right (by simp; omega), List.getElem?_drop]
    congr 1; simp; omega
theorem patch_set {cs : List AV} {off : Nat} {v : AV} (h : off < cs.length) : patch cs off [v] = some (cs.set off v) := by
  unfold patch
  rw [if_pos (by simp; omega), List.set_eq_take_append_cons_drop, if_pos h]; simp
theorem patch_app {pre ds : List AV} {o j : Nat} {v : AV} (ho : pre.length = o) (h : j < ds.length) : patch (pre ++ ds) (o + j) [v] = some (pre ++ ds.set j v) := by
  rw [patch_set (by rw [List.length_append]; omega), List.set_append_right _ _ (by omega)]
  congr 3; omega
theorem put_put (i : Nat) (a b : AObj) : ∀ h : List (Nat × AObj), put i a (put i b h) = put i a h
  | [] => rfl
  | (j, p) :: h => by
    simp only [put]
    by_cases hj : j = i
    · simp only [hj, if_true, put]
    · simp only [hj, if_false, put, put_put i a b h]
theorem look_put {i : Nat} {a b : AObj} : ∀ {h : List (Nat × AObj)}, Fw.look i h = some a → Fw.look i (put i b h) = some b
  | [], h => by simp [Fw.look] at h
  | (j, p) :: h, hh => by
    simp only [Fw.look, put] at hh ⊢
    by_cases hj : j = i
    · simp only [hj, if_true, Fw.look]
    · simp only [hj, if_false, Fw.look] at hh ⊢; exact look_put hh
theorem put_same {i : Nat} {a : AObj} : ∀ {h : List (Nat × AObj)}, Fw.look i h = some a → put i a h = h
  | [], _ => rfl
  | (j, p) :: h, hh => by
    simp only [Fw.look, put] at hh ⊢
    by_cases hj : j = i
    · rw [if_pos hj, Option.some.injEq] at hh
      rw [if_pos hj, hh]
    · rw [if_neg hj] at hh
      rw [if_neg hj, put_same hh]
def smalls : List UInt8 := [48, 48, 48, 49, 48, 50, 48, 51, 48, 52, 48, 53, 48, 54, 48, 55, 48, 56, 48, 57, 49, 48, 49, 49, 49, 50, 49, 51, 49, 52, 49, 53, 49, 54, 49, 55, 49, 56, 49, 57, 50, 48, 50, 49, 50, 50, 50, 51, 50, 52, 50, 53, 50, 54, 50, 55, 50, 56, 50, 57, 51, 48, 51, 49, 51, 50, 51, 51, 51, 52, 51, 53, 51, 54, 51, 55, 51, 56, 51, 57, 52, 48, 52, 49, 52, 50, 52, 51, 52, 52, 52, 53, 52, 54, 52, 55, 52, 56, 52, 57, 53, 48, 53, 49, 53, 50, 53, 51, 53, 52, 53, 53, 53, 54, 53, 55, 53, 56, 53, 57, 54, 48, 54, 49, 54, 50, 54, 51, 54, 52, 54, 53, 54, 54, 54, 55, 54, 56, 54, 57, 55, 48, 55, 49, 55, 50, 55, 51, 55, 52, 55, 53, 55, 54, 55, 55, 55, 56, 55, 57, 56, 48, 56, 49, 56, 50, 56, 51, 56, 52, 56, 53, 56, 54, 56, 55, 56, 56, 56, 57, 57, 48, 57, 49, 57, 50, 57, 51, 57, 52, 57, 53, 57, 54, 57, 55, 57, 56, 57, 57]
def smallsT : List UInt8 := [48, 48, 49, 48, 50, 48, 51, 48, 52, 48, 53, 48, 54, 48, 55, 48, 56, 48, 57, 49, 48, 49, 49, 49, 50, 49, 51, 49, 52, 49, 53, 49, 54, 49, 55, 49, 56, 49, 57, 50, 48, 50, 49, 50, 50, 50, 51, 50, 52, 50, 53, 50, 54, 50, 55, 50, 56, 50, 57, 51, 48, 51, 49, 51, 50, 51, 51, 51, 52, 51, 53, 51, 54, 51, 55, 51, 56, 51, 57, 52, 48, 52, 49, 52, 50, 52, 51, 52, 52, 52, 53, 52, 54, 52, 55, 52, 56, 52, 57, 53, 48, 53, 49, 53, 50, 53, 51, 53, 52, 53, 53, 53, 54, 53, 55, 53, 56, 53, 57, 54, 48, 54, 49, 54, 50, 54, 51, 54, 52, 54, 53, 54, 54, 54, 55, 54, 56, 54, 57, 55, 48, 55, 49, 55, 50, 55, 51, 55, 52, 55, 53, 55, 54, 55, 55, 55, 56, 55, 57, 56, 48, 56, 49, 56, 50, 56, 51, 56, 52, 56, 53, 56, 54, 56, 55, 56, 56, 56, 57, 57, 48, 57, 49, 57, 50, 57, 51, 57, 52, 57, 53, 57, 54, 57, 55, 57, 56, 57, 57]
theorem smalls_hi : ∀ p : Fin 100, (smallsT.getD (2 * p.val) 0).toNat = 48 + p.val % 10 := by decide +kernel
theorem smalls_lo : ∀ p : Fin 100, (smalls.getD (2 * p.val) 0).toNat = 48 + p.val / 10 := by decide +kernel
theorem wrap_u32 (n : Int) : IntKind.u32.wrap n = n % 4294967296 := rfl
theorem wrap32 {n : Nat} (h : n < 4294967296) : IntKind.u32.wrap (n : Int) = (n : Int) := by rw [wrap_u32]; omega
theorem quo32 (a b : Nat) (ha : a < 4294967296) (hb : 0 < b) : evBin .quo (.int .u32 (a : Int)) (.int .u32 (b : Int)) = some (.int .u32 ((a / b : Nat) : Int)) := by
  rw [bin_quo, if_neg (by omega)]
  have : ((a : Int).tdiv (b : Int)) = ((a / b : Nat) : Int) := rfl
  rw [this, wrap32 (Nat.lt_of_le_of_lt (Nat.div_le_self _ _) ha)]
theorem rem32 (a b : Nat) (hb : 0 < b) : evBin .rem (.int .u32 (a : Int)) (.int .u32 (b : Int)) = some (.int .u32 ((a % b : Nat) : Int)) := by
  rw [bin_rem, if_neg (by omega)]; rfl
theorem dbl32 (p : Nat) (h : p < 100) : evBin .mul (.int .u32 (p : Int)) (.int .u32 2) = some (.int .u32 ((2 * p : Nat) : Int)) := by
  rw [bin_mul, wrap_u32]; congr 2; omega
theorem inc32 (p : Nat) (h : p < 100) : evBin .add (.int .u32 ((2 * p : Nat) : Int)) (.int .u32 1) = some (.int .u32 ((2 * p + 1 : Nat) : Int)) := by
  rw [bin_add, wrap_u32]; congr 2; omega
theorem quo64' (a b : Nat) (ha : a < 18446744073709551616) (hb : 0 < b) : evBin .quo (.int .u64 (a : Int)) (.int .u64 (b : Int)) = some (.int .u64 ((a / b : Nat) : Int)) := by
  rw [bin_quo, if_neg (by omega)]
  have : ((a : Int).tdiv (b : Int)) = ((a / b : Nat) : Int) := rfl
  rw [this, wrapN, Nat.mod_eq_of_lt (Nat.lt_of_le_of_lt (Nat.div_le_self _ _) ha)]
theorem rem64' (a b : Nat) (hb : 0 < b) : evBin .rem (.int .u64 (a : Int)) (.int .u64 (b : Int)) = some (.int .u64 ((a % b : Nat) : Int)) := by
  rw [bin_rem, if_neg (by omega)]; rfl
theorem small_rules (p : Nat) (h : p < 100) : (((smallsT.getD (2 * p) 0).toNat : Nat) : Int) = ((48 + p % 10 : Nat) : Int) ∧ (((smalls.getD (2 * p) 0).toNat : Nat) : Int) = ((48 + p / 10 : Nat) : Int) ∧
    ((0 : Int) ≤ ((2 * p + 1 : Nat) : Int)) ∧ (((2 * p + 1 : Nat) : Int) < 200) ∧ ((0 : Int) ≤ ((2 * p : Nat) : Int)) ∧ (((2 * p : Nat) : Int) < 200) := by
  rw [smalls_hi ⟨p, h⟩, smalls_lo ⟨p, h⟩]
  exact ⟨rfl, rfl, by omega, by omega, by omega, by omega⟩

theorem l64 (x n : Nat) (hx : x < 18446744073709551616) (C : Nat) (ty : Option TypeId) (h0 : List (Nat × AObj)) (n0 : Nat) (pre cs0 : List AV) (o : Nat) (ho : pre.length = o) (cp : Option Nat) (hn : n ≤ cs0.length) (hn2 : n ≤ 1000) (hlk : Fw.look C h0 = some (.cells ty (pre ++ cs0))) (Q : Sig → FE → St → Prop) : ∀ (r i u L : Nat) (cs : List AV) (e : FE), C ≤ L → (L = C ∨ i = n) → i ≤ r → i ≤ n → NB x n cs0 i u cs →
    e 0 = .mslice C o n cp → e 1 = .int .u64 (u : Int) → e 4 = .int .i64 (i : Int) →
    (∀ i u L cs e', C ≤ L → (L = C ∨ i = n) → i < 8 → i ≤ n → NB x n cs0 i u cs → e' 1 = .int .u64 (u : Int) → e' 4 = .int .i64 (i : Int) → Q (.exit 0) e' { heap := put C (.cells ty (pre ++ cs)) h0, next := n0, low := L }) → WLoop cx ir64L0 e { heap := put C (.cells ty (pre ++ cs)) h0, next := n0, low := L } Q
  | r, i, u, L, cs, e, hCL, hLi, hr, hin, hN, e0, e1, e4, hQ => by
    refine WLoop.rnd (c := _) ir64L0.eq_1 ?_
    by_cases hi : i < 8
    · have d1 : decide ((8 : Int) ≤ (i : Int)) = false := by simp; omega
      simp (config := {contextual := true, implicitDefEqProofs := false, maxSteps := 4000000}) only [go_sem, ↓reduceIte, Bool.false_eq_true, Nat.reduceEqDiff, Nat.reduceAdd, Int.reduceLE, Int.reduceLT, Int.reduceEq, Int.reduceToNat, Int.toNat_natCast, Int.cast_ofNat_Int, Int.natCast_one, Nat.reduceMod, Nat.reduceDiv, UInt8.reduceToNat, Nat.reduceLT, e4, d1]
      exact hQ i u L cs _ hCL hLi hi hin hN e1 e4
    have d1 : decide ((8 : Int) ≤ (i : Int)) = true := by simp; omega
    obtain ⟨m, rfl⟩ : ∃ m, i = m + 8 := ⟨i - 8, by omega⟩
    match r, hr with
    | 0, hr => omega
    | r + 1, hr =>
    have hu : u < 18446744073709551616 := by rw [hN.val]; exact Nat.lt_of_le_of_lt (Nat.div_le_self _ _) hx
    have g1 : evBin .rem (.int .u64 (u : Int)) (.int .u64 100000000) = some (.int .u64 ((u % 100000000 : Nat) : Int)) := rem64' u 100000000 (by decide)
    have g2 : evBin .quo (.int .u64 (u : Int)) (.int .u64 100000000) = some (.int .u64 ((u / 100000000 : Nat) : Int)) := quo64' u 100000000 hu (by decide)
    obtain ⟨a, ha⟩ : ∃ a, u % 100000000 = a := ⟨_, rfl⟩
    have ha2 : a < 100000000 := by omega
    rw [ha] at g1
    have g3 := wrap32 (n := a) (by omega)
    have g4 : evBin .quo (.int .u32 (a : Int)) (.int .u32 10000) = some (.int .u32 ((a / 10000 : Nat) : Int)) := quo32 a 10000 (by omega) (by decide)
    have g5 : evBin .rem (.int .u32 (a : Int)) (.int .u32 10000) = some (.int .u32 ((a % 10000 : Nat) : Int)) := rem32 a 10000 (by decide)
    obtain ⟨hi', hhi⟩ : ∃ b, a / 10000 = b := ⟨_, rfl⟩
    obtain ⟨lo, hlo⟩ : ∃ b, a % 10000 = b := ⟨_, rfl⟩
    rw [hhi] at g4
    rw [hlo] at g5
    have g6 : evBin .quo (.int .u32 (lo : Int)) (.int .u32 100) = some (.int .u32 ((lo / 100 : Nat) : Int)) := quo32 lo 100 (by omega) (by decide)
    have g7 : evBin .rem (.int .u32 (lo : Int)) (.int .u32 100) = some (.int .u32 ((lo % 100 : Nat) : Int)) := rem32 lo 100 (by decide)
    have g8 : evBin .quo (.int .u32 (hi' : Int)) (.int .u32 100) = some (.int .u32 ((hi' / 100 : Nat) : Int)) := quo32 hi' 100 (by omega) (by decide)
    have g9 : evBin .rem (.int .u32 (hi' : Int)) (.int .u32 100) = some (.int .u32 ((hi' % 100 : Nat) : Int)) := rem32 hi' 100 (by decide)
    obtain ⟨p1, hp1⟩ : ∃ b, lo / 100 = b := ⟨_, rfl⟩
    obtain ⟨p0, hp0⟩ : ∃ b, lo % 100 = b := ⟨_, rfl⟩
    obtain ⟨p3, hp3⟩ : ∃ b, hi' / 100 = b := ⟨_, rfl⟩
    obtain ⟨p2, hp2⟩ : ∃ b, hi' % 100 = b := ⟨_, rfl⟩
    rw [hp1] at g6
    rw [hp0] at g7
    rw [hp3] at g8
    rw [hp2] at g9
    obtain ⟨sp0a, sp0b, sp0c, sp0d, sp0e, sp0f⟩ := small_rules p0 (by omega)
    have mp0 := dbl32 p0 (by omega)
    have ip0 := inc32 p0 (by omega)
    simp only [smalls, smallsT] at sp0a sp0b
    obtain ⟨sp1a, sp1b, sp1c, sp1d, sp1e, sp1f⟩ := small_rules p1 (by omega)
    have mp1 := dbl32 p1 (by omega)
    have ip1 := inc32 p1 (by omega)
    simp only [smalls, smallsT] at sp1a sp1b
    obtain ⟨sp2a, sp2b, sp2c, sp2d, sp2e, sp2f⟩ := small_rules p2 (by omega)
    have mp2 := dbl32 p2 (by omega)
    have ip2 := inc32 p2 (by omega)
    simp only [smalls, smallsT] at sp2a sp2b
    obtain ⟨sp3a, sp3b, sp3c, sp3d, sp3e, sp3f⟩ := small_rules p3 (by omega)
    have mp3 := dbl32 p3 (by omega)
    have ip3 := inc32 p3 (by omega)
    simp only [smalls, smallsT] at sp3a sp3b
    have wk : ∀ k : Nat, k ≤ 8 → IntKind.i64.wrap (((m + 8 : Nat) : Int) - (k : Int)) = ((m + (8 - k) : Nat) : Int) := by
      intro k hk; rw [wrap_i64 (by omega) (by omega)]; omega
    have w1 := wk 1 (by decide); have w2 := wk 2 (by decide); have w3 := wk 3 (by decide); have w4 := wk 4 (by decide)
    have w5 := wk 5 (by decide); have w6 := wk 6 (by decide); have w7 := wk 7 (by decide); have w8 := wk 8 (by decide)
    simp only [Nat.reduceSub, Int.cast_ofNat_Int, Nat.add_zero] at w1 w2 w3 w4 w5 w6 w7 w8
    have hcl : cs.length = cs0.length := hN.len
    have bk : ∀ k : Nat, k ≤ 7 → ((0 : Int) ≤ ((m + k : Nat) : Int) ∧ ((m + k : Nat) : Int) < (n : Int)) := fun k hk => ⟨by omega, by omega⟩
    have b0 := bk 0 (by decide); have b1 := bk 1 (by decide); have b2 := bk 2 (by decide); have b3 := bk 3 (by decide)
    have b4 := bk 4 (by decide); have b5 := bk 5 (by decide); have b6 := bk 6 (by decide); have b7 := bk 7 (by decide)
    rw [Nat.add_zero] at b0
    have pk : ∀ (k : Nat) (ds : List AV) (v : AV), k ≤ 7 → ds.length = cs0.length → patch (pre ++ ds) (o + (m + k)) [v] = some (pre ++ ds.set (m + k) v) := fun k ds v hk hd => patch_app ho (by omega)
    have q0 : ∀ (ds : List AV) (v : AV), ds.length = cs0.length → patch (pre ++ ds) (o + m) [v] = some (pre ++ ds.set m v) := fun ds v => pk 0 ds v (by decide)
    have q1 := fun ds v => pk 1 ds v (by decide)
    have q2 := fun ds v => pk 2 ds v (by decide)
    have q3 := fun ds v => pk 3 ds v (by decide)
    have q4 := fun ds v => pk 4 ds v (by decide)
    have q5 := fun ds v => pk 5 ds v (by decide)
    have q6 := fun ds v => pk 6 ds v (by decide)
    have q7 := fun ds v => pk 7 ds v (by decide)
    have lk : ∀ ds, Fw.look C (put C (.cells ty ds) h0) = some (.cells ty ds) := fun ds => look_put hlk
    have hmin : min L C = C := by omega
    have hmin2 : min C C = C := by omega
    have N1 := NB.two (i := m + 6) hN (by omega) hn (v := .int .u8 ((48 + p0 % 10 : Nat) : Int)) (w := .int .u8 ((48 + p0 / 10 : Nat) : Int)) (by congr 3; omega) (by congr 3; omega)
    have N2 := NB.two (i := m + 4) N1 (by omega) hn (v := .int .u8 ((48 + p1 % 10 : Nat) : Int)) (w := .int .u8 ((48 + p1 / 10 : Nat) : Int)) (by congr 3; omega) (by congr 3; omega)
    have N3 := NB.two (i := m + 2) N2 (by omega) hn (v := .int .u8 ((48 + p2 % 10 : Nat) : Int)) (w := .int .u8 ((48 + p2 / 10 : Nat) : Int)) (by congr 3; omega) (by congr 3; omega)
    have N4 := NB.two (i := m) N3 (by omega) hn (v := .int .u8 ((48 + p3 % 10 : Nat) : Int)) (w := .int .u8 ((48 + p3 / 10 : Nat) : Int)) (by congr 3; omega) (by congr 3; omega)
    rw [show u / 100 / 100 / 100 / 100 = u / 100000000 by omega] at N4
    have ih := fun cs' e' hN' => l64 x n hx C ty h0 n0 pre cs0 o ho cp hn hn2 hlk Q r m (u / 100000000) C cs' e' (Nat.le_refl _) (.inl rfl) (by omega) (by omega) hN'
    clear N1 N2 N3 hN wk bk pk ha hhi hlo hp0 hp1 hp2 hp3 hu
    simp (config := {contextual := true, implicitDefEqProofs := false, maxSteps := 4000000}) only [go_sem, ↓reduceIte, Bool.false_eq_true, Nat.reduceEqDiff, Nat.reduceAdd, Int.reduceLE, Int.reduceLT, Int.reduceEq, Int.reduceToNat, Int.toNat_natCast, Int.cast_ofNat_Int, Int.natCast_one, Nat.reduceMod, Nat.reduceDiv, UInt8.reduceToNat, Nat.reduceLT, e0, e1, e4, d1, g1, g2, g3, g4, g5, g6, g7, g8, g9, mp0, ip0, sp0a, sp0b, sp0c, sp0d, sp0e, sp0f, mp1, ip1, sp1a, sp1b, sp1c, sp1d, sp1e, sp1f, mp2, ip2, sp2a, sp2b, sp2c, sp2d, sp2e, sp2f, mp3, ip3, sp3a, sp3b, sp3c, sp3d, sp3e, sp3f, w1, w2, w3, w4, w5, w6, w7, w8, oget_iaddr_mslice, b0, b1, b2, b3, b4, b5, b6, b7, Nat_mul_one, q0, q1, q2, q3, q4, q5, q6, q7, List.length_set, hcl, lk, put_put, hmin, hmin2]
    refine ih _ _ ?_ ?_ ?_ ?_ hQ
    · exact N4
    · exact e0
    · rfl
    · rfl

theorem LeaveW_low {s s' : St} (h : s'.low < s.next) (K : AV → St → Prop) : LeaveW s s' (.tuple []) K = K (.tuple []) { heap := s'.heap, next := s'.next, low := min s.low s'.low } := by
  have h1 : ¬ s.next ≤ s'.low := by omega
  simp only [LeaveW, leave, AV.drop2, List.map_nil, h1, false_and, if_false]
/-- The digits of a number, the last n. -/
def digs (x n : Nat) : List AV := (List.range n).map fun j => digC x (n - 1 - j)
theorem c64 (x n : Nat) (hx : x < 18446744073709551616) (hxn : x < 10 ^ n) (h1 : 1 ≤ n) (hn2 : n ≤ 1000) (C : Nat) (ty : Option TypeId) (pre cs0 : List AV) (o : Nat) (ho : pre.length = o) (cp : Option Nat) (hn : n ≤ cs0.length) (s : St) (hlk : Fw.look C s.heap = some (.cells ty (pre ++ cs0))) (hC : C < s.next) (K : AV → St → Prop) :
    CallW cx 64 [.mslice C o n cp, .int .u64 (x : Int)] s K = K (.tuple []) { heap := put C (.cells ty (pre ++ (digs x n ++ cs0.drop n))) s.heap, next := s.next, low := min s.low C } := by
  refine CallW.eq (CallW.fn' (fn := ir64) rfl rfl (by kernel_rfl) ir64.eq_1 ?_) K
  unfold digs
  have key := fun Q e => l64 x n hx C ty s.heap s.next pre cs0 o ho cp hn hn2 hlk Q n n x s.next cs0 e (Nat.le_of_lt hC) (.inr rfl) (Nat.le_refl _) (Nat.le_refl _) NB.start
  rw [put_same hlk] at key
  simp (config := {contextual := true, implicitDefEqProofs := false, maxSteps := 4000000}) only [go_sem, ↓reduceIte, Bool.false_eq_true, Nat.reduceEqDiff, Nat.reduceAdd, Int.reduceLE, Int.reduceLT, Int.reduceEq, Int.reduceToNat, Int.toNat_natCast, Int.cast_ofNat_Int, Int.natCast_one, Nat.reduceMod, Nat.reduceDiv, UInt8.reduceToNat, Nat.reduceLT]
  refine WLoop.keep (key _ _ rfl rfl rfl ?_)
  intro i u L cs e' hCL hLi hi hin hN e1 e4 hk
  have e0 := hk 0 (by decide +kernel)
  simp only [upd, argsE, ↓reduceIte, Nat.reduceEqDiff, List.getD_cons_zero] at e0
  clear hk key
  have lk : ∀ ds, Fw.look C (put C (.cells ty ds) s.heap) = some (.cells ty ds) := fun ds => look_put hlk
  have hcl : cs.length = cs0.length := hN.len
  have ws0 : IntKind.i64.wrap 0 = 0 := rfl
  have ws1 : IntKind.i64.wrap 1 = 1 := rfl
  have ws2 : IntKind.i64.wrap 2 = 2 := rfl
  have ws3 : IntKind.i64.wrap 3 = 3 := rfl
  have ws4 : IntKind.i64.wrap 4 = 4 := rfl
  have ws5 : IntKind.i64.wrap 5 = 5 := rfl
  have ws6 : IntKind.i64.wrap 6 = 6 := rfl
  rcases (by omega : i = 0 ∨ i = 1 ∨ i = 2 ∨ i = 3 ∨ i = 4 ∨ i = 5 ∨ i = 6 ∨ i = 7) with hi0 | hi1 | hi2 | hi3 | hi4 | hi5 | hi6 | hi7
  · subst hi0
    have hu8 : u < 10 ^ 0 := by
      rw [hN.val, Nat.div_lt_iff_lt_mul (Nat.pow_pos (by decide)), ← Nat.pow_add, show 0 + (n - 0) = n by omega]; exact hxn
    simp only [Nat.reducePow] at hu8
    have g0 := wrap32 (n := u) (by omega)
    have hLC : L = C := by omega
    subst hLC
    rw [NB.done hN hn] at *
    clear hN
    simp (config := {contextual := true, implicitDefEqProofs := false, maxSteps := 4000000}) only [go_sem, ↓reduceIte, Bool.false_eq_true, Nat.reduceEqDiff, Nat.reduceAdd, Int.reduceLE, Int.reduceLT, Int.reduceEq, Int.reduceToNat, Int.toNat_natCast, Int.cast_ofNat_Int, Int.natCast_one, Nat.reduceMod, Nat.reduceDiv, UInt8.reduceToNat, Nat.reduceLT, e0, e1, e4, g0]
    rw [LeaveW_low hC]
    exact ⟨rfl, rfl⟩
  · subst hi1
    have hu8 : u < 10 ^ 1 := by
      rw [hN.val, Nat.div_lt_iff_lt_mul (Nat.pow_pos (by decide)), ← Nat.pow_add, show 1 + (n - 1) = n by omega]; exact hxn
    simp only [Nat.reducePow] at hu8
    have g0 := wrap32 (n := u) (by omega)
    have y1 : IntKind.u32.wrap (48 + (u : Int)) = ((48 + u : Nat) : Int) := wrap32 (n := 48 + u) (by omega)
    have y2 : IntKind.u8.wrap ((48 + u : Nat) : Int) = ((48 + u : Nat) : Int) := by rw [wrap_u8]; omega
    have N4 := NB.one (i := 0) hN (by omega) hn (v := .int .u8 ((48 + u : Nat) : Int)) (by congr 3; omega)
    have D := NB.done N4 hn
    clear N4 hN
    have hmin : min L C = C := by omega
    have hmin2 : min C C = C := by omega
    have b0 : (0 : Int) < (n : Int) := by omega
    have q0 : ∀ (ds : List AV) (v : AV), ds.length = cs0.length → patch (pre ++ ds) o [v] = some (pre ++ ds.set 0 v) := fun ds v hd => patch_app (j := 0) ho (by omega)
    simp (config := {contextual := true, implicitDefEqProofs := false, maxSteps := 4000000}) only [go_sem, ↓reduceIte, Bool.false_eq_true, Nat.reduceEqDiff, Nat.reduceAdd, Int.reduceLE, Int.reduceLT, Int.reduceEq, Int.reduceToNat, Int.toNat_natCast, Int.cast_ofNat_Int, Int.natCast_one, Nat.reduceMod, Nat.reduceDiv, UInt8.reduceToNat, Nat.reduceLT, e0, e1, e4, g0, y1, y2, b0, q0, Int.reduceSub, ws0, ws1, ws2, ws3, ws4, ws5, ws6, Nat_mul_one, List.length_set, hcl, lk, put_put, hmin, hmin2]
    rw [LeaveW_low hC]
    rw [← D]
    exact ⟨rfl, rfl⟩
  · subst hi2
    have hu8 : u < 10 ^ 2 := by
      rw [hN.val, Nat.div_lt_iff_lt_mul (Nat.pow_pos (by decide)), ← Nat.pow_add, show 2 + (n - 2) = n by omega]; exact hxn
    simp only [Nat.reducePow] at hu8
    have g0 := wrap32 (n := u) (by omega)
    have f1 : evBin .quo (.int .u32 (u : Int)) (.int .u32 100) = some (.int .u32 ((u / 100 : Nat) : Int)) := quo32 u 100 (by omega) (by decide)
    have f2 : evBin .rem (.int .u32 (u : Int)) (.int .u32 100) = some (.int .u32 ((u % 100 : Nat) : Int)) := rem32 u 100 (by decide)
    obtain ⟨p2, hp2⟩ : ∃ b, u % 100 = b := ⟨_, rfl⟩
    rw [hp2] at f2
    obtain ⟨sp2a, sp2b, sp2c, sp2d, sp2e, sp2f⟩ := small_rules p2 (by omega)
    have mp2 := dbl32 p2 (by omega)
    have ip2 := inc32 p2 (by omega)
    simp only [smalls, smallsT] at sp2a sp2b
    have N3 := NB.two (i := 0) hN (by omega) hn (v := .int .u8 ((48 + p2 % 10 : Nat) : Int)) (w := .int .u8 ((48 + p2 / 10 : Nat) : Int)) (by congr 3; omega) (by congr 3; omega)
    obtain ⟨v2, hv2⟩ : ∃ b, u / 100 = b := ⟨_, rfl⟩
    rw [hv2] at f1 N3
    have D := NB.done N3 hn
    clear N3 hN
    have hmin : min L C = C := by omega
    have hmin2 : min C C = C := by omega
    have b0 : (0 : Int) < (n : Int) := by omega
    have q0 : ∀ (ds : List AV) (v : AV), ds.length = cs0.length → patch (pre ++ ds) o [v] = some (pre ++ ds.set 0 v) := fun ds v hd => patch_app (j := 0) ho (by omega)
    have b1 : (1 : Int) < (n : Int) := by omega
    have q1 : ∀ (ds : List AV) (v : AV), ds.length = cs0.length → patch (pre ++ ds) (o + 1) [v] = some (pre ++ ds.set 1 v) := fun ds v hd => patch_app ho (by omega)
    simp (config := {contextual := true, implicitDefEqProofs := false, maxSteps := 4000000}) only [go_sem, ↓reduceIte, Bool.false_eq_true, Nat.reduceEqDiff, Nat.reduceAdd, Int.reduceLE, Int.reduceLT, Int.reduceEq, Int.reduceToNat, Int.toNat_natCast, Int.cast_ofNat_Int, Int.natCast_one, Nat.reduceMod, Nat.reduceDiv, UInt8.reduceToNat, Nat.reduceLT, e0, e1, e4, g0, f1, f2, mp2, ip2, sp2a, sp2b, sp2c, sp2d, sp2e, sp2f, b0, q0, b1, q1, Int.reduceSub, ws0, ws1, ws2, ws3, ws4, ws5, ws6, Nat_mul_one, List.length_set, hcl, lk, put_put, hmin, hmin2]
    rw [LeaveW_low hC]
    rw [← D]
    exact ⟨rfl, rfl⟩
  · subst hi3
    have hu8 : u < 10 ^ 3 := by
      rw [hN.val, Nat.div_lt_iff_lt_mul (Nat.pow_pos (by decide)), ← Nat.pow_add, show 3 + (n - 3) = n by omega]; exact hxn
    simp only [Nat.reducePow] at hu8
    have g0 := wrap32 (n := u) (by omega)
    have f1 : evBin .quo (.int .u32 (u : Int)) (.int .u32 100) = some (.int .u32 ((u / 100 : Nat) : Int)) := quo32 u 100 (by omega) (by decide)
    have f2 : evBin .rem (.int .u32 (u : Int)) (.int .u32 100) = some (.int .u32 ((u % 100 : Nat) : Int)) := rem32 u 100 (by decide)
    obtain ⟨p2, hp2⟩ : ∃ b, u % 100 = b := ⟨_, rfl⟩
    rw [hp2] at f2
    obtain ⟨sp2a, sp2b, sp2c, sp2d, sp2e, sp2f⟩ := small_rules p2 (by omega)
    have mp2 := dbl32 p2 (by omega)
    have ip2 := inc32 p2 (by omega)
    simp only [smalls, smallsT] at sp2a sp2b
    have N3 := NB.two (i := 1) hN (by omega) hn (v := .int .u8 ((48 + p2 % 10 : Nat) : Int)) (w := .int .u8 ((48 + p2 / 10 : Nat) : Int)) (by congr 3; omega) (by congr 3; omega)
    obtain ⟨v2, hv2⟩ : ∃ b, u / 100 = b := ⟨_, rfl⟩
    rw [hv2] at f1 N3
    have y1 : IntKind.u32.wrap (48 + (v2 : Int)) = ((48 + v2 : Nat) : Int) := wrap32 (n := 48 + v2) (by omega)
    have y2 : IntKind.u8.wrap ((48 + v2 : Nat) : Int) = ((48 + v2 : Nat) : Int) := by rw [wrap_u8]; omega
    have N4 := NB.one (i := 0) N3 (by omega) hn (v := .int .u8 ((48 + v2 : Nat) : Int)) (by congr 3; omega)
    have D := NB.done N4 hn
    clear N4 hN
    have hmin : min L C = C := by omega
    have hmin2 : min C C = C := by omega
    have b0 : (0 : Int) < (n : Int) := by omega
    have q0 : ∀ (ds : List AV) (v : AV), ds.length = cs0.length → patch (pre ++ ds) o [v] = some (pre ++ ds.set 0 v) := fun ds v hd => patch_app (j := 0) ho (by omega)
    have b1 : (1 : Int) < (n : Int) := by omega
    have q1 : ∀ (ds : List AV) (v : AV), ds.length = cs0.length → patch (pre ++ ds) (o + 1) [v] = some (pre ++ ds.set 1 v) := fun ds v hd => patch_app ho (by omega)
    have b2 : (2 : Int) < (n : Int) := by omega
    have q2 : ∀ (ds : List AV) (v : AV), ds.length = cs0.length → patch (pre ++ ds) (o + 2) [v] = some (pre ++ ds.set 2 v) := fun ds v hd => patch_app ho (by omega)
    simp (config := {contextual := true, implicitDefEqProofs := false, maxSteps := 4000000}) only [go_sem, ↓reduceIte, Bool.false_eq_true, Nat.reduceEqDiff, Nat.reduceAdd, Int.reduceLE, Int.reduceLT, Int.reduceEq, Int.reduceToNat, Int.toNat_natCast, Int.cast_ofNat_Int, Int.natCast_one, Nat.reduceMod, Nat.reduceDiv, UInt8.reduceToNat, Nat.reduceLT, e0, e1, e4, g0, f1, f2, mp2, ip2, sp2a, sp2b, sp2c, sp2d, sp2e, sp2f, y1, y2, b0, q0, b1, q1, b2, q2, Int.reduceSub, ws0, ws1, ws2, ws3, ws4, ws5, ws6, Nat_mul_one, List.length_set, hcl, lk, put_put, hmin, hmin2]
    rw [LeaveW_low hC]
    rw [← D]
    exact ⟨rfl, rfl⟩
  · subst hi4
    have hu8 : u < 10 ^ 4 := by
      rw [hN.val, Nat.div_lt_iff_lt_mul (Nat.pow_pos (by decide)), ← Nat.pow_add, show 4 + (n - 4) = n by omega]; exact hxn
    simp only [Nat.reducePow] at hu8
    have g0 := wrap32 (n := u) (by omega)
    have g1 : evBin .quo (.int .u32 (u : Int)) (.int .u32 10000) = some (.int .u32 ((u / 10000 : Nat) : Int)) := quo32 u 10000 (by omega) (by decide)
    have g2 : evBin .rem (.int .u32 (u : Int)) (.int .u32 10000) = some (.int .u32 ((u % 10000 : Nat) : Int)) := rem32 u 10000 (by decide)
    obtain ⟨a, ha⟩ : ∃ a, u % 10000 = a := ⟨_, rfl⟩
    rw [ha] at g2
    have g3 : evBin .quo (.int .u32 (a : Int)) (.int .u32 100) = some (.int .u32 ((a / 100 : Nat) : Int)) := quo32 a 100 (by omega) (by decide)
    have g4 : evBin .rem (.int .u32 (a : Int)) (.int .u32 100) = some (.int .u32 ((a % 100 : Nat) : Int)) := rem32 a 100 (by decide)
    obtain ⟨p1, hp1⟩ : ∃ b, a / 100 = b := ⟨_, rfl⟩
    obtain ⟨p0, hp0⟩ : ∃ b, a % 100 = b := ⟨_, rfl⟩
    rw [hp1] at g3
    rw [hp0] at g4
    obtain ⟨sp0a, sp0b, sp0c, sp0d, sp0e, sp0f⟩ := small_rules p0 (by omega)
    have mp0 := dbl32 p0 (by omega)
    have ip0 := inc32 p0 (by omega)
    simp only [smalls, smallsT] at sp0a sp0b
    obtain ⟨sp1a, sp1b, sp1c, sp1d, sp1e, sp1f⟩ := small_rules p1 (by omega)
    have mp1 := dbl32 p1 (by omega)
    have ip1 := inc32 p1 (by omega)
    simp only [smalls, smallsT] at sp1a sp1b
    have N1 := NB.two (i := 2) hN (by omega) hn (v := .int .u8 ((48 + p0 % 10 : Nat) : Int)) (w := .int .u8 ((48 + p0 / 10 : Nat) : Int)) (by congr 3; omega) (by congr 3; omega)
    have N2 := NB.two (i := 0) N1 (by omega) hn (v := .int .u8 ((48 + p1 % 10 : Nat) : Int)) (w := .int .u8 ((48 + p1 / 10 : Nat) : Int)) (by congr 3; omega) (by congr 3; omega)
    rw [show u / 100 / 100 = u / 10000 by omega] at N2
    obtain ⟨v1, hv1⟩ : ∃ b, u / 10000 = b := ⟨_, rfl⟩
    rw [hv1] at g1 N2
    have D := NB.done N2 hn
    clear N2 hN
    have hmin : min L C = C := by omega
    have hmin2 : min C C = C := by omega
    have b0 : (0 : Int) < (n : Int) := by omega
    have q0 : ∀ (ds : List AV) (v : AV), ds.length = cs0.length → patch (pre ++ ds) o [v] = some (pre ++ ds.set 0 v) := fun ds v hd => patch_app (j := 0) ho (by omega)
    have b1 : (1 : Int) < (n : Int) := by omega
    have q1 : ∀ (ds : List AV) (v : AV), ds.length = cs0.length → patch (pre ++ ds) (o + 1) [v] = some (pre ++ ds.set 1 v) := fun ds v hd => patch_app ho (by omega)
    have b2 : (2 : Int) < (n : Int) := by omega
    have q2 : ∀ (ds : List AV) (v : AV), ds.length = cs0.length → patch (pre ++ ds) (o + 2) [v] = some (pre ++ ds.set 2 v) := fun ds v hd => patch_app ho (by omega)
    have b3 : (3 : Int) < (n : Int) := by omega
    have q3 : ∀ (ds : List AV) (v : AV), ds.length = cs0.length → patch (pre ++ ds) (o + 3) [v] = some (pre ++ ds.set 3 v) := fun ds v hd => patch_app ho (by omega)
    simp (config := {contextual := true, implicitDefEqProofs := false, maxSteps := 4000000}) only [go_sem, ↓reduceIte, Bool.false_eq_true, Nat.reduceEqDiff, Nat.reduceAdd, Int.reduceLE, Int.reduceLT, Int.reduceEq, Int.reduceToNat, Int.toNat_natCast, Int.cast_ofNat_Int, Int.natCast_one, Nat.reduceMod, Nat.reduceDiv, UInt8.reduceToNat, Nat.reduceLT, e0, e1, e4, g0, g1, g2, g3, g4, mp0, ip0, sp0a, sp0b, sp0c, sp0d, sp0e, sp0f, mp1, ip1, sp1a, sp1b, sp1c, sp1d, sp1e, sp1f, b0, q0, b1, q1, b2, q2, b3, q3, Int.reduceSub, ws0, ws1, ws2, ws3, ws4, ws5, ws6, Nat_mul_one, List.length_set, hcl, lk, put_put, hmin, hmin2]
    rw [LeaveW_low hC]
    rw [← D]
    exact ⟨rfl, rfl⟩
  · subst hi5
    have hu8 : u < 10 ^ 5 := by
      rw [hN.val, Nat.div_lt_iff_lt_mul (Nat.pow_pos (by decide)), ← Nat.pow_add, show 5 + (n - 5) = n by omega]; exact hxn
    simp only [Nat.reducePow] at hu8
    have g0 := wrap32 (n := u) (by omega)
    have g1 : evBin .quo (.int .u32 (u : Int)) (.int .u32 10000) = some (.int .u32 ((u / 10000 : Nat) : Int)) := quo32 u 10000 (by omega) (by decide)
    have g2 : evBin .rem (.int .u32 (u : Int)) (.int .u32 10000) = some (.int .u32 ((u % 10000 : Nat) : Int)) := rem32 u 10000 (by decide)
    obtain ⟨a, ha⟩ : ∃ a, u % 10000 = a := ⟨_, rfl⟩
    rw [ha] at g2
    have g3 : evBin .quo (.int .u32 (a : Int)) (.int .u32 100) = some (.int .u32 ((a / 100 : Nat) : Int)) := quo32 a 100 (by omega) (by decide)
    have g4 : evBin .rem (.int .u32 (a : Int)) (.int .u32 100) = some (.int .u32 ((a % 100 : Nat) : Int)) := rem32 a 100 (by decide)
    obtain ⟨p1, hp1⟩ : ∃ b, a / 100 = b := ⟨_, rfl⟩
    obtain ⟨p0, hp0⟩ : ∃ b, a % 100 = b := ⟨_, rfl⟩
    rw [hp1] at g3
    rw [hp0] at g4
    obtain ⟨sp0a, sp0b, sp0c, sp0d, sp0e, sp0f⟩ := small_rules p0 (by omega)
    have mp0 := dbl32 p0 (by omega)
    have ip0 := inc32 p0 (by omega)
    simp only [smalls, smallsT] at sp0a sp0b
    obtain ⟨sp1a, sp1b, sp1c, sp1d, sp1e, sp1f⟩ := small_rules p1 (by omega)
    have mp1 := dbl32 p1 (by omega)
    have ip1 := inc32 p1 (by omega)
    simp only [smalls, smallsT] at sp1a sp1b
    have N1 := NB.two (i := 3) hN (by omega) hn (v := .int .u8 ((48 + p0 % 10 : Nat) : Int)) (w := .int .u8 ((48 + p0 / 10 : Nat) : Int)) (by congr 3; omega) (by congr 3; omega)
    have N2 := NB.two (i := 1) N1 (by omega) hn (v := .int .u8 ((48 + p1 % 10 : Nat) : Int)) (w := .int .u8 ((48 + p1 / 10 : Nat) : Int)) (by congr 3; omega) (by congr 3; omega)
    rw [show u / 100 / 100 = u / 10000 by omega] at N2
    obtain ⟨v1, hv1⟩ : ∃ b, u / 10000 = b := ⟨_, rfl⟩
    rw [hv1] at g1 N2
    have y1 : IntKind.u32.wrap (48 + (v1 : Int)) = ((48 + v1 : Nat) : Int) := wrap32 (n := 48 + v1) (by omega)
    have y2 : IntKind.u8.wrap ((48 + v1 : Nat) : Int) = ((48 + v1 : Nat) : Int) := by rw [wrap_u8]; omega
    have N4 := NB.one (i := 0) N2 (by omega) hn (v := .int .u8 ((48 + v1 : Nat) : Int)) (by congr 3; omega)
    have D := NB.done N4 hn
    clear N4 hN
    have hmin : min L C = C := by omega
    have hmin2 : min C C = C := by omega
    have b0 : (0 : Int) < (n : Int) := by omega
    have q0 : ∀ (ds : List AV) (v : AV), ds.length = cs0.length → patch (pre ++ ds) o [v] = some (pre ++ ds.set 0 v) := fun ds v hd => patch_app (j := 0) ho (by omega)
    have b1 : (1 : Int) < (n : Int) := by omega
    have q1 : ∀ (ds : List AV) (v : AV), ds.length = cs0.length → patch (pre ++ ds) (o + 1) [v] = some (pre ++ ds.set 1 v) := fun ds v hd => patch_app ho (by omega)
    have b2 : (2 : Int) < (n : Int) := by omega
    have q2 : ∀ (ds : List AV) (v : AV), ds.length = cs0.length → patch (pre ++ ds) (o + 2) [v] = some (pre ++ ds.set 2 v) := fun ds v hd => patch_app ho (by omega)
    have b3 : (3 : Int) < (n : Int) := by omega
    have q3 : ∀ (ds : List AV) (v : AV), ds.length = cs0.length → patch (pre ++ ds) (o + 3) [v] = some (pre ++ ds.set 3 v) := fun ds v hd => patch_app ho (by omega)
    have b4 : (4 : Int) < (n : Int) := by omega
    have q4 : ∀ (ds : List AV) (v : AV), ds.length = cs0.length → patch (pre ++ ds) (o + 4) [v] = some (pre ++ ds.set 4 v) := fun ds v hd => patch_app ho (by omega)
    simp (config := {contextual := true, implicitDefEqProofs := false, maxSteps := 4000000}) only [go_sem, ↓reduceIte, Bool.false_eq_true, Nat.reduceEqDiff, Nat.reduceAdd, Int.reduceLE, Int.reduceLT, Int.reduceEq, Int.reduceToNat, Int.toNat_natCast, Int.cast_ofNat_Int, Int.natCast_one, Nat.reduceMod, Nat.reduceDiv, UInt8.reduceToNat, Nat.reduceLT, e0, e1, e4, g0, g1, g2, g3, g4, mp0, ip0, sp0a, sp0b, sp0c, sp0d, sp0e, sp0f, mp1, ip1, sp1a, sp1b, sp1c, sp1d, sp1e, sp1f, y1, y2, b0, q0, b1, q1, b2, q2, b3, q3, b4, q4, Int.reduceSub, ws0, ws1, ws2, ws3, ws4, ws5, ws6, Nat_mul_one, List.length_set, hcl, lk, put_put, hmin, hmin2]
    rw [LeaveW_low hC]
    rw [← D]
    exact ⟨rfl, rfl⟩
  · subst hi6
    have hu8 : u < 10 ^ 6 := by
      rw [hN.val, Nat.div_lt_iff_lt_mul (Nat.pow_pos (by decide)), ← Nat.pow_add, show 6 + (n - 6) = n by omega]; exact hxn
    simp only [Nat.reducePow] at hu8
    have g0 := wrap32 (n := u) (by omega)
    have g1 : evBin .quo (.int .u32 (u : Int)) (.int .u32 10000) = some (.int .u32 ((u / 10000 : Nat) : Int)) := quo32 u 10000 (by omega) (by decide)
    have g2 : evBin .rem (.int .u32 (u : Int)) (.int .u32 10000) = some (.int .u32 ((u % 10000 : Nat) : Int)) := rem32 u 10000 (by decide)
    obtain ⟨a, ha⟩ : ∃ a, u % 10000 = a := ⟨_, rfl⟩
    rw [ha] at g2
    have g3 : evBin .quo (.int .u32 (a : Int)) (.int .u32 100) = some (.int .u32 ((a / 100 : Nat) : Int)) := quo32 a 100 (by omega) (by decide)
    have g4 : evBin .rem (.int .u32 (a : Int)) (.int .u32 100) = some (.int .u32 ((a % 100 : Nat) : Int)) := rem32 a 100 (by decide)
    obtain ⟨p1, hp1⟩ : ∃ b, a / 100 = b := ⟨_, rfl⟩
    obtain ⟨p0, hp0⟩ : ∃ b, a % 100 = b := ⟨_, rfl⟩
    rw [hp1] at g3
    rw [hp0] at g4
    obtain ⟨sp0a, sp0b, sp0c, sp0d, sp0e, sp0f⟩ := small_rules p0 (by omega)
    have mp0 := dbl32 p0 (by omega)
    have ip0 := inc32 p0 (by omega)
    simp only [smalls, smallsT] at sp0a sp0b
    obtain ⟨sp1a, sp1b, sp1c, sp1d, sp1e, sp1f⟩ := small_rules p1 (by omega)
    have mp1 := dbl32 p1 (by omega)
    have ip1 := inc32 p1 (by omega)
    simp only [smalls, smallsT] at sp1a sp1b
    have N1 := NB.two (i := 4) hN (by omega) hn (v := .int .u8 ((48 + p0 % 10 : Nat) : Int)) (w := .int .u8 ((48 + p0 / 10 : Nat) : Int)) (by congr 3; omega) (by congr 3; omega)
    have N2 := NB.two (i := 2) N1 (by omega) hn (v := .int .u8 ((48 + p1 % 10 : Nat) : Int)) (w := .int .u8 ((48 + p1 / 10 : Nat) : Int)) (by congr 3; omega) (by congr 3; omega)
    rw [show u / 100 / 100 = u / 10000 by omega] at N2
    obtain ⟨v1, hv1⟩ : ∃ b, u / 10000 = b := ⟨_, rfl⟩
    rw [hv1] at g1 N2
    have f1 : evBin .quo (.int .u32 (v1 : Int)) (.int .u32 100) = some (.int .u32 ((v1 / 100 : Nat) : Int)) := quo32 v1 100 (by omega) (by decide)
    have f2 : evBin .rem (.int .u32 (v1 : Int)) (.int .u32 100) = some (.int .u32 ((v1 % 100 : Nat) : Int)) := rem32 v1 100 (by decide)
    obtain ⟨p2, hp2⟩ : ∃ b, v1 % 100 = b := ⟨_, rfl⟩
    rw [hp2] at f2
    obtain ⟨sp2a, sp2b, sp2c, sp2d, sp2e, sp2f⟩ := small_rules p2 (by omega)
    have mp2 := dbl32 p2 (by omega)
    have ip2 := inc32 p2 (by omega)
    simp only [smalls, smallsT] at sp2a sp2b
    have N3 := NB.two (i := 0) N2 (by omega) hn (v := .int .u8 ((48 + p2 % 10 : Nat) : Int)) (w := .int .u8 ((48 + p2 / 10 : Nat) : Int)) (by congr 3; omega) (by congr 3; omega)
    obtain ⟨v2, hv2⟩ : ∃ b, v1 / 100 = b := ⟨_, rfl⟩
    rw [hv2] at f1 N3
    have D := NB.done N3 hn
    clear N3 hN
    have hmin : min L C = C := by omega
    have hmin2 : min C C = C := by omega
    have b0 : (0 : Int) < (n : Int) := by omega
    have q0 : ∀ (ds : List AV) (v : AV), ds.length = cs0.length → patch (pre ++ ds) o [v] = some (pre ++ ds.set 0 v) := fun ds v hd => patch_app (j := 0) ho (by omega)
    have b1 : (1 : Int) < (n : Int) := by omega
    have q1 : ∀ (ds : List AV) (v : AV), ds.length = cs0.length → patch (pre ++ ds) (o + 1) [v] = some (pre ++ ds.set 1 v) := fun ds v hd => patch_app ho (by omega)
    have b2 : (2 : Int) < (n : Int) := by omega
    have q2 : ∀ (ds : List AV) (v : AV), ds.length = cs0.length → patch (pre ++ ds) (o + 2) [v] = some (pre ++ ds.set 2 v) := fun ds v hd => patch_app ho (by omega)
    have b3 : (3 : Int) < (n : Int) := by omega
    have q3 : ∀ (ds : List AV) (v : AV), ds.length = cs0.length → patch (pre ++ ds) (o + 3) [v] = some (pre ++ ds.set 3 v) := fun ds v hd => patch_app ho (by omega)
    have b4 : (4 : Int) < (n : Int) := by omega
    have q4 : ∀ (ds : List AV) (v : AV), ds.length = cs0.length → patch (pre ++ ds) (o + 4) [v] = some (pre ++ ds.set 4 v) := fun ds v hd => patch_app ho (by omega)
    have b5 : (5 : Int) < (n : Int) := by omega
    have q5 : ∀ (ds : List AV) (v : AV), ds.length = cs0.length → patch (pre ++ ds) (o + 5) [v] = some (pre ++ ds.set 5 v) := fun ds v hd => patch_app ho (by omega)
    simp (config := {contextual := true, implicitDefEqProofs := false, maxSteps := 4000000}) only [go_sem, ↓reduceIte, Bool.false_eq_true, Nat.reduceEqDiff, Nat.reduceAdd, Int.reduceLE, Int.reduceLT, Int.reduceEq, Int.reduceToNat, Int.toNat_natCast, Int.cast_ofNat_Int, Int.natCast_one, Nat.reduceMod, Nat.reduceDiv, UInt8.reduceToNat, Nat.reduceLT, e0, e1, e4, g0, g1, g2, g3, g4, mp0, ip0, sp0a, sp0b, sp0c, sp0d, sp0e, sp0f, mp1, ip1, sp1a, sp1b, sp1c, sp1d, sp1e, sp1f, f1, f2, mp2, ip2, sp2a, sp2b, sp2c, sp2d, sp2e, sp2f, b0, q0, b1, q1, b2, q2, b3, q3, b4, q4, b5, q5, Int.reduceSub, ws0, ws1, ws2, ws3, ws4, ws5, ws6, Nat_mul_one, List.length_set, hcl, lk, put_put, hmin, hmin2]
    rw [LeaveW_low hC]
    rw [← D]
    exact ⟨rfl, rfl⟩
  · subst hi7
    have hu8 : u < 10 ^ 7 := by
      rw [hN.val, Nat.div_lt_iff_lt_mul (Nat.pow_pos (by decide)), ← Nat.pow_add, show 7 + (n - 7) = n by omega]; exact hxn
    simp only [Nat.reducePow] at hu8
    have g0 := wrap32 (n := u) (by omega)
    have g1 : evBin .quo (.int .u32 (u : Int)) (.int .u32 10000) = some (.int .u32 ((u / 10000 : Nat) : Int)) := quo32 u 10000 (by omega) (by decide)
    have g2 : evBin .rem (.int .u32 (u : Int)) (.int .u32 10000) = some (.int .u32 ((u % 10000 : Nat) : Int)) := rem32 u 10000 (by decide)
    obtain ⟨a, ha⟩ : ∃ a, u % 10000 = a := ⟨_, rfl⟩
    rw [ha] at g2
    have g3 : evBin .quo (.int .u32 (a : Int)) (.int .u32 100) = some (.int .u32 ((a / 100 : Nat) : Int)) := quo32 a 100 (by omega) (by decide)
    have g4 : evBin .rem (.int .u32 (a : Int)) (.int .u32 100) = some (.int .u32 ((a % 100 : Nat) : Int)) := rem32 a 100 (by decide)
    obtain ⟨p1, hp1⟩ : ∃ b, a / 100 = b := ⟨_, rfl⟩
    obtain ⟨p0, hp0⟩ : ∃ b, a % 100 = b := ⟨_, rfl⟩
    rw [hp1] at g3
    rw [hp0] at g4
    obtain ⟨sp0a, sp0b, sp0c, sp0d, sp0e, sp0f⟩ := small_rules p0 (by omega)
    have mp0 := dbl32 p0 (by omega)
    have ip0 := inc32 p0 (by omega)
    simp only [smalls, smallsT] at sp0a sp0b
    obtain ⟨sp1a, sp1b, sp1c, sp1d, sp1e, sp1f⟩ := small_rules p1 (by omega)
    have mp1 := dbl32 p1 (by omega)
    have ip1 := inc32 p1 (by omega)
    simp only [smalls, smallsT] at sp1a sp1b
    have N1 := NB.two (i := 5) hN (by omega) hn (v := .int .u8 ((48 + p0 % 10 : Nat) : Int)) (w := .int .u8 ((48 + p0 / 10 : Nat) : Int)) (by congr 3; omega) (by congr 3; omega)
    have N2 := NB.two (i := 3) N1 (by omega) hn (v := .int .u8 ((48 + p1 % 10 : Nat) : Int)) (w := .int .u8 ((48 + p1 / 10 : Nat) : Int)) (by congr 3; omega) (by congr 3; omega)
    rw [show u / 100 / 100 = u / 10000 by omega] at N2
    obtain ⟨v1, hv1⟩ : ∃ b, u / 10000 = b := ⟨_, rfl⟩
    rw [hv1] at g1 N2
    have f1 : evBin .quo (.int .u32 (v1 : Int)) (.int .u32 100) = some (.int .u32 ((v1 / 100 : Nat) : Int)) := quo32 v1 100 (by omega) (by decide)
    have f2 : evBin .rem (.int .u32 (v1 : Int)) (.int .u32 100) = some (.int .u32 ((v1 % 100 : Nat) : Int)) := rem32 v1 100 (by decide)
    obtain ⟨p2, hp2⟩ : ∃ b, v1 % 100 = b := ⟨_, rfl⟩
    rw [hp2] at f2
    obtain ⟨sp2a, sp2b, sp2c, sp2d, sp2e, sp2f⟩ := small_rules p2 (by omega)
    have mp2 := dbl32 p2 (by omega)
    have ip2 := inc32 p2 (by omega)
    simp only [smalls, smallsT] at sp2a sp2b
    have N3 := NB.two (i := 1) N2 (by omega) hn (v := .int .u8 ((48 + p2 % 10 : Nat) : Int)) (w := .int .u8 ((48 + p2 / 10 : Nat) : Int)) (by congr 3; omega) (by congr 3; omega)
    obtain ⟨v2, hv2⟩ : ∃ b, v1 / 100 = b := ⟨_, rfl⟩
    rw [hv2] at f1 N3
    have y1 : IntKind.u32.wrap (48 + (v2 : Int)) = ((48 + v2 : Nat) : Int) := wrap32 (n := 48 + v2) (by omega)
    have y2 : IntKind.u8.wrap ((48 + v2 : Nat) : Int) = ((48 + v2 : Nat) : Int) := by rw [wrap_u8]; omega
    have N4 := NB.one (i := 0) N3 (by omega) hn (v := .int .u8 ((48 + v2 : Nat) : Int)) (by congr 3; omega)
    have D := NB.done N4 hn
    clear N4 hN
    have hmin : min L C = C := by omega
    have hmin2 : min C C = C := by omega
    have b0 : (0 : Int) < (n : Int) := by omega
    have q0 : ∀ (ds : List AV) (v : AV), ds.length = cs0.length → patch (pre ++ ds) o [v] = some (pre ++ ds.set 0 v) := fun ds v hd => patch_app (j := 0) ho (by omega)
    have b1 : (1 : Int) < (n : Int) := by omega
    have q1 : ∀ (ds : List AV) (v : AV), ds.length = cs0.length → patch (pre ++ ds) (o + 1) [v] = some (pre ++ ds.set 1 v) := fun ds v hd => patch_app ho (by omega)
    have b2 : (2 : Int) < (n : Int) := by omega
    have q2 : ∀ (ds : List AV) (v : AV), ds.length = cs0.length → patch (pre ++ ds) (o + 2) [v] = some (pre ++ ds.set 2 v) := fun ds v hd => patch_app ho (by omega)
    have b3 : (3 : Int) < (n : Int) := by omega
    have q3 : ∀ (ds : List AV) (v : AV), ds.length = cs0.length → patch (pre ++ ds) (o + 3) [v] = some (pre ++ ds.set 3 v) := fun ds v hd => patch_app ho (by omega)
    have b4 : (4 : Int) < (n : Int) := by omega
    have q4 : ∀ (ds : List AV) (v : AV), ds.length = cs0.length → patch (pre ++ ds) (o + 4) [v] = some (pre ++ ds.set 4 v) := fun ds v hd => patch_app ho (by omega)
    have b5 : (5 : Int) < (n : Int) := by omega
    have q5 : ∀ (ds : List AV) (v : AV), ds.length = cs0.length → patch (pre ++ ds) (o + 5) [v] = some (pre ++ ds.set 5 v) := fun ds v hd => patch_app ho (by omega)
    have b6 : (6 : Int) < (n : Int) := by omega
    have q6 : ∀ (ds : List AV) (v : AV), ds.length = cs0.length → patch (pre ++ ds) (o + 6) [v] = some (pre ++ ds.set 6 v) := fun ds v hd => patch_app ho (by omega)
    simp (config := {contextual := true, implicitDefEqProofs := false, maxSteps := 4000000}) only [go_sem, ↓reduceIte, Bool.false_eq_true, Nat.reduceEqDiff, Nat.reduceAdd, Int.reduceLE, Int.reduceLT, Int.reduceEq, Int.reduceToNat, Int.toNat_natCast, Int.cast_ofNat_Int, Int.natCast_one, Nat.reduceMod, Nat.reduceDiv, UInt8.reduceToNat, Nat.reduceLT, e0, e1, e4, g0, g1, g2, g3, g4, mp0, ip0, sp0a, sp0b, sp0c, sp0d, sp0e, sp0f, mp1, ip1, sp1a, sp1b, sp1c, sp1d, sp1e, sp1f, f1, f2, mp2, ip2, sp2a, sp2b, sp2c, sp2d, sp2e, sp2f, y1, y2, b0, q0, b1, q1, b2, q2, b3, q3, b4, q4, b5, q5, b6, q6, Int.reduceSub, ws0, ws1, ws2, ws3, ws4, ws5, ws6, Nat_mul_one, List.length_set, hcl, lk, put_put, hmin, hmin2]
    rw [LeaveW_low hC]
    rw [← D]
    exact ⟨rfl, rfl⟩
end T01

/- FormatUint and FormatInt at base 10. -/
namespace T01
open Go Fw Go.Proofs
set_option maxRecDepth 100000
set_option maxHeartbeats 4000000
set_option linter.unusedSimpArgs false
set_option linter.unusedVariables false
def decB (x n : Nat) : List UInt8 := (List.range n).map fun j => UInt8.ofNat (48 + x / 10 ^ (n - 1 - j) % 10)
/-- A number's decimal numeral. -/
def dec (x : Nat) : List UInt8 := if x = 0 then [48] else decB x (nd x)
def smallsA : List UInt8 := [48, 49, 50, 51, 52, 53, 54, 55, 56, 57, 97, 98, 99, 100, 101, 102, 103, 104, 105, 106, 107, 108, 109, 110, 111, 112, 113, 114, 115, 116, 117, 118, 119, 120, 121, 122]
theorem small_1 : ∀ x : Fin 10, cut smallsA (x.val : Int) ((x.val + 1 : Nat) : Int) = dec x.val := by decide +kernel
theorem small_2 : ∀ x : Fin 100, 10 ≤ x.val → cut smalls ((x.val * 2 : Nat) : Int) ((x.val * 2 + 2 : Nat) : Int) = dec x.val := by decide +kernel
theorem c62 (x : Nat) (hx : x < 100) (s : St) (K : AV → St → Prop) : CallW cx 62 [.int .i64 (x : Int)] s K = K (.str (dec x)) s := by
  refine CallW.eq (CallW.fn' (fn := ir62) rfl rfl (by kernel_rfl) ir62.eq_1 ?_) K
  by_cases h : x < 10
  · have d1 : decide ((x : Int) < 10) = true := by simp; omega
    have w1 : IntKind.i64.wrap ((x : Int) + 1) = ((x + 1 : Nat) : Int) := by rw [wrap_i64 (by omega) (by omega)]; rfl
    have e := small_1 ⟨x, h⟩
    simp only [smallsA] at e
    simp (config := {contextual := true, implicitDefEqProofs := false, maxSteps := 4000000}) only [go_sem, ↓reduceIte, Bool.false_eq_true, Nat.reduceEqDiff, Nat.reduceAdd, Int.reduceLE, Int.reduceLT, Int.reduceEq, Int.reduceToNat, Int.toNat_natCast, Int.cast_ofNat_Int, Int.natCast_one, Nat.reduceMod, Nat.reduceDiv, UInt8.reduceToNat, Nat.reduceLT, d1, w1, e, slOk]
    omega
  · have d1 : decide ((x : Int) < 10) = false := by simp; omega
    have w1 : IntKind.i64.wrap ((x : Int) * 2) = ((x * 2 : Nat) : Int) := by rw [wrap_i64 (by omega) (by omega)]; rfl
    have w2 : IntKind.i64.wrap (((x * 2 : Nat) : Int) + 2) = ((x * 2 + 2 : Nat) : Int) := by rw [wrap_i64 (by omega) (by omega)]; rfl
    have e := small_2 ⟨x, hx⟩ (by show 10 ≤ x; omega)
    simp only [smalls] at e
    simp (config := {contextual := true, implicitDefEqProofs := false, maxSteps := 4000000}) only [go_sem, ↓reduceIte, Bool.false_eq_true, Nat.reduceEqDiff, Nat.reduceAdd, Int.reduceLE, Int.reduceLT, Int.reduceEq, Int.reduceToNat, Int.toNat_natCast, Int.cast_ofNat_Int, Int.natCast_one, Nat.reduceMod, Nat.reduceDiv, UInt8.reduceToNat, Nat.reduceLT, d1, w1, w2, e, slOk]
    omega
theorem digs_length (x n : Nat) : (digs x n).length = n := by simp [digs]
theorem bytesOf_map (f : Nat → Nat) : ∀ l : List Nat, bytesOf (l.map fun j => AV.int .u8 ((f j : Nat) : Int)) = some (l.map fun j => UInt8.ofNat (f j))
  | [] => rfl
  | j :: l => by simp only [List.map_cons, bytesOf, bytesOf_map f l, Option.map_some, Int.toNat_natCast]
theorem bytes_digs (x n : Nat) : bytesOf (digs x n) = some (decB x n) := bytesOf_map (fun j => 48 + x / 10 ^ (n - 1 - j) % 10) (List.range n)
theorem sub_digs (x n : Nat) (r : List AV) : sub (digs x n ++ r) 0 n = some (digs x n) := by
  unfold sub
  rw [if_pos (by simp [digs_length]), List.drop_zero, List.take_left' (digs_length x n)]
theorem sub_digs1 (x n : Nat) (p : AV) (r : List AV) : sub (p :: (digs x n ++ r)) 1 n = some (digs x n) := by
  unfold sub
  rw [if_pos (by simp [digs_length]; omega), List.drop_succ_cons, List.drop_zero, List.take_left' (digs_length x n)]
def zeros (n : Nat) : List AV := List.replicate n (.int .u8 0)
theorem c50 (x : Nat) (hx : x < 18446744073709551616) (s : St) (K : AV → St → Prop) : CallW cx 50 [.int .u64 (x : Int), .int .i64 10] s K = K (.str (dec x)) s := by
  refine CallW.eq (CallW.fn' (fn := ir50) rfl rfl (by kernel_rfl) ir50.eq_1 ?_) K
  by_cases h : x < 100
  · have d1 : decide ((x : Int) < 100) = true := by simp; omega
    have w1 : IntKind.i64.wrap (x : Int) = (x : Int) := wrap_i64 (by omega) (by omega)
    have k := fun st K => c62 x h st K
    simp (config := {contextual := true, implicitDefEqProofs := false, maxSteps := 4000000}) only [go_sem, ↓reduceIte, Bool.false_eq_true, Nat.reduceEqDiff, Nat.reduceAdd, Int.reduceLE, Int.reduceLT, Int.reduceEq, Int.reduceToNat, Int.toNat_natCast, Int.cast_ofNat_Int, Int.natCast_one, Nat.reduceMod, Nat.reduceDiv, UInt8.reduceToNat, Nat.reduceLT, d1, w1, k]
  · have d1 : decide ((x : Int) < 100) = false := by simp; omega
    obtain ⟨n1, n2, n3, n4⟩ := nd_facts hx (by omega)
    have k1 := fun st K => c63 x hx st K
    have hd : dec x = decB x (nd x) := by unfold dec; rw [if_neg (by omega)]
    rw [hd]
    generalize nd x = n at *
    have k2 := fun (st : St) (hlk : Fw.look s.next st.heap = some (.cells (some 80) ([] ++ zeros 24))) (hC : s.next < st.next) K => c64 x n hx n3 n1 (by omega) s.next (some 80) [] (zeros 24) 0 rfl (some 24) (by simp [zeros]; omega) st hlk hC K
    simp only [zeros, List.replicate, List.nil_append] at k2
    have b1 : (0 : Int) ≤ (n : Int) ∧ (n : Int) ≤ ((24 : Nat) : Int) := by omega
    have bd : bounds 24 none (some (.int .i64 (n : Int))) = some (0, n) := by simp only [bounds]; rw [if_pos b1, Int.toNat_natCast]
    simp (config := {contextual := true, implicitDefEqProofs := false, maxSteps := 4000000}) only [go_sem, ↓reduceIte, Bool.false_eq_true, Nat.reduceEqDiff, Nat.reduceAdd, Int.reduceLE, Int.reduceLT, Int.reduceEq, Int.reduceToNat, Int.toNat_natCast, Int.cast_ofNat_Int, Int.natCast_one, Nat.reduceMod, Nat.reduceDiv, UInt8.reduceToNat, Nat.reduceLT, d1, k1, sliceArr, bd, k2, cellsOf, b2sA, sub_digs, bytes_digs, Nat_mul_one, Nat.sub_zero]
theorem c41 (x : Nat) (hx : x < 18446744073709551616) (s : St) (K : AV → St → Prop) : CallW cx 41 [.int .u64 (x : Int), .int .i64 10] s K = K (.str (dec x)) s := by
  refine CallW.eq (CallW.fn' (fn := ir41) rfl rfl (by kernel_rfl) ir41.eq_1 ?_) K
  have k := fun st K => c50 x hx st K
  simp (config := {contextual := true, implicitDefEqProofs := false, maxSteps := 4000000}) only [go_sem, ↓reduceIte, Bool.false_eq_true, Nat.reduceEqDiff, Nat.reduceAdd, Int.reduceLE, Int.reduceLT, Int.reduceEq, Int.reduceToNat, Int.toNat_natCast, Int.cast_ofNat_Int, Int.natCast_one, Nat.reduceMod, Nat.reduceDiv, UInt8.reduceToNat, Nat.reduceLT, k]
theorem c55 (x : Nat) (hx : x < 9223372036854775808) (s : St) (K : AV → St → Prop) : CallW cx 55 [.int .i64 (x : Int), .int .i64 10] s K = K (.str (dec x)) s := by
  refine CallW.eq (CallW.fn' (fn := ir55) rfl rfl (by kernel_rfl) ir55.eq_1 ?_) K
  have d0 : decide ((0 : Int) ≤ (x : Int)) = true := decide_eq_true (by omega)
  by_cases h : x < 100
  · have d1 : decide ((x : Int) < 100) = true := decide_eq_true (by omega)
    have k := fun st K => c62 x h st K
    simp (config := {contextual := true, implicitDefEqProofs := false, maxSteps := 4000000}) only [go_sem, ↓reduceIte, Bool.false_eq_true, Nat.reduceEqDiff, Nat.reduceAdd, Int.reduceLE, Int.reduceLT, Int.reduceEq, Int.reduceToNat, Int.toNat_natCast, Int.cast_ofNat_Int, Int.natCast_one, Nat.reduceMod, Nat.reduceDiv, UInt8.reduceToNat, Nat.reduceLT, d0, d1, k]
  · have d1 : decide ((x : Int) < 100) = false := decide_eq_false (by omega)
    have d2 : decide ((x : Int) < 0) = false := decide_eq_false (by omega)
    have w1 : IntKind.u64.wrap (x : Int) = (x : Int) := by rw [wrap_u64]; omega
    obtain ⟨n1, n2, n3, n4⟩ := nd_facts (x := x) (by omega) (by omega)
    have k1 := fun st K => c63 x (by omega) st K
    have hd : dec x = decB x (nd x) := by unfold dec; rw [if_neg (by omega)]
    rw [hd]
    generalize nd x = n at *
    have w2 : IntKind.i64.wrap (1 + (n : Int)) = ((1 + n : Nat) : Int) := by rw [wrap_i64 (by omega) (by omega)]; rfl
    have k2 := fun (st : St) (hlk : Fw.look s.next st.heap = some (.cells (some 80) ([.int .u8 0] ++ zeros 23))) (hC : s.next < st.next) K => c64 x n (by omega) n3 n1 (by omega) s.next (some 80) [.int .u8 0] (zeros 23) 1 rfl (some 23) (by simp [zeros]; omega) st hlk hC K
    simp only [zeros, List.replicate, List.nil_append, List.cons_append] at k2
    have b1 : (0 : Int) ≤ ((1 + n : Nat) : Int) ∧ ((1 + n : Nat) : Int) ≤ ((24 : Nat) : Int) := by omega
    have b2 : (0 : Int) ≤ 1 ∧ (1 : Int) ≤ ((1 + n : Nat) : Int) := by omega
    have bd : bounds 24 (some (.int .i64 1)) (some (.int .i64 ((1 + n : Nat) : Int))) = some (1, 1 + n) := by simp only [bounds]; rw [if_pos b1, if_pos b2, Int.toNat_natCast]; rfl
    have e1 : 1 + n - 1 = n := by omega
    simp (config := {contextual := true, implicitDefEqProofs := false, maxSteps := 4000000}) only [go_sem, ↓reduceIte, Bool.false_eq_true, Nat.reduceEqDiff, Nat.reduceAdd, Int.reduceLE, Int.reduceLT, Int.reduceEq, Int.reduceToNat, Int.toNat_natCast, Int.cast_ofNat_Int, Int.natCast_one, Nat.reduceMod, Nat.reduceDiv, UInt8.reduceToNat, Nat.reduceLT, d0, d1, d2, w1, w2, k1, sliceArr, bd, k2, cellsOf, b2sA, sub_digs1, bytes_digs, Nat_mul_one, Nat.reduceSub, e1]
theorem c43 (x : Nat) (hx : x < 9223372036854775808) (s : St) (K : AV → St → Prop) : CallW cx 43 [.int .i64 (x : Int), .int .i64 10] s K = K (.str (dec x)) s := by
  refine CallW.eq (CallW.fn' (fn := ir43) rfl rfl (by kernel_rfl) ir43.eq_1 ?_) K
  have k := fun st K => c55 x hx st K
  simp (config := {contextual := true, implicitDefEqProofs := false, maxSteps := 4000000}) only [go_sem, ↓reduceIte, Bool.false_eq_true, Nat.reduceEqDiff, Nat.reduceAdd, Int.reduceLE, Int.reduceLT, Int.reduceEq, Int.reduceToNat, Int.toNat_natCast, Int.cast_ofNat_Int, Int.natCast_one, Nat.reduceMod, Nat.reduceDiv, UInt8.reduceToNat, Nat.reduceLT, k]
end T01
