/- Parts of the proof, one behind the other. -/
import Derived.Test.YtljlkedecdgimaaGreatDoorK17a
import Derived.Test.YtljlkedecdgimaaGreatDoorK17d
import Derived.Test.YtljlkedecdgimaaGreatDoorFwX
import Derived.Test.YtljlkedecdgimaaGreatDoorK17t
set_option linter.unusedSimpArgs false
set_option linter.unusedVariables false
/- Trim at a byte. -/
namespace T17
open Go Fw Go.Proofs
set_option maxRecDepth 100000
set_option linter.unusedSimpArgs false
set_option linter.unusedVariables false
/-- A text without the bytes at its end that meet p. -/
def trimR (p : UInt8 → Bool) (a : List UInt8) : List UInt8 := (a.reverse.dropWhile p).reverse
theorem trimR_nil (p : UInt8 → Bool) : trimR p [] = [] := rfl
theorem trimR_snoc (p : UInt8 → Bool) (a : List UInt8) (b : UInt8) : trimR p (a ++ [b]) = if p b then trimR p a else a ++ [b] := by
  unfold trimR; rw [List.reverse_append, List.reverse_singleton, List.singleton_append, List.dropWhile_cons]
  split
  · rfl
  · simp
theorem last_at (a : List UInt8) (b : UInt8) : (a ++ [b]).getD a.length 0 = b := by simp [List.getD]
theorem take_last (a : List UInt8) (b : UInt8) : (a ++ [b]).take a.length = a := by simp
theorem wrap_pred {i : Nat} (h : i < 9223372036854775807) : IntKind.i64.wrap (((i + 1 : Nat) : Int) - 1) = (i : Int) := by rw [wrap_i64 (by omega) (by omega)]; omega
theorem l68 (c : UInt8) (st : St) (Q : Sig → FE → St → Prop) : ∀ (n : Nat) (a : List UInt8) (e : FE), a.length = n → a.length ≤ 4611686018427387904 → e 0 = .str a → e 1 = .int .u8 c.toNat →
    (∀ e', e' 0 = .str (trimR (fun b => decide (b = c)) a) → Q (.exit 0) e' st) → WLoop cx ir68L0 e st Q
  | 0, a, e, hn, hl, h0, h1, hQ => by
    refine WLoop.rnd (c := _) ir68L0.eq_1 ?_
    have ha : a = [] := List.length_eq_zero_iff.1 hn
    subst ha
    simp (config := {contextual := true, implicitDefEqProofs := false, maxSteps := 4000000}) only [go_sem, ↓reduceIte, Bool.false_eq_true, Nat.reduceEqDiff, Nat.reduceAdd, Int.reduceLE, Int.reduceLT, Int.reduceEq, Int.reduceToNat, Int.toNat_natCast, Int.cast_ofNat_Int, Int.natCast_one, Nat.reduceMod, Nat.reduceDiv, UInt8.reduceToNat, Nat.reduceLT, h0, h1]
    exact hQ _ h0
  | n + 1, a, e, hn, hl, h0, h1, hQ => by
    refine WLoop.rnd (c := _) ir68L0.eq_1 ?_
    obtain ⟨b, x, rfl⟩ : ∃ b x, a = b ++ [x] := by
      rcases List.eq_nil_or_concat a with rfl | ⟨b, x, rfl⟩
      · simp at hn
      · exact ⟨b, x, by simp⟩
    have hlen : (b ++ [x]).length = b.length + 1 := by simp
    have d1 : decide ((0 : Int) < ((b.length + 1 : Nat) : Int)) = true := decide_eq_true (by omega)
    have w1 := wrap_pred (i := b.length) (by rw [hlen] at hl; omega)
    have b1 : (0 : Int) ≤ (b.length : Int) := by omega
    have b2 : (b.length : Int) < ((b.length + 1 : Nat) : Int) := by omega
    have b3 : (b.length : Int) ≤ ((b.length + 1 : Nat) : Int) := by omega
    rw [trimR_snoc] at hQ
    by_cases hx : x = c
    · have d2 : decide (((x.toNat : Nat) : Int) = ((c.toNat : Nat) : Int)) = true := by rw [hx]; simp
      rw [if_pos (by simpa using hx)] at hQ
      simp (config := {contextual := true, implicitDefEqProofs := false, maxSteps := 4000000}) only [go_sem, ↓reduceIte, Bool.false_eq_true, Nat.reduceEqDiff, Nat.reduceAdd, Int.reduceLE, Int.reduceLT, Int.reduceEq, Int.reduceToNat, Int.toNat_natCast, Int.cast_ofNat_Int, Int.natCast_one, Nat.reduceMod, Nat.reduceDiv, UInt8.reduceToNat, Nat.reduceLT, h0, h1, hlen, d1, w1, b1, b2, b3, last_at, d2, take_last]
      exact l68 c st Q n b _ (by rw [hlen] at hn; omega) (by rw [hlen] at hl; omega) rfl h1 hQ
    · have d2 : decide (((x.toNat : Nat) : Int) = ((c.toNat : Nat) : Int)) = false := by
        simp only [decide_eq_false_iff_not]; intro h; exact hx (byte_eq h)
      rw [if_neg (by simpa using hx)] at hQ
      simp (config := {contextual := true, implicitDefEqProofs := false, maxSteps := 4000000}) only [go_sem, ↓reduceIte, Bool.false_eq_true, Nat.reduceEqDiff, Nat.reduceAdd, Int.reduceLE, Int.reduceLT, Int.reduceEq, Int.reduceToNat, Int.toNat_natCast, Int.cast_ofNat_Int, Int.natCast_one, Nat.reduceMod, Nat.reduceDiv, UInt8.reduceToNat, Nat.reduceLT, h0, h1, hlen, d1, w1, b1, b2, b3, last_at, d2, take_last]
      exact hQ _ h0
theorem c68 (a : List UInt8) (ha : a.length ≤ 4611686018427387904) (c : UInt8) (s : St) (K : AV → St → Prop) : CallW cx 68 [.str a, .int .u8 c.toNat] s K = K (.str (trimR (fun b => decide (b = c)) a)) s := by
  refine CallW.eq (CallW.fn' (fn := ir68) rfl rfl (by kernel_rfl) ir68.eq_1 ?_) K
  simp (config := {contextual := true, implicitDefEqProofs := false, maxSteps := 4000000}) only [go_sem, ↓reduceIte, Bool.false_eq_true, Nat.reduceEqDiff, Nat.reduceAdd, Int.reduceLE, Int.reduceLT, Int.reduceEq, Int.reduceToNat, Int.toNat_natCast, Int.cast_ofNat_Int, Int.natCast_one, Nat.reduceMod, Nat.reduceDiv, UInt8.reduceToNat, Nat.reduceLT]
  refine l68 c _ _ _ a _ rfl ha rfl rfl ?_
  intro e' h
  simp (config := {contextual := true, implicitDefEqProofs := false, maxSteps := 4000000}) only [go_sem, ↓reduceIte, Bool.false_eq_true, Nat.reduceEqDiff, Nat.reduceAdd, Int.reduceLE, Int.reduceLT, Int.reduceEq, Int.reduceToNat, Int.toNat_natCast, Int.cast_ofNat_Int, Int.natCast_one, Nat.reduceMod, Nat.reduceDiv, UInt8.reduceToNat, Nat.reduceLT, h]
theorem c54 (a : List UInt8) (ha : a.length ≤ 4611686018427387904) (c : UInt8) (hc : c.toNat < 128) (s : St) (K : AV → St → Prop) : CallW cx 54 [.str a, .str [c]] s K = K (.str (trimR (fun b => decide (b = c)) a)) s := by
  refine CallW.eq (CallW.fn' (fn := ir54) rfl rfl (by kernel_rfl) ir54.eq_1 ?_) K
  have k := fun st K => c68 a ha c st K
  have d1 : decide (((c.toNat : Nat) : Int) < 128) = true := by simp; omega
  by_cases h : a = []
  · subst h
    simp (config := {contextual := true, implicitDefEqProofs := false, maxSteps := 4000000}) only [go_sem, ↓reduceIte, Bool.false_eq_true, Nat.reduceEqDiff, Nat.reduceAdd, Int.reduceLE, Int.reduceLT, Int.reduceEq, Int.reduceToNat, Int.toNat_natCast, Int.cast_ofNat_Int, Int.natCast_one, Nat.reduceMod, Nat.reduceDiv, UInt8.reduceToNat, Nat.reduceLT, decide_eq_true (Eq.refl ([] : List UInt8)), trimR_nil]
  · have d2 : decide (a = []) = false := by simpa using h
    have d3 : decide ([c] = []) = false := by simp
    simp (config := {contextual := true, implicitDefEqProofs := false, maxSteps := 4000000}) only [go_sem, ↓reduceIte, Bool.false_eq_true, Nat.reduceEqDiff, Nat.reduceAdd, Int.reduceLE, Int.reduceLT, Int.reduceEq, Int.reduceToNat, Int.toNat_natCast, Int.cast_ofNat_Int, Int.natCast_one, Nat.reduceMod, Nat.reduceDiv, UInt8.reduceToNat, Nat.reduceLT, k, d1, d2, d3]
end T17

/- Words of 64 bits: how many bits they take. -/
namespace T17
open Go Fw Go.Proofs
set_option maxRecDepth 100000
set_option linter.unusedSimpArgs false
set_option linter.unusedVariables false
theorem wrapN (n : Nat) : IntKind.u64.wrap (n : Int) = ((n % 18446744073709551616 : Nat) : Int) := by rw [wrap_u64]; omega
theorem addC (a b : Nat) : (a : Int) + (b : Int) = ((a + b : Nat) : Int) := rfl
theorem mulC (a b : Nat) : (a : Int) * (b : Int) = ((a * b : Nat) : Int) := rfl
theorem shr_c (x : Nat) (c : Nat) (hc : c ≤ 64) : evBin .shr (.int .u64 (x : Int)) (.int .u64 (c : Int)) = some (.int .u64 ((x / 2 ^ c : Nat) : Int)) := by
  rw [bin_shr, if_neg (by omega)]
  congr 2
  have h : min (c : Int).toNat IntKind.u64.bits = c := by rw [Int.toNat_natCast]; exact Nat.min_eq_left hc
  rw [h, Int.fdiv_eq_ediv_of_nonneg _ (Int.pow_nonneg (by decide))]
  norm_cast
theorem shr_32 (x : Nat) : evBin .shr (.int .u64 (x : Int)) (.int .u64 32) = some (.int .u64 ((x / 4294967296 : Nat) : Int)) := shr_c x 32 (by decide)
theorem shr_16 (x : Nat) : evBin .shr (.int .u64 (x : Int)) (.int .u64 16) = some (.int .u64 ((x / 65536 : Nat) : Int)) := shr_c x 16 (by decide)
theorem shr_8 (x : Nat) : evBin .shr (.int .u64 (x : Int)) (.int .u64 8) = some (.int .u64 ((x / 256 : Nat) : Int)) := shr_c x 8 (by decide)
def lenU (x : Nat) : Nat := if x = 0 then 0 else x.log2 + 1
theorem lenU_lt (x : Nat) : x < 2 ^ lenU x := by
  unfold lenU; split
  · subst x; decide
  · rename_i h; exact (Nat.log2_lt h).1 (Nat.lt_succ_self _)
theorem lenU_le (x : Nat) (h : 0 < x) : 2 ^ (lenU x - 1) ≤ x := by
  unfold lenU; rw [if_neg (by omega)]; exact (Nat.le_log2 (by omega)).1 (Nat.le_refl _)
def len8 : List UInt8 := [0, 1, 2, 2, 3, 3, 3, 3, 4, 4, 4, 4, 4, 4, 4, 4, 5, 5, 5, 5, 5, 5, 5, 5, 5, 5, 5, 5, 5, 5, 5, 5, 6, 6, 6, 6, 6, 6, 6, 6, 6, 6, 6, 6, 6, 6, 6, 6, 6, 6, 6, 6, 6, 6, 6, 6, 6, 6, 6, 6, 6, 6, 6, 6, 7, 7, 7, 7, 7, 7, 7, 7, 7, 7, 7, 7, 7, 7, 7, 7, 7, 7, 7, 7, 7, 7, 7, 7, 7, 7, 7, 7, 7, 7, 7, 7, 7, 7, 7, 7, 7, 7, 7, 7, 7, 7, 7, 7, 7, 7, 7, 7, 7, 7, 7, 7, 7, 7, 7, 7, 7, 7, 7, 7, 7, 7, 7, 7, 8, 8, 8, 8, 8, 8, 8, 8, 8, 8, 8, 8, 8, 8, 8, 8, 8, 8, 8, 8, 8, 8, 8, 8, 8, 8, 8, 8, 8, 8, 8, 8, 8, 8, 8, 8, 8, 8, 8, 8, 8, 8, 8, 8, 8, 8, 8, 8, 8, 8, 8, 8, 8, 8, 8, 8, 8, 8, 8, 8, 8, 8, 8, 8, 8, 8, 8, 8, 8, 8, 8, 8, 8, 8, 8, 8, 8, 8, 8, 8, 8, 8, 8, 8, 8, 8, 8, 8, 8, 8, 8, 8, 8, 8, 8, 8, 8, 8, 8, 8, 8, 8, 8, 8, 8, 8, 8, 8, 8, 8, 8, 8, 8, 8, 8, 8, 8, 8, 8, 8, 8, 8, 8, 8, 8, 8, 8, 8]
theorem len8_get : ∀ x : Fin 256, (len8.getD x.val 0).toNat = lenU x.val := by decide +kernel
theorem lenU_div (x k : Nat) (h : 2 ^ k ≤ x) : lenU x = lenU (x / 2 ^ k) + k := by
  have h1 : 0 < x := Nat.lt_of_lt_of_le (Nat.two_pow_pos k) h
  have h2 : 0 < x / 2 ^ k := Nat.div_pos h (Nat.two_pow_pos k)
  unfold lenU
  rw [if_neg (by omega), if_neg (by omega)]
  have a1 : 2 ^ (x / 2 ^ k).log2 ≤ x / 2 ^ k := (Nat.le_log2 (by omega)).1 (Nat.le_refl _)
  have a2 : x / 2 ^ k < 2 ^ ((x / 2 ^ k).log2 + 1) := (Nat.log2_lt (by omega)).1 (Nat.lt_succ_self _)
  generalize (x / 2 ^ k).log2 = m at *
  rw [Nat.le_div_iff_mul_le (Nat.two_pow_pos k), ← Nat.pow_add] at a1
  rw [Nat.div_lt_iff_lt_mul (Nat.two_pow_pos k), ← Nat.pow_add] at a2
  have b1 := (Nat.le_log2 (show x ≠ 0 by omega)).2 a1
  have b2 := (Nat.log2_lt (show x ≠ 0 by omega)).2 a2
  omega
theorem len_256 : ∀ x : Fin 256, lenU x.val ≤ 8 := by decide +kernel
theorem fin64 (c : Int) (z : Nat) (hc : 0 ≤ c) (hc2 : c ≤ 64) (hz : z < 256) : IntKind.i64.wrap (c + IntKind.i64.wrap (lenU z : Int)) = c + lenU z := by
  have := len_256 ⟨z, hz⟩
  simp only at this
  rw [wrap_i64 (x := (lenU z : Int)) (by omega) (by omega), wrap_i64 (by omega) (by omega)]
theorem wrap8 (z : Nat) (h : z < 256) : IntKind.u8.wrap (z : Int) = (z : Int) := by rw [wrap_u8]; omega
theorem c97 (x : Nat) (hx : x < 18446744073709551616) (s : St) (K : AV → St → Prop) : CallW cx 97 [.int .u64 (x : Int)] s K = K (.int .i64 (lenU x : Int)) s := by
  refine CallW.eq (CallW.fn' (fn := ir97) rfl rfl (by kernel_rfl) ir97.eq_1 ?_) K
  have hg : ∀ y : Nat, y < 256 → ((len8.getD y 0).toNat : Int) = (lenU y : Int) := fun y hy => by rw [len8_get ⟨y, hy⟩]
  simp only [len8] at hg
  by_cases h1 : 4294967296 ≤ x
  · have d1 : decide ((4294967296 : Int) ≤ (x : Int)) = true := by simp; omega
    have e1 := lenU_div x 32 (by omega)
    simp only [Nat.reducePow] at e1
    generalize hy : x / 4294967296 = y at *
    by_cases h16ya : 65536 ≤ y
    · have d16 : decide ((65536 : Int) ≤ (y : Int)) = true := by simp; omega
      have e16 := lenU_div y 16 (by omega)
      simp only [Nat.reducePow] at e16
      generalize h16y : y / 65536 = ya at *
      by_cases h8yab : 256 ≤ ya
      · have d8 : decide ((256 : Int) ≤ (ya : Int)) = true := by simp; omega
        have e8 := lenU_div ya 8 (by omega)
        simp only [Nat.reducePow] at e8
        generalize h8y : ya / 256 = yab at *
        simp (config := {contextual := true, implicitDefEqProofs := false, maxSteps := 4000000}) only [go_sem, ↓reduceIte, Bool.false_eq_true, Nat.reduceEqDiff, Nat.reduceAdd, Int.reduceLE, Int.reduceLT, Int.reduceEq, Int.reduceToNat, Int.toNat_natCast, Int.cast_ofNat_Int, Int.natCast_one, Nat.reduceMod, Nat.reduceDiv, UInt8.reduceToNat, Nat.reduceLT, shr_32, shr_16, shr_8, wrap8 yab (by omega), d1, hy, d16, h16y, d8, h8y]
        refine ⟨by omega, by omega, ?_⟩
        rw [hg yab (by omega)]
        exact congrArg (AV.int .i64) ((fin64 56 yab (by omega) (by omega) (by omega)).trans (by omega))
      · have d8 : decide ((256 : Int) ≤ (ya : Int)) = false := by simp; omega
        simp (config := {contextual := true, implicitDefEqProofs := false, maxSteps := 4000000}) only [go_sem, ↓reduceIte, Bool.false_eq_true, Nat.reduceEqDiff, Nat.reduceAdd, Int.reduceLE, Int.reduceLT, Int.reduceEq, Int.reduceToNat, Int.toNat_natCast, Int.cast_ofNat_Int, Int.natCast_one, Nat.reduceMod, Nat.reduceDiv, UInt8.reduceToNat, Nat.reduceLT, shr_32, shr_16, shr_8, wrap8 ya (by omega), d1, hy, d16, h16y, d8]
        refine ⟨by omega, by omega, ?_⟩
        rw [hg ya (by omega)]
        exact congrArg (AV.int .i64) ((fin64 48 ya (by omega) (by omega) (by omega)).trans (by omega))
    · have d16 : decide ((65536 : Int) ≤ (y : Int)) = false := by simp; omega
      by_cases h8yc : 256 ≤ y
      · have d8 : decide ((256 : Int) ≤ (y : Int)) = true := by simp; omega
        have e8 := lenU_div y 8 (by omega)
        simp only [Nat.reducePow] at e8
        generalize h8y : y / 256 = yc at *
        simp (config := {contextual := true, implicitDefEqProofs := false, maxSteps := 4000000}) only [go_sem, ↓reduceIte, Bool.false_eq_true, Nat.reduceEqDiff, Nat.reduceAdd, Int.reduceLE, Int.reduceLT, Int.reduceEq, Int.reduceToNat, Int.toNat_natCast, Int.cast_ofNat_Int, Int.natCast_one, Nat.reduceMod, Nat.reduceDiv, UInt8.reduceToNat, Nat.reduceLT, shr_32, shr_16, shr_8, wrap8 yc (by omega), d1, hy, d16, d8, h8y]
        refine ⟨by omega, by omega, ?_⟩
        rw [hg yc (by omega)]
        exact congrArg (AV.int .i64) ((fin64 40 yc (by omega) (by omega) (by omega)).trans (by omega))
      · have d8 : decide ((256 : Int) ≤ (y : Int)) = false := by simp; omega
        simp (config := {contextual := true, implicitDefEqProofs := false, maxSteps := 4000000}) only [go_sem, ↓reduceIte, Bool.false_eq_true, Nat.reduceEqDiff, Nat.reduceAdd, Int.reduceLE, Int.reduceLT, Int.reduceEq, Int.reduceToNat, Int.toNat_natCast, Int.cast_ofNat_Int, Int.natCast_one, Nat.reduceMod, Nat.reduceDiv, UInt8.reduceToNat, Nat.reduceLT, shr_32, shr_16, shr_8, wrap8 y (by omega), d1, hy, d16, d8]
        refine ⟨by omega, by omega, ?_⟩
        rw [hg y (by omega)]
        exact congrArg (AV.int .i64) ((fin64 32 y (by omega) (by omega) (by omega)).trans (by omega))
  · have d1 : decide ((4294967296 : Int) ≤ (x : Int)) = false := by simp; omega
    by_cases h16xa : 65536 ≤ x
    · have d16 : decide ((65536 : Int) ≤ (x : Int)) = true := by simp; omega
      have e16 := lenU_div x 16 (by omega)
      simp only [Nat.reducePow] at e16
      generalize h16y : x / 65536 = xa at *
      by_cases h8xab : 256 ≤ xa
      · have d8 : decide ((256 : Int) ≤ (xa : Int)) = true := by simp; omega
        have e8 := lenU_div xa 8 (by omega)
        simp only [Nat.reducePow] at e8
        generalize h8y : xa / 256 = xab at *
        simp (config := {contextual := true, implicitDefEqProofs := false, maxSteps := 4000000}) only [go_sem, ↓reduceIte, Bool.false_eq_true, Nat.reduceEqDiff, Nat.reduceAdd, Int.reduceLE, Int.reduceLT, Int.reduceEq, Int.reduceToNat, Int.toNat_natCast, Int.cast_ofNat_Int, Int.natCast_one, Nat.reduceMod, Nat.reduceDiv, UInt8.reduceToNat, Nat.reduceLT, shr_32, shr_16, shr_8, wrap8 xab (by omega), d1, d16, h16y, d8, h8y]
        refine ⟨by omega, by omega, ?_⟩
        rw [hg xab (by omega)]
        exact congrArg (AV.int .i64) ((fin64 24 xab (by omega) (by omega) (by omega)).trans (by omega))
      · have d8 : decide ((256 : Int) ≤ (xa : Int)) = false := by simp; omega
        simp (config := {contextual := true, implicitDefEqProofs := false, maxSteps := 4000000}) only [go_sem, ↓reduceIte, Bool.false_eq_true, Nat.reduceEqDiff, Nat.reduceAdd, Int.reduceLE, Int.reduceLT, Int.reduceEq, Int.reduceToNat, Int.toNat_natCast, Int.cast_ofNat_Int, Int.natCast_one, Nat.reduceMod, Nat.reduceDiv, UInt8.reduceToNat, Nat.reduceLT, shr_32, shr_16, shr_8, wrap8 xa (by omega), d1, d16, h16y, d8]
        refine ⟨by omega, by omega, ?_⟩
        rw [hg xa (by omega)]
        exact congrArg (AV.int .i64) ((fin64 16 xa (by omega) (by omega) (by omega)).trans (by omega))
    · have d16 : decide ((65536 : Int) ≤ (x : Int)) = false := by simp; omega
      by_cases h8xc : 256 ≤ x
      · have d8 : decide ((256 : Int) ≤ (x : Int)) = true := by simp; omega
        have e8 := lenU_div x 8 (by omega)
        simp only [Nat.reducePow] at e8
        generalize h8y : x / 256 = xc at *
        simp (config := {contextual := true, implicitDefEqProofs := false, maxSteps := 4000000}) only [go_sem, ↓reduceIte, Bool.false_eq_true, Nat.reduceEqDiff, Nat.reduceAdd, Int.reduceLE, Int.reduceLT, Int.reduceEq, Int.reduceToNat, Int.toNat_natCast, Int.cast_ofNat_Int, Int.natCast_one, Nat.reduceMod, Nat.reduceDiv, UInt8.reduceToNat, Nat.reduceLT, shr_32, shr_16, shr_8, wrap8 xc (by omega), d1, d16, d8, h8y]
        refine ⟨by omega, by omega, ?_⟩
        rw [hg xc (by omega)]
        exact congrArg (AV.int .i64) ((fin64 8 xc (by omega) (by omega) (by omega)).trans (by omega))
      · have d8 : decide ((256 : Int) ≤ (x : Int)) = false := by simp; omega
        simp (config := {contextual := true, implicitDefEqProofs := false, maxSteps := 4000000}) only [go_sem, ↓reduceIte, Bool.false_eq_true, Nat.reduceEqDiff, Nat.reduceAdd, Int.reduceLE, Int.reduceLT, Int.reduceEq, Int.reduceToNat, Int.toNat_natCast, Int.cast_ofNat_Int, Int.natCast_one, Nat.reduceMod, Nat.reduceDiv, UInt8.reduceToNat, Nat.reduceLT, shr_32, shr_16, shr_8, wrap8 x (by omega), d1, d16, d8]
        refine ⟨by omega, by omega, ?_⟩
        rw [hg x (by omega)]
        exact congrArg (AV.int .i64) ((fin64 0 x (by omega) (by omega) (by omega)).trans (by omega))
end T17

/- Decimal numerals of the library: numDigits, formatBase10, FormatUint, FormatInt at base 10. -/
namespace T17
open Go Fw Go.Proofs
set_option maxRecDepth 100000
set_option linter.unusedSimpArgs false
set_option linter.unusedVariables false
theorem c96 (n : Nat) (h : n ≤ 64) (s : St) (K : AV → St → Prop) : CallW cx 96 [.int .i64 (n : Int)] s K = K (.int .i64 ((n * 78913 / 262144 : Nat) : Int)) s := by
  refine CallW.eq (CallW.fn' (fn := ir96) rfl rfl (by kernel_rfl) ir96.eq_1 ?_) K
  have e1 : IntKind.i64.wrap ((n : Int) * 78913) = ((n * 78913 : Nat) : Int) := by rw [wrap_i64 (by omega) (by omega)]; omega
  have e2 : evBin .shr (.int .i64 ((n * 78913 : Nat) : Int)) (.int .u64 18) = some (.int .i64 ((n * 78913 / 262144 : Nat) : Int)) := by
    rw [bin_shr, if_neg (by omega)]
    congr 2
    have h : min (18 : Int).toNat IntKind.i64.bits = 18 := rfl
    rw [h, Int.fdiv_eq_ediv_of_nonneg _ (Int.pow_nonneg (by decide))]
    norm_cast
  simp (config := {contextual := true, implicitDefEqProofs := false, maxSteps := 4000000}) only [go_sem, ↓reduceIte, Bool.false_eq_true, Nat.reduceEqDiff, Nat.reduceAdd, Int.reduceLE, Int.reduceLT, Int.reduceEq, Int.reduceToNat, Int.toNat_natCast, Int.cast_ofNat_Int, Int.natCast_one, Nat.reduceMod, Nat.reduceDiv, UInt8.reduceToNat, Nat.reduceLT, e1, e2]
theorem c98 (b : Bool) (s : St) (K : AV → St → Prop) : CallW cx 98 [.bool b] s K = K (.int .i64 (if b then 1 else 0)) s := by
  refine CallW.eq (CallW.fn' (fn := ir98) rfl rfl (by kernel_rfl) ir98.eq_1 ?_) K
  cases b
  · simp (config := {contextual := true, implicitDefEqProofs := false, maxSteps := 4000000}) only [go_sem, ↓reduceIte, Bool.false_eq_true, Nat.reduceEqDiff, Nat.reduceAdd, Int.reduceLE, Int.reduceLT, Int.reduceEq, Int.reduceToNat, Int.toNat_natCast, Int.cast_ofNat_Int, Int.natCast_one, Nat.reduceMod, Nat.reduceDiv, UInt8.reduceToNat, Nat.reduceLT]
  · simp (config := {contextual := true, implicitDefEqProofs := false, maxSteps := 4000000}) only [go_sem, ↓reduceIte, Bool.false_eq_true, Nat.reduceEqDiff, Nat.reduceAdd, Int.reduceLE, Int.reduceLT, Int.reduceEq, Int.reduceToNat, Int.toNat_natCast, Int.cast_ofNat_Int, Int.natCast_one, Nat.reduceMod, Nat.reduceDiv, UInt8.reduceToNat, Nat.reduceLT]
theorem leNN (a b : Nat) : ((a : Int) ≤ (b : Int)) = (a ≤ b) := by apply propext; omega
def pow10s : List Nat := [1, 10, 100, 1000, 10000, 100000, 1000000, 10000000, 100000000, 1000000000, 10000000000, 100000000000, 1000000000000, 10000000000000, 100000000000000, 1000000000000000, 10000000000000000, 100000000000000000, 1000000000000000000, 10000000000000000000]
theorem pow10s_get : ∀ i : Fin 20, pow10s.getD i.val 0 = 10 ^ i.val := by decide +kernel
theorem log_facts : ∀ l : Fin 65, l.val * 78913 / 262144 ≤ 19 ∧ (1 ≤ l.val → 10 ^ (l.val * 78913 / 262144) ≤ 10 * 2 ^ (l.val - 1)) ∧ 2 ^ l.val ≤ 10 ^ (l.val * 78913 / 262144 + 1) := by decide +kernel
/-- How many digits a number has. -/
def nd (x : Nat) : Nat := lenU x * 78913 / 262144 + (if 10 ^ (lenU x * 78913 / 262144) ≤ x then 1 else 0)
theorem lenU_64 {x : Nat} (hx : x < 18446744073709551616) : lenU x ≤ 64 := by
  by_cases h : 0 < x
  · have h1 := lenU_le x h
    have h2 : lenU x - 1 < 64 := (Nat.pow_lt_pow_iff_right (by decide : 1 < 2)).1 (Nat.lt_of_le_of_lt h1 (by simpa using hx))
    omega
  · have : x = 0 := by omega
    subst this; decide
theorem nd_facts {x : Nat} (hx : x < 18446744073709551616) (h0 : 0 < x) : 1 ≤ nd x ∧ nd x ≤ 20 ∧ x < 10 ^ nd x ∧ 10 ^ (nd x - 1) ≤ x := by
  have h1 := lenU_le x h0
  have h2 := lenU_lt x
  have h3 := lenU_64 hx
  have h4 : 1 ≤ lenU x := by unfold lenU; split <;> omega
  obtain ⟨f1, f2, f3⟩ := log_facts ⟨lenU x, by omega⟩
  simp only at f1 f2 f3
  have f2 := f2 h4
  unfold nd
  generalize lenU x * 78913 / 262144 = t at *
  generalize lenU x = l at *
  by_cases h : 10 ^ t ≤ x
  · rw [if_pos h]
    exact ⟨by omega, by omega, by omega, by simpa using h⟩
  · rw [if_neg h]
    have ht : t ≠ 0 := by intro e; subst e; simp at h; omega
    obtain ⟨u, rfl⟩ : ∃ u, t = u + 1 := ⟨t - 1, by omega⟩
    rw [Nat.pow_succ] at f2
    exact ⟨by omega, by omega, by simpa using h, by simp only [Nat.add_sub_cancel, Nat.add_zero]; omega⟩
theorem c81 (x : Nat) (hx : x < 18446744073709551616) (s : St) (K : AV → St → Prop) : CallW cx 81 [.int .u64 (x : Int)] s K = K (.int .i64 (nd x : Int)) s := by
  refine CallW.eq (CallW.fn' (fn := ir81) rfl rfl (by kernel_rfl) ir81.eq_1 ?_) K
  have h3 := lenU_64 hx
  have k1 := fun st K => c97 x hx st K
  have k2 := fun st K => c96 (lenU x) h3 st K
  obtain ⟨f1, f2, f3⟩ := log_facts ⟨lenU x, by omega⟩
  simp only at f1
  unfold nd
  generalize lenU x * 78913 / 262144 = t at *
  have hgl : cx.gl 1 = some (pows.map (AV.int .u64)) := rfl
  have hsub : sub (pows.map (AV.int .u64)) t 1 = some [.int .u64 ((10 ^ t : Nat) : Int)] := by
    have : ∀ i : Fin 20, sub (pows.map (AV.int .u64)) i.val 1 = some [.int .u64 ((pow10s.getD i.val 0 : Nat) : Int)] := by
      intro i
      have hl : ∀ i : Fin 20, (pows.map (AV.int .u64)).getD i.val AV.undef = .int .u64 ((pow10s.getD i.val 0 : Nat) : Int) := by
        intro i; match i with
        | ⟨0, _⟩ => rfl | ⟨1, _⟩ => rfl | ⟨2, _⟩ => rfl | ⟨3, _⟩ => rfl | ⟨4, _⟩ => rfl | ⟨5, _⟩ => rfl | ⟨6, _⟩ => rfl | ⟨7, _⟩ => rfl | ⟨8, _⟩ => rfl | ⟨9, _⟩ => rfl
        | ⟨10, _⟩ => rfl | ⟨11, _⟩ => rfl | ⟨12, _⟩ => rfl | ⟨13, _⟩ => rfl | ⟨14, _⟩ => rfl | ⟨15, _⟩ => rfl | ⟨16, _⟩ => rfl | ⟨17, _⟩ => rfl | ⟨18, _⟩ => rfl | ⟨19, _⟩ => rfl
        | ⟨n + 20, h⟩ => exact absurd h (by omega)
      rw [sub_one (show i.val < (pows.map (AV.int .u64)).length from i.isLt), hl]
    have := this ⟨t, by omega⟩
    rw [this, pow10s_get ⟨t, by omega⟩]
  have b1 : (0 : Int) ≤ (t : Int) := by omega
  have b2 : (t : Int) < 20 := by omega
  by_cases h : 10 ^ t ≤ x
  · have d1 : decide (10 ^ t ≤ x) = true := by simpa using h
    have w1 : IntKind.i64.wrap ((t : Int) + 1) = ((t + 1 : Nat) : Int) := by rw [wrap_i64 (by omega) (by omega)]; rfl
    rw [if_pos h]
    simp (config := {contextual := true, implicitDefEqProofs := false, maxSteps := 4000000}) only [go_sem, ↓reduceIte, Bool.false_eq_true, Nat.reduceEqDiff, Nat.reduceAdd, Int.reduceLE, Int.reduceLT, Int.reduceEq, Int.reduceToNat, Int.toNat_natCast, Int.cast_ofNat_Int, Int.natCast_one, Nat.reduceMod, Nat.reduceDiv, UInt8.reduceToNat, Nat.reduceLT, k1, k2, hgl, iaddrA, b1, b2, Nat_mul_one, hsub, c98, leNN, d1, w1]
  · have d1 : decide (10 ^ t ≤ x) = false := by simpa using h
    have w1 : IntKind.i64.wrap ((t : Int) + 0) = ((t : Nat) : Int) := by rw [wrap_i64 (by omega) (by omega)]; omega
    rw [if_neg h]
    simp (config := {contextual := true, implicitDefEqProofs := false, maxSteps := 4000000}) only [go_sem, ↓reduceIte, Bool.false_eq_true, Nat.reduceEqDiff, Nat.reduceAdd, Int.reduceLE, Int.reduceLT, Int.reduceEq, Int.reduceToNat, Int.toNat_natCast, Int.cast_ofNat_Int, Int.natCast_one, Nat.reduceMod, Nat.reduceDiv, UInt8.reduceToNat, Nat.reduceLT, k1, k2, hgl, iaddrA, b1, b2, Nat_mul_one, hsub, c98, leNN, d1, w1]
end T17

/- formatBase10 fills a buffer with digits. -/
namespace T17
open Go Fw Go.Proofs
set_option maxRecDepth 100000
set_option maxHeartbeats 4000000
set_option linter.unusedSimpArgs false
set_option linter.unusedVariables false

/- formatBase10 -/
def digC (x k : Nat) : AV := .int .u8 ((48 + x / 10 ^ k % 10 : Nat) : Int)
/-- The buffer while it is filled from behind: i places are left, u stands for what is left of x. -/
structure NB (x n : Nat) (cs0 : List AV) (i u : Nat) (cs : List AV) : Prop where
  len : cs.length = cs0.length
  low : ∀ j, i ≤ j → j < n → cs[j]? = some (digC x (n - 1 - j))
  high : ∀ j, n ≤ j → cs[j]? = cs0[j]?
  val : u = x / 10 ^ (n - i)
theorem NB.start {x n : Nat} {cs0 : List AV} : NB x n cs0 n x cs0 := ⟨rfl, fun j h1 h2 => absurd h1 (by omega), fun _ _ => rfl, by simp⟩
theorem NB.one {x n i u : Nat} {cs0 cs : List AV} (h : NB x n cs0 (i + 1) u cs) (hn : i + 1 ≤ n) (hl : n ≤ cs0.length) {v : AV} (hv : v = .int .u8 ((48 + u % 10 : Nat) : Int)) : NB x n cs0 i (u / 10) (cs.set i v) := by
  refine ⟨by rw [List.length_set]; exact h.len, fun j h1 h2 => ?_, fun j h1 => ?_, ?_⟩
  · by_cases hj : j = i
    · subst hj
      rw [List.getElem?_set_self (by rw [h.len]; omega), hv, h.val]
      unfold digC
      rw [show n - (j + 1) = n - 1 - j by omega]
    · rw [List.getElem?_set_ne (by omega)]
      exact h.low j (by omega) h2
  · rw [List.getElem?_set_ne (by omega)]; exact h.high j h1
  · rw [h.val, Nat.div_div_eq_div_mul, show n - i = (n - (i + 1)) + 1 by omega, Nat.pow_succ]
theorem NB.two {x n i u : Nat} {cs0 cs : List AV} (h : NB x n cs0 (i + 2) u cs) (hn : i + 2 ≤ n) (hl : n ≤ cs0.length) {v w : AV} (hv : v = .int .u8 ((48 + u % 10 : Nat) : Int)) (hw : w = .int .u8 ((48 + u / 10 % 10 : Nat) : Int)) : NB x n cs0 i (u / 100) ((cs.set (i + 1) v).set i w) := by
  have h1 := (NB.one (i := i + 1) h (by omega) hl hv).one (by omega) hl hw
  rw [Nat.div_div_eq_div_mul] at h1; exact h1
theorem NB.done {x n u : Nat} {cs0 cs : List AV} (h : NB x n cs0 0 u cs) (hl : n ≤ cs0.length) : cs = (List.range n).map (fun j => digC x (n - 1 - j)) ++ cs0.drop n := by
  apply List.ext_getElem?
  intro j
  by_cases hj : j < n
  · rw [h.low j (by omega) hj, List.getElem?_append_left (by simpa using hj), List.getElem?_map, List.getElem?_range hj]; rfl
  · rw [h.high j (by omega), List.getElem?_append_right (by simp; omega), List.getElem?_drop]
    congr 1; simp; omega
theorem patch_set {cs : List AV} {off : Nat} {v : AV} (h : off < cs.length) : patch cs off [v] = some (cs.set off v) := by
  unfold patch
  rw [if_pos (by simp; omega), List.set_eq_take_append_cons_drop, if_pos h]; simp
theorem patch_app {pre ds : List AV} {o j : Nat} {v : AV} (ho : pre.length = o) (h : j < ds.length) : patch (pre ++ ds) (o + j) [v] = some (pre ++ ds.set j v) := by
  rw [patch_set (by rw [List.length_append]; omega), List.set_append_right _ _ (by omega)]
  congr 3; omega
theorem put_put (i : Nat) (a b : AObj) : ∀ h : List (Nat × AObj), put i a (put i b h) = put i a h
  | [] => rfl
  | (j, p) :: h => by
    simp only [put]
    by_cases hj : j = i
    · simp only [hj, if_true, put]
    · simp only [hj, if_false, put, put_put i a b h]
theorem look_put {i : Nat} {a b : AObj} : ∀ {h : List (Nat × AObj)}, Fw.look i h = some a → Fw.look i (put i b h) = some b
  | [], h => by simp [Fw.look] at h
  | (j, p) :: h, hh => by
    simp only [Fw.look, put] at hh ⊢
    by_cases hj : j = i
    · simp only [hj, if_true, Fw.look]
    · simp only [hj, if_false, Fw.look] at hh ⊢; exact look_put hh
theorem put_same {i : Nat} {a : AObj} : ∀ {h : List (Nat × AObj)}, Fw.look i h = some a → put i a h = h
  | [], _ => rfl
  | (j, p) :: h, hh => by
    simp only [Fw.look, put] at hh ⊢
    by_cases hj : j = i
    · rw [if_pos hj, Option.some.injEq] at hh
      rw [if_pos hj, hh]
    · rw [if_neg hj] at hh
      rw [if_neg hj, put_same hh]
def smalls : List UInt8 := [48, 48, 48, 49, 48, 50, 48, 51, 48, 52, 48, 53, 48, 54, 48, 55, 48, 56, 48, 57, 49, 48, 49, 49, 49, 50, 49, 51, 49, 52, 49, 53, 49, 54, 49, 55, 49, 56, 49, 57, 50, 48, 50, 49, 50, 50, 50, 51, 50, 52, 50, 53, 50, 54, 50, 55, 50, 56, 50, 57, 51, 48, 51, 49, 51, 50, 51, 51, 51, 52, 51, 53, 51, 54, 51, 55, 51, 56, 51, 57, 52, 48, 52, 49, 52, 50, 52, 51, 52, 52, 52, 53, 52, 54, 52, 55, 52, 56, 52, 57, 53, 48, 53, 49, 53, 50, 53, 51, 53, 52, 53, 53, 53, 54, 53, 55, 53, 56, 53, 57, 54, 48, 54, 49, 54, 50, 54, 51, 54, 52, 54, 53, 54, 54, 54, 55, 54, 56, 54, 57, 55, 48, 55, 49, 55, 50, 55, 51, 55, 52, 55, 53, 55, 54, 55, 55, 55, 56, 55, 57, 56, 48, 56, 49, 56, 50, 56, 51, 56, 52, 56, 53, 56, 54, 56, 55, 56, 56, 56, 57, 57, 48, 57, 49, 57, 50, 57, 51, 57, 52, 57, 53, 57, 54, 57, 55, 57, 56, 57, 57]
def smallsT : List UInt8 := [48, 48, 49, 48, 50, 48, 51, 48, 52, 48, 53, 48, 54, 48, 55, 48, 56, 48, 57, 49, 48, 49, 49, 49, 50, 49, 51, 49, 52, 49, 53, 49, 54, 49, 55, 49, 56, 49, 57, 50, 48, 50, 49, 50, 50, 50, 51, 50, 52, 50, 53, 50, 54, 50, 55, 50, 56, 50, 57, 51, 48, 51, 49, 51, 50, 51, 51, 51, 52, 51, 53, 51, 54, 51, 55, 51, 56, 51, 57, 52, 48, 52, 49, 52, 50, 52, 51, 52, 52, 52, 53, 52, 54, 52, 55, 52, 56, 52, 57, 53, 48, 53, 49, 53, 50, 53, 51, 53, 52, 53, 53, 53, 54, 53, 55, 53, 56, 53, 57, 54, 48, 54, 49, 54, 50, 54, 51, 54, 52, 54, 53, 54, 54, 54, 55, 54, 56, 54, 57, 55, 48, 55, 49, 55, 50, 55, 51, 55, 52, 55, 53, 55, 54, 55, 55, 55, 56, 55, 57, 56, 48, 56, 49, 56, 50, 56, 51, 56, 52, 56, 53, 56, 54, 56, 55, 56, 56, 56, 57, 57, 48, 57, 49, 57, 50, 57, 51, 57, 52, 57, 53, 57, 54, 57, 55, 57, 56, 57, 57]
theorem smalls_hi : ∀ p : Fin 100, (smallsT.getD (2 * p.val) 0).toNat = 48 + p.val % 10 := by decide +kernel
theorem smalls_lo : ∀ p : Fin 100, (smalls.getD (2 * p.val) 0).toNat = 48 + p.val / 10 := by decide +kernel
theorem wrap_u32 (n : Int) : IntKind.u32.wrap n = n % 4294967296 := rfl
theorem wrap32 {n : Nat} (h : n < 4294967296) : IntKind.u32.wrap (n : Int) = (n : Int) := by rw [wrap_u32]; omega
theorem quo32 (a b : Nat) (ha : a < 4294967296) (hb : 0 < b) : evBin .quo (.int .u32 (a : Int)) (.int .u32 (b : Int)) = some (.int .u32 ((a / b : Nat) : Int)) := by
  rw [bin_quo, if_neg (by omega)]
  have : ((a : Int).tdiv (b : Int)) = ((a / b : Nat) : Int) := rfl
  rw [this, wrap32 (Nat.lt_of_le_of_lt (Nat.div_le_self _ _) ha)]
theorem rem32 (a b : Nat) (hb : 0 < b) : evBin .rem (.int .u32 (a : Int)) (.int .u32 (b : Int)) = some (.int .u32 ((a % b : Nat) : Int)) := by
  rw [bin_rem, if_neg (by omega)]; rfl
theorem dbl32 (p : Nat) (h : p < 100) : evBin .mul (.int .u32 (p : Int)) (.int .u32 2) = some (.int .u32 ((2 * p : Nat) : Int)) := by
  rw [bin_mul, wrap_u32]; congr 2; omega
theorem inc32 (p : Nat) (h : p < 100) : evBin .add (.int .u32 ((2 * p : Nat) : Int)) (.int .u32 1) = some (.int .u32 ((2 * p + 1 : Nat) : Int)) := by
  rw [bin_add, wrap_u32]; congr 2; omega
theorem quo64' (a b : Nat) (ha : a < 18446744073709551616) (hb : 0 < b) : evBin .quo (.int .u64 (a : Int)) (.int .u64 (b : Int)) = some (.int .u64 ((a / b : Nat) : Int)) := by
  rw [bin_quo, if_neg (by omega)]
  have : ((a : Int).tdiv (b : Int)) = ((a / b : Nat) : Int) := rfl
  rw [this, wrapN, Nat.mod_eq_of_lt (Nat.lt_of_le_of_lt (Nat.div_le_self _ _) ha)]
theorem rem64' (a b : Nat) (hb : 0 < b) : evBin .rem (.int .u64 (a : Int)) (.int .u64 (b : Int)) = some (.int .u64 ((a % b : Nat) : Int)) := by
  rw [bin_rem, if_neg (by omega)]; rfl
theorem small_rules (p : Nat) (h : p < 100) : (((smallsT.getD (2 * p) 0).toNat : Nat) : Int) = ((48 + p % 10 : Nat) : Int) ∧ (((smalls.getD (2 * p) 0).toNat : Nat) : Int) = ((48 + p / 10 : Nat) : Int) ∧
    ((0 : Int) ≤ ((2 * p + 1 : Nat) : Int)) ∧ (((2 * p + 1 : Nat) : Int) < 200) ∧ ((0 : Int) ≤ ((2 * p : Nat) : Int)) ∧ (((2 * p : Nat) : Int) < 200) := by
  rw [smalls_hi ⟨p, h⟩, smalls_lo ⟨p, h⟩]
  exact ⟨rfl, rfl, by omega, by omega, by omega, by omega⟩

theorem l82 (x n : Nat) (hx : x < 18446744073709551616) (C : Nat) (ty : Option TypeId) (h0 : List (Nat × AObj)) (n0 : Nat) (pre cs0 : List AV) (o : Nat) (ho : pre.length = o) (cp : Option Nat) (hn : n ≤ cs0.length) (hn2 : n ≤ 1000) (hlk : Fw.look C h0 = some (.cells ty (pre ++ cs0))) (Q : Sig → FE → St → Prop) : ∀ (r i u L : Nat) (cs : List AV) (e : FE), C ≤ L → (L = C ∨ i = n) → i ≤ r → i ≤ n → NB x n cs0 i u cs →
    e 0 = .mslice C o n cp → e 1 = .int .u64 (u : Int) → e 4 = .int .i64 (i : Int) →
    (∀ i u L cs e', C ≤ L → (L = C ∨ i = n) → i < 8 → i ≤ n → NB x n cs0 i u cs → e' 1 = .int .u64 (u : Int) → e' 4 = .int .i64 (i : Int) → Q (.exit 0) e' { heap := put C (.cells ty (pre ++ cs)) h0, next := n0, low := L }) → WLoop cx ir82L0 e { heap := put C (.cells ty (pre ++ cs)) h0, next := n0, low := L } Q
  | r, i, u, L, cs, e, hCL, hLi, hr, hin, hN, e0, e1, e4, hQ => by
    refine WLoop.rnd (c := _) ir82L0.eq_1 ?_
    by_cases hi : i < 8
    · have d1 : decide ((8 : Int) ≤ (i : Int)) = false := by simp; omega
      simp (config := {contextual := true, implicitDefEqProofs := false, maxSteps := 4000000}) only [go_sem, ↓reduceIte, Bool.false_eq_true, Nat.reduceEqDiff, Nat.reduceAdd, Int.reduceLE, Int.reduceLT, Int.reduceEq, Int.reduceToNat, Int.toNat_natCast, Int.cast_ofNat_Int, Int.natCast_one, Nat.reduceMod, Nat.reduceDiv, UInt8.reduceToNat, Nat.reduceLT, e4, d1]
      exact hQ i u L cs _ hCL hLi hi hin hN e1 e4
    have d1 : decide ((8 : Int) ≤ (i : Int)) = true := by simp; omega
    obtain ⟨m, rfl⟩ : ∃ m, i = m + 8 := ⟨i - 8, by omega⟩
    match r, hr with
    | 0, hr => omega
    | r + 1, hr =>
    have hu : u < 18446744073709551616 := by rw [hN.val]; exact Nat.lt_of_le_of_lt (Nat.div_le_self _ _) hx
    have g1 : evBin .rem (.int .u64 (u : Int)) (.int .u64 100000000) = some (.int .u64 ((u % 100000000 : Nat) : Int)) := rem64' u 100000000 (by decide)
    have g2 : evBin .quo (.int .u64 (u : Int)) (.int .u64 100000000) = some (.int .u64 ((u / 100000000 : Nat) : Int)) := quo64' u 100000000 hu (by decide)
    obtain ⟨a, ha⟩ : ∃ a, u % 100000000 = a := ⟨_, rfl⟩
    have ha2 : a < 100000000 := by omega
    rw [ha] at g1
    have g3 := wrap32 (n := a) (by omega)
    have g4 : evBin .quo (.int .u32 (a : Int)) (.int .u32 10000) = some (.int .u32 ((a / 10000 : Nat) : Int)) := quo32 a 10000 (by omega) (by decide)
    have g5 : evBin .rem (.int .u32 (a : Int)) (.int .u32 10000) = some (.int .u32 ((a % 10000 : Nat) : Int)) := rem32 a 10000 (by decide)
    obtain ⟨hi', hhi⟩ : ∃ b, a / 10000 = b := ⟨_, rfl⟩
    obtain ⟨lo, hlo⟩ : ∃ b, a % 10000 = b := ⟨_, rfl⟩
    rw [hhi] at g4
    rw [hlo] at g5
    have g6 : evBin .quo (.int .u32 (lo : Int)) (.int .u32 100) = some (.int .u32 ((lo / 100 : Nat) : Int)) := quo32 lo 100 (by omega) (by decide)
    have g7 : evBin .rem (.int .u32 (lo : Int)) (.int .u32 100) = some (.int .u32 ((lo % 100 : Nat) : Int)) := rem32 lo 100 (by decide)
    have g8 : evBin .quo (.int .u32 (hi' : Int)) (.int .u32 100) = some (.int .u32 ((hi' / 100 : Nat) : Int)) := quo32 hi' 100 (by omega) (by decide)
    have g9 : evBin .rem (.int .u32 (hi' : Int)) (.int .u32 100) = some (.int .u32 ((hi' % 100 : Nat) : Int)) := rem32 hi' 100 (by decide)
    obtain ⟨p1, hp1⟩ : ∃ b, lo / 100 = b := ⟨_, rfl⟩
    obtain ⟨p0, hp0⟩ : ∃ b, lo % 100 = b := ⟨_, rfl⟩
    obtain ⟨p3, hp3⟩ : ∃ b, hi' / 100 = b := ⟨_, rfl⟩
    obtain ⟨p2, hp2⟩ : ∃ b, hi' % 100 = b := ⟨_, rfl⟩
    rw [hp1] at g6
    rw [hp0] at g7
    rw [hp3] at g8
    rw [hp2] at g9
    obtain ⟨sp0a, sp0b, sp0c, sp0d, sp0e, sp0f⟩ := small_rules p0 (by omega)
    have mp0 := dbl32 p0 (by omega)
    have ip0 := inc32 p0 (by omega)
    simp only [smalls, smallsT] at sp0a sp0b
    obtain ⟨sp1a, sp1b, sp1c, sp1d, sp1e, sp1f⟩ := small_rules p1 (by omega)
    have mp1 := dbl32 p1 (by omega)
    have ip1 := inc32 p1 (by omega)
    simp only [smalls, smallsT] at sp1a sp1b
    obtain ⟨sp2a, sp2b, sp2c, sp2d, sp2e, sp2f⟩ := small_rules p2 (by omega)
    have mp2 := dbl32 p2 (by omega)
    have ip2 := inc32 p2 (by omega)
    simp only [smalls, smallsT] at sp2a sp2b
    obtain ⟨sp3a, sp3b, sp3c, sp3d, sp3e, sp3f⟩ := small_rules p3 (by omega)
    have mp3 := dbl32 p3 (by omega)
    have ip3 := inc32 p3 (by omega)
    simp only [smalls, smallsT] at sp3a sp3b
    have wk : ∀ k : Nat, k ≤ 8 → IntKind.i64.wrap (((m + 8 : Nat) : Int) - (k : Int)) = ((m + (8 - k) : Nat) : Int) := by
      intro k hk; rw [wrap_i64 (by omega) (by omega)]; omega
    have w1 := wk 1 (by decide); have w2 := wk 2 (by decide); have w3 := wk 3 (by decide); have w4 := wk 4 (by decide)
    have w5 := wk 5 (by decide); have w6 := wk 6 (by decide); have w7 := wk 7 (by decide); have w8 := wk 8 (by decide)
    simp only [Nat.reduceSub, Int.cast_ofNat_Int, Nat.add_zero] at w1 w2 w3 w4 w5 w6 w7 w8
    have hcl : cs.length = cs0.length := hN.len
    have bk : ∀ k : Nat, k ≤ 7 → ((0 : Int) ≤ ((m + k : Nat) : Int) ∧ ((m + k : Nat) : Int) < (n : Int)) := fun k hk => ⟨by omega, by omega⟩
    have b0 := bk 0 (by decide); have b1 := bk 1 (by decide); have b2 := bk 2 (by decide); have b3 := bk 3 (by decide)
    have b4 := bk 4 (by decide); have b5 := bk 5 (by decide); have b6 := bk 6 (by decide); have b7 := bk 7 (by decide)
    rw [Nat.add_zero] at b0
    have pk : ∀ (k : Nat) (ds : List AV) (v : AV), k ≤ 7 → ds.length = cs0.length → patch (pre ++ ds) (o + (m + k)) [v] = some (pre ++ ds.set (m + k) v) := fun k ds v hk hd => patch_app ho (by omega)
    have q0 : ∀ (ds : List AV) (v : AV), ds.length = cs0.length → patch (pre ++ ds) (o + m) [v] = some (pre ++ ds.set m v) := fun ds v => pk 0 ds v (by decide)
    have q1 := fun ds v => pk 1 ds v (by decide)
    have q2 := fun ds v => pk 2 ds v (by decide)
    have q3 := fun ds v => pk 3 ds v (by decide)
    have q4 := fun ds v => pk 4 ds v (by decide)
    have q5 := fun ds v => pk 5 ds v (by decide)
    have q6 := fun ds v => pk 6 ds v (by decide)
    have q7 := fun ds v => pk 7 ds v (by decide)
    have lk : ∀ ds, Fw.look C (put C (.cells ty ds) h0) = some (.cells ty ds) := fun ds => look_put hlk
    have hmin : min L C = C := by omega
    have hmin2 : min C C = C := by omega
    have N1 := NB.two (i := m + 6) hN (by omega) hn (v := .int .u8 ((48 + p0 % 10 : Nat) : Int)) (w := .int .u8 ((48 + p0 / 10 : Nat) : Int)) (by congr 3; omega) (by congr 3; omega)
    have N2 := NB.two (i := m + 4) N1 (by omega) hn (v := .int .u8 ((48 + p1 % 10 : Nat) : Int)) (w := .int .u8 ((48 + p1 / 10 : Nat) : Int)) (by congr 3; omega) (by congr 3; omega)
    have N3 := NB.two (i := m + 2) N2 (by omega) hn (v := .int .u8 ((48 + p2 % 10 : Nat) : Int)) (w := .int .u8 ((48 + p2 / 10 : Nat) : Int)) (by congr 3; omega) (by congr 3; omega)
    have N4 := NB.two (i := m) N3 (by omega) hn (v := .int .u8 ((48 + p3 % 10 : Nat) : Int)) (w := .int .u8 ((48 + p3 / 10 : Nat) : Int)) (by congr 3; omega) (by congr 3; omega)
    rw [show u / 100 / 100 / 100 / 100 = u / 100000000 by omega] at N4
    have ih := fun cs' e' hN' => l82 x n hx C ty h0 n0 pre cs0 o ho cp hn hn2 hlk Q r m (u / 100000000) C cs' e' (Nat.le_refl _) (.inl rfl) (by omega) (by omega) hN'
    clear N1 N2 N3 hN wk bk pk ha hhi hlo hp0 hp1 hp2 hp3 hu
    simp (config := {contextual := true, implicitDefEqProofs := false, maxSteps := 4000000}) only [go_sem, ↓reduceIte, Bool.false_eq_true, Nat.reduceEqDiff, Nat.reduceAdd, Int.reduceLE, Int.reduceLT, Int.reduceEq, Int.reduceToNat, Int.toNat_natCast, Int.cast_ofNat_Int, Int.natCast_one, Nat.reduceMod, Nat.reduceDiv, UInt8.reduceToNat, Nat.reduceLT, e0, e1, e4, d1, g1, g2, g3, g4, g5, g6, g7, g8, g9, mp0, ip0, sp0a, sp0b, sp0c, sp0d, sp0e, sp0f, mp1, ip1, sp1a, sp1b, sp1c, sp1d, sp1e, sp1f, mp2, ip2, sp2a, sp2b, sp2c, sp2d, sp2e, sp2f, mp3, ip3, sp3a, sp3b, sp3c, sp3d, sp3e, sp3f, w1, w2, w3, w4, w5, w6, w7, w8, oget_iaddr_mslice, b0, b1, b2, b3, b4, b5, b6, b7, Nat_mul_one, q0, q1, q2, q3, q4, q5, q6, q7, List.length_set, hcl, lk, put_put, hmin, hmin2]
    refine ih _ _ ?_ ?_ ?_ ?_ hQ
    · exact N4
    · exact e0
    · rfl
    · rfl

theorem LeaveW_low {s s' : St} (h : s'.low < s.next) (K : AV → St → Prop) : LeaveW s s' (.tuple []) K = K (.tuple []) { heap := s'.heap, next := s'.next, low := min s.low s'.low } := by
  have h1 : ¬ s.next ≤ s'.low := by omega
  simp only [LeaveW, leave, AV.drop2, List.map_nil, h1, false_and, if_false]
/-- The digits of a number, the last n. -/
def digs (x n : Nat) : List AV := (List.range n).map fun j => digC x (n - 1 - j)
theorem c82 (x n : Nat) (hx : x < 18446744073709551616) (hxn : x < 10 ^ n) (h1 : 1 ≤ n) (hn2 : n ≤ 1000) (C : Nat) (ty : Option TypeId) (pre cs0 : List AV) (o : Nat) (ho : pre.length = o) (cp : Option Nat) (hn : n ≤ cs0.length) (s : St) (hlk : Fw.look C s.heap = some (.cells ty (pre ++ cs0))) (hC : C < s.next) (K : AV → St → Prop) :
    CallW cx 82 [.mslice C o n cp, .int .u64 (x : Int)] s K = K (.tuple []) { heap := put C (.cells ty (pre ++ (digs x n ++ cs0.drop n))) s.heap, next := s.next, low := min s.low C } := by
  refine CallW.eq (CallW.fn' (fn := ir82) rfl rfl (by kernel_rfl) ir82.eq_1 ?_) K
  unfold digs
  have key := fun Q e => l82 x n hx C ty s.heap s.next pre cs0 o ho cp hn hn2 hlk Q n n x s.next cs0 e (Nat.le_of_lt hC) (.inr rfl) (Nat.le_refl _) (Nat.le_refl _) NB.start
  rw [put_same hlk] at key
  simp (config := {contextual := true, implicitDefEqProofs := false, maxSteps := 4000000}) only [go_sem, ↓reduceIte, Bool.false_eq_true, Nat.reduceEqDiff, Nat.reduceAdd, Int.reduceLE, Int.reduceLT, Int.reduceEq, Int.reduceToNat, Int.toNat_natCast, Int.cast_ofNat_Int, Int.natCast_one, Nat.reduceMod, Nat.reduceDiv, UInt8.reduceToNat, Nat.reduceLT]
  refine WLoop.keep (key _ _ rfl rfl rfl ?_)
  intro i u L cs e' hCL hLi hi hin hN e1 e4 hk
  have e0 := hk 0 (by decide +kernel)
  simp only [upd, argsE, ↓reduceIte, Nat.reduceEqDiff, List.getD_cons_zero] at e0
  clear hk key
  have lk : ∀ ds, Fw.look C (put C (.cells ty ds) s.heap) = some (.cells ty ds) := fun ds => look_put hlk
  have hcl : cs.length = cs0.length := hN.len
  have ws0 : IntKind.i64.wrap 0 = 0 := rfl
  have ws1 : IntKind.i64.wrap 1 = 1 := rfl
  have ws2 : IntKind.i64.wrap 2 = 2 := rfl
  have ws3 : IntKind.i64.wrap 3 = 3 := rfl
  have ws4 : IntKind.i64.wrap 4 = 4 := rfl
  have ws5 : IntKind.i64.wrap 5 = 5 := rfl
  have ws6 : IntKind.i64.wrap 6 = 6 := rfl
  rcases (by omega : i = 0 ∨ i = 1 ∨ i = 2 ∨ i = 3 ∨ i = 4 ∨ i = 5 ∨ i = 6 ∨ i = 7) with hi0 | hi1 | hi2 | hi3 | hi4 | hi5 | hi6 | hi7
  · subst hi0
    have hu8 : u < 10 ^ 0 := by
      rw [hN.val, Nat.div_lt_iff_lt_mul (Nat.pow_pos (by decide)), ← Nat.pow_add, show 0 + (n - 0) = n by omega]; exact hxn
    simp only [Nat.reducePow] at hu8
    have g0 := wrap32 (n := u) (by omega)
    have hLC : L = C := by omega
    subst hLC
    rw [NB.done hN hn] at *
    clear hN
    simp (config := {contextual := true, implicitDefEqProofs := false, maxSteps := 4000000}) only [go_sem, ↓reduceIte, Bool.false_eq_true, Nat.reduceEqDiff, Nat.reduceAdd, Int.reduceLE, Int.reduceLT, Int.reduceEq, Int.reduceToNat, Int.toNat_natCast, Int.cast_ofNat_Int, Int.natCast_one, Nat.reduceMod, Nat.reduceDiv, UInt8.reduceToNat, Nat.reduceLT, e0, e1, e4, g0]
    rw [LeaveW_low hC]
    exact ⟨rfl, rfl⟩
  · subst hi1
    have hu8 : u < 10 ^ 1 := by
      rw [hN.val, Nat.div_lt_iff_lt_mul (Nat.pow_pos (by decide)), ← Nat.pow_add, show 1 + (n - 1) = n by omega]; exact hxn
    simp only [Nat.reducePow] at hu8
    have g0 := wrap32 (n := u) (by omega)
    have y1 : IntKind.u32.wrap (48 + (u : Int)) = ((48 + u : Nat) : Int) := wrap32 (n := 48 + u) (by omega)
    have y2 : IntKind.u8.wrap ((48 + u : Nat) : Int) = ((48 + u : Nat) : Int) := by rw [wrap_u8]; omega
    have N4 := NB.one (i := 0) hN (by omega) hn (v := .int .u8 ((48 + u : Nat) : Int)) (by congr 3; omega)
    have D := NB.done N4 hn
    clear N4 hN
    have hmin : min L C = C := by omega
    have hmin2 : min C C = C := by omega
    have b0 : (0 : Int) < (n : Int) := by omega
    have q0 : ∀ (ds : List AV) (v : AV), ds.length = cs0.length → patch (pre ++ ds) o [v] = some (pre ++ ds.set 0 v) := fun ds v hd => patch_app (j := 0) ho (by omega)
    simp (config := {contextual := true, implicitDefEqProofs := false, maxSteps := 4000000}) only [go_sem, ↓reduceIte, Bool.false_eq_true, Nat.reduceEqDiff, Nat.reduceAdd, Int.reduceLE, Int.reduceLT, Int.reduceEq, Int.reduceToNat, Int.toNat_natCast, Int.cast_ofNat_Int, Int.natCast_one, Nat.reduceMod, Nat.reduceDiv, UInt8.reduceToNat, Nat.reduceLT, e0, e1, e4, g0, y1, y2, b0, q0, Int.reduceSub, ws0, ws1, ws2, ws3, ws4, ws5, ws6, Nat_mul_one, List.length_set, hcl, lk, put_put, hmin, hmin2]
    rw [LeaveW_low hC]
    rw [← D]
    exact ⟨rfl, rfl⟩
  · subst hi2
    have hu8 : u < 10 ^ 2 := by
      rw [hN.val, Nat.div_lt_iff_lt_mul (Nat.pow_pos (by decide)), ← Nat.pow_add, show 2 + (n - 2) = n by omega]; exact hxn
    simp only [Nat.reducePow] at hu8
    have g0 := wrap32 (n := u) (by omega)
    have f1 : evBin .quo (.int .u32 (u : Int)) (.int .u32 100) = some (.int .u32 ((u / 100 : Nat) : Int)) := quo32 u 100 (by omega) (by decide)
    have f2 : evBin .rem (.int .u32 (u : Int)) (.int .u32 100) = some (.int .u32 ((u % 100 : Nat) : Int)) := rem32 u 100 (by decide)
    obtain ⟨p2, hp2⟩ : ∃ b, u % 100 = b := ⟨_, rfl⟩
    rw [hp2] at f2
    obtain ⟨sp2a, sp2b, sp2c, sp2d, sp2e, sp2f⟩ := small_rules p2 (by omega)
    have mp2 := dbl32 p2 (by omega)
    have ip2 := inc32 p2 (by omega)
    simp only [smalls, smallsT] at sp2a sp2b
    have N3 := NB.two (i := 0) hN (by omega) hn (v := .int .u8 ((48 + p2 % 10 : Nat) : Int)) (w := .int .u8 ((48 + p2 / 10 : Nat) : Int)) (by congr 3; omega) (by congr 3; omega)
    obtain ⟨v2, hv2⟩ : ∃ b, u / 100 = b := ⟨_, rfl⟩
    rw [hv2] at f1 N3
    have D := NB.done N3 hn
    clear N3 hN
    have hmin : min L C = C := by omega
    have hmin2 : min C C = C := by omega
    have b0 : (0 : Int) < (n : Int) := by omega
    have q0 : ∀ (ds : List AV) (v : AV), ds.length = cs0.length → patch (pre ++ ds) o [v] = some (pre ++ ds.set 0 v) := fun ds v hd => patch_app (j := 0) ho (by omega)
    have b1 : (1 : Int) < (n : Int) := by omega
    have q1 : ∀ (ds : List AV) (v : AV), ds.length = cs0.length → patch (pre ++ ds) (o + 1) [v] = some (pre ++ ds.set 1 v) := fun ds v hd => patch_app ho (by omega)
    simp (config := {contextual := true, implicitDefEqProofs := false, maxSteps := 4000000}) only [go_sem, ↓reduceIte, Bool.false_eq_true, Nat.reduceEqDiff, Nat.reduceAdd, Int.reduceLE, Int.reduceLT, Int.reduceEq, Int.reduceToNat, Int.toNat_natCast, Int.cast_ofNat_Int, Int.natCast_one, Nat.reduceMod, Nat.reduceDiv, UInt8.reduceToNat, Nat.reduceLT, e0, e1, e4, g0, f1, f2, mp2, ip2, sp2a, sp2b, sp2c, sp2d, sp2e, sp2f, b0, q0, b1, q1, Int.reduceSub, ws0, ws1, ws2, ws3, ws4, ws5, ws6, Nat_mul_one, List.length_set, hcl, lk, put_put, hmin, hmin2]
    rw [LeaveW_low hC]
    rw [← D]
    exact ⟨rfl, rfl⟩
  · subst hi3
    have hu8 : u < 10 ^ 3 := by
      rw [hN.val, Nat.div_lt_iff_lt_mul (Nat.pow_pos (by decide)), ← Nat.pow_add, show 3 + (n - 3) = n by omega]; exact hxn
    simp only [Nat.reducePow] at hu8
    have g0 := wrap32 (n := u) (by omega)
    have f1 : evBin .quo (.int .u32 (u : Int)) (.int .u32 100) = some (.int .u32 ((u / 100 : Nat) : Int)) := quo32 u 100 (by omega) (by decide)
    have f2 : evBin .rem (.int .u32 (u : Int)) (.int .u32 100) = some (.int .u32 ((u % 100 : Nat) : Int)) := rem32 u 100 (by decide)
    obtain ⟨p2, hp2⟩ : ∃ b, u % 100 = b := ⟨_, rfl⟩
    rw [hp2] at f2
    obtain ⟨sp2a, sp2b, sp2c, sp2d, sp2e, sp2f⟩ := small_rules p2 (by omega)
    have mp2 := dbl32 p2 (by omega)
    have ip2 := inc32 p2 (by omega)
    simp only [smalls, smallsT] at sp2a sp2b
    have N3 := NB.two (i := 1) hN (by omega) hn (v := .int .u8 ((48 + p2 % 10 : Nat) : Int)) (w := .int .u8 ((48 + p2 / 10 : Nat) : Int)) (by congr 3; omega) (by congr 3; omega)
    obtain ⟨v2, hv2⟩ : ∃ b, u / 100 = b := ⟨_, rfl⟩
    rw [hv2] at f1 N3
    have y1 : IntKind.u32.wrap (48 + (v2 : Int)) = ((48 + v2 : Nat) : Int) := wrap32 (n := 48 + v2) (by omega)
    have y2 : IntKind.u8.wrap ((48 + v2 : Nat) : Int) = ((48 + v2 : Nat) : Int) := by rw [wrap_u8]; omega
    have N4 := NB.one (i := 0) N3 (by omega) hn (v := .int .u8 ((48 + v2 : Nat) : Int)) (by congr 3; omega)
    have D := NB.done N4 hn
    clear N4 hN
    have hmin : min L C = C := by omega
    have hmin2 : min C C = C := by omega
    have b0 : (0 : Int) < (n : Int) := by omega
    have q0 : ∀ (ds : List AV) (v : AV), ds.length = cs0.length → patch (pre ++ ds) o [v] = some (pre ++ ds.set 0 v) := fun ds v hd => patch_app (j := 0) ho (by omega)
    have b1 : (1 : Int) < (n : Int) := by omega
    have q1 : ∀ (ds : List AV) (v : AV), ds.length = cs0.length → patch (pre ++ ds) (o + 1) [v] = some (pre ++ ds.set 1 v) := fun ds v hd => patch_app ho (by omega)
    have b2 : (2 : Int) < (n : Int) := by omega
    have q2 : ∀ (ds : List AV) (v : AV), ds.length = cs0.length → patch (pre ++ ds) (o + 2) [v] = some (pre ++ ds.set 2 v) := fun ds v hd => patch_app ho (by omega)
    simp (config := {contextual := true, implicitDefEqProofs := false, maxSteps := 4000000}) only [go_sem, ↓reduceIte, Bool.false_eq_true, Nat.reduceEqDiff, Nat.reduceAdd, Int.reduceLE, Int.reduceLT, Int.reduceEq, Int.reduceToNat, Int.toNat_natCast, Int.cast_ofNat_Int, Int.natCast_one, Nat.reduceMod, Nat.reduceDiv, UInt8.reduceToNat, Nat.reduceLT, e0, e1, e4, g0, f1, f2, mp2, ip2, sp2a, sp2b, sp2c, sp2d, sp2e, sp2f, y1, y2, b0, q0, b1, q1, b2, q2, Int.reduceSub, ws0, ws1, ws2, ws3, ws4, ws5, ws6, Nat_mul_one, List.length_set, hcl, lk, put_put, hmin, hmin2]
    rw [LeaveW_low hC]
    rw [← D]
    exact ⟨rfl, rfl⟩
  · subst hi4
    have hu8 : u < 10 ^ 4 := by
      rw [hN.val, Nat.div_lt_iff_lt_mul (Nat.pow_pos (by decide)), ← Nat.pow_add, show 4 + (n - 4) = n by omega]; exact hxn
    simp only [Nat.reducePow] at hu8
    have g0 := wrap32 (n := u) (by omega)
    have g1 : evBin .quo (.int .u32 (u : Int)) (.int .u32 10000) = some (.int .u32 ((u / 10000 : Nat) : Int)) := quo32 u 10000 (by omega) (by decide)
    have g2 : evBin .rem (.int .u32 (u : Int)) (.int .u32 10000) = some (.int .u32 ((u % 10000 : Nat) : Int)) := rem32 u 10000 (by decide)
    obtain ⟨a, ha⟩ : ∃ a, u % 10000 = a := ⟨_, rfl⟩
    rw [ha] at g2
    have g3 : evBin .quo (.int .u32 (a : Int)) (.int .u32 100) = some (.int .u32 ((a / 100 : Nat) : Int)) := quo32 a 100 (by omega) (by decide)
    have g4 : evBin .rem (.int .u32 (a : Int)) (.int .u32 100) = some (.int .u32 ((a % 100 : Nat) : Int)) := rem32 a 100 (by decide)
    obtain ⟨p1, hp1⟩ : ∃ b, a / 100 = b := ⟨_, rfl⟩
    obtain ⟨p0, hp0⟩ : ∃ b, a % 100 = b := ⟨_, rfl⟩
    rw [hp1] at g3
    rw [hp0] at g4
    obtain ⟨sp0a, sp0b, sp0c, sp0d, sp0e, sp0f⟩ := small_rules p0 (by omega)
    have mp0 := dbl32 p0 (by omega)
    have ip0 := inc32 p0 (by omega)
    simp only [smalls, smallsT] at sp0a sp0b
    obtain ⟨sp1a, sp1b, sp1c, sp1d, sp1e, sp1f⟩ := small_rules p1 (by omega)
    have mp1 := dbl32 p1 (by omega)
    have ip1 := inc32 p1 (by omega)
    simp only [smalls, smallsT] at sp1a sp1b
    have N1 := NB.two (i := 2) hN (by omega) hn (v := .int .u8 ((48 + p0 % 10 : Nat) : Int)) (w := .int .u8 ((48 + p0 / 10 : Nat) : Int)) (by congr 3; omega) (by congr 3; omega)
    have N2 := NB.two (i := 0) N1 (by omega) hn (v := .int .u8 ((48 + p1 % 10 : Nat) : Int)) (w := .int .u8 ((48 + p1 / 10 : Nat) : Int)) (by congr 3; omega) (by congr 3; omega)
    rw [show u / 100 / 100 = u / 10000 by omega] at N2
    obtain ⟨v1, hv1⟩ : ∃ b, u / 10000 = b := ⟨_, rfl⟩
    rw [hv1] at g1 N2
    have D := NB.done N2 hn
    clear N2 hN
    have hmin : min L C = C := by omega
    have hmin2 : min C C = C := by omega
    have b0 : (0 : Int) < (n : Int) := by omega
    have q0 : ∀ (ds : List AV) (v : AV), ds.length = cs0.length → patch (pre ++ ds) o [v] = some (pre ++ ds.set 0 v) := fun ds v hd => patch_app (j := 0) ho (by omega)
    have b1 : (1 : Int) < (n : Int) := by omega
    have q1 : ∀ (ds : List AV) (v : AV), ds.length = cs0.length → patch (pre ++ ds) (o + 1) [v] = some (pre ++ ds.set 1 v) := fun ds v hd => patch_app ho (by omega)
    have b2 : (2 : Int) < (n : Int) := by omega
    have q2 : ∀ (ds : List AV) (v : AV), ds.length = cs0.length → patch (pre ++ ds) (o + 2) [v] = some (pre ++ ds.set 2 v) := fun ds v hd => patch_app ho (by omega)
    have b3 : (3 : Int) < (n : Int) := by omega
    have q3 : ∀ (ds : List AV) (v : AV), ds.length = cs0.length → patch (pre ++ ds) (o + 3) [v] = some (pre ++ ds.set 3 v) := fun ds v hd => patch_app ho (by omega)
    simp (config := {contextual := true, implicitDefEqProofs := false, maxSteps := 4000000}) only [go_sem, ↓reduceIte, Bool.false_eq_true, Nat.reduceEqDiff, Nat.reduceAdd, Int.reduceLE, Int.reduceLT, Int.reduceEq, Int.reduceToNat, Int.toNat_natCast, Int.cast_ofNat_Int, Int.natCast_one, Nat.reduceMod, Nat.reduceDiv, UInt8.reduceToNat, Nat.reduceLT, e0, e1, e4, g0, g1, g2, g3, g4, mp0, ip0, sp0a, sp0b, sp0c, sp0d, sp0e, sp0f, mp1, ip1, sp1a, sp1b, sp1c, sp1d, sp1e, sp1f, b0, q0, b1, q1, b2, q2, b3, q3, Int.reduceSub, ws0, ws1, ws2, ws3, ws4, ws5, ws6, Nat_mul_one, List.length_set, hcl, lk, put_put, hmin, hmin2]
    rw [LeaveW_low hC]
    rw [← D]
    exact ⟨rfl, rfl⟩
  · subst hi5
    have hu8 : u < 10 ^ 5 := by
      rw [hN.val, Nat.div_lt_iff_lt_mul (Nat.pow_pos (by decide)), ← Nat.pow_add, show 5 + (n - 5) = n by omega]; exact hxn
    simp only [Nat.reducePow] at hu8
    have g0 := wrap32 (n := u) (by omega)
    have g1 : evBin .quo (.int .u32 (u : Int)) (.int .u32 10000) = some (.int .u32 ((u / 10000 : Nat) : Int)) := quo32 u 10000 (by omega) (by decide)
    have g2 : evBin .rem (.int .u32 (u : Int)) (.int .u32 10000) = some (.int .u32 ((u % 10000 : Nat) : Int)) := rem32 u 10000 (by decide)
    obtain ⟨a, ha⟩ : ∃ a, u % 10000 = a := ⟨_, rfl⟩
    rw [ha] at g2
    have g3 : evBin .quo (.int .u32 (a : Int)) (.int .u32 100) = some (.int .u32 ((a / 100 : Nat) : Int)) := quo32 a 100 (by omega) (by decide)
    have g4 : evBin .rem (.int .u32 (a : Int)) (.int .u32 100) = some (.int .u32 ((a % 100 : Nat) : Int)) := rem32 a 100 (by decide)
    obtain ⟨p1, hp1⟩ : ∃ b, a / 100 = b := ⟨_, rfl⟩
    obtain ⟨p0, hp0⟩ : ∃ b, a % 100 = b := ⟨_, rfl⟩
    rw [hp1] at g3
    rw [hp0] at g4
    obtain ⟨sp0a, sp0b, sp0c, sp0d, sp0e, sp0f⟩ := small_rules p0 (by omega)
    have mp0 := dbl32 p0 (by omega)
    have ip0 := inc32 p0 (by omega)
    simp only [smalls, smallsT] at sp0a sp0b
    obtain ⟨sp1a, sp1b, sp1c, sp1d, sp1e, sp1f⟩ := small_rules p1 (by omega)
    have mp1 := dbl32 p1 (by omega)
    have ip1 := inc32 p1 (by omega)
    simp only [smalls, smallsT] at sp1a sp1b
    have N1 := NB.two (i := 3) hN (by omega) hn (v := .int .u8 ((48 + p0 % 10 : Nat) : Int)) (w := .int .u8 ((48 + p0 / 10 : Nat) : Int)) (by congr 3; omega) (by congr 3; omega)
    have N2 := NB.two (i := 1) N1 (by omega) hn (v := .int .u8 ((48 + p1 % 10 : Nat) : Int)) (w := .int .u8 ((48 + p1 / 10 : Nat) : Int)) (by congr 3; omega) (by congr 3; omega)
    rw [show u / 100 / 100 = u / 10000 by omega] at N2
    obtain ⟨v1, hv1⟩ : ∃ b, u / 10000 = b := ⟨_, rfl⟩
    rw [hv1] at g1 N2
    have y1 : IntKind.u32.wrap (48 + (v1 : Int)) = ((48 + v1 : Nat) : Int) := wrap32 (n := 48 + v1) (by omega)
    have y2 : IntKind.u8.wrap ((48 + v1 : Nat) : Int) = ((48 + v1 : Nat) : Int) := by rw [wrap_u8]; omega
    have N4 := NB.one (i := 0) N2 (by omega) hn (v := .int .u8 ((48 + v1 : Nat) : Int)) (by congr 3; omega)
    have D := NB.done N4 hn
    clear N4 hN
    have hmin : min L C = C := by omega
    have hmin2 : min C C = C := by omega
    have b0 : (0 : Int) < (n : Int) := by omega
    have q0 : ∀ (ds : List AV) (v : AV), ds.length = cs0.length → patch (pre ++ ds) o [v] = some (pre ++ ds.set 0 v) := fun ds v hd => patch_app (j := 0) ho (by omega)
    have b1 : (1 : Int) < (n : Int) := by omega
    have q1 : ∀ (ds : List AV) (v : AV), ds.length = cs0.length → patch (pre ++ ds) (o + 1) [v] = some (pre ++ ds.set 1 v) := fun ds v hd => patch_app ho (by omega)
    have b2 : (2 : Int) < (n : Int) := by omega
    have q2 : ∀ (ds : List AV) (v : AV), ds.length = cs0.length → patch (pre ++ ds) (o + 2) [v] = some (pre ++ ds.set 2 v) := fun ds v hd => patch_app ho (by omega)
    have b3 : (3 : Int) < (n : Int) := by omega
    have q3 : ∀ (ds : List AV) (v : AV), ds.length = cs0.length → patch (pre ++ ds) (o + 3) [v] = some (pre ++ ds.set 3 v) := fun ds v hd => patch_app ho (by omega)
    have b4 : (4 : Int) < (n : Int) := by omega
    have q4 : ∀ (ds : List AV) (v : AV), ds.length = cs0.length → patch (pre ++ ds) (o + 4) [v] = some (pre ++ ds.set 4 v) := fun ds v hd => patch_app ho (by omega)
    simp (config := {contextual := true, implicitDefEqProofs := false, maxSteps := 4000000}) only [go_sem, ↓reduceIte, Bool.false_eq_true, Nat.reduceEqDiff, Nat.reduceAdd, Int.reduceLE, Int.reduceLT, Int.reduceEq, Int.reduceToNat, Int.toNat_natCast, Int.cast_ofNat_Int, Int.natCast_one, Nat.reduceMod, Nat.reduceDiv, UInt8.reduceToNat, Nat.reduceLT, e0, e1, e4, g0, g1, g2, g3, g4, mp0, ip0, sp0a, sp0b, sp0c, sp0d, sp0e, sp0f, mp1, ip1, sp1a, sp1b, sp1c, sp1d, sp1e, sp1f, y1, y2, b0, q0, b1, q1, b2, q2, b3, q3, b4, q4, Int.reduceSub, ws0, ws1, ws2, ws3, ws4, ws5, ws6, Nat_mul_one, List.length_set, hcl, lk, put_put, hmin, hmin2]
    rw [LeaveW_low hC]
    rw [← D]
    exact ⟨rfl, rfl⟩
  · subst hi6
    have hu8 : u < 10 ^ 6 := by
      rw [hN.val, Nat.div_lt_iff_lt_mul (Nat.pow_pos (by decide)), ← Nat.pow_add, show 6 + (n - 6) = n by omega]; exact hxn
    simp only [Nat.reducePow] at hu8
    have g0 := wrap32 (n := u) (by omega)
    have g1 : evBin .quo (.int .u32 (u : Int)) (.int .u32 10000) = some (.int .u32 ((u / 10000 : Nat) : Int)) := quo32 u 10000 (by omega) (by decide)
    have g2 : evBin .rem (.int .u32 (u : Int)) (.int .u32 10000) = some (.int .u32 ((u % 10000 : Nat) : Int)) := rem32 u 10000 (by decide)
    obtain ⟨a, ha⟩ : ∃ a, u % 10000 = a := ⟨_, rfl⟩
    rw [ha] at g2
    have g3 : evBin .quo (.int .u32 (a : Int)) (.int .u32 100) = some (.int .u32 ((a / 100 : Nat) : Int)) := quo32 a 100 (by omega) (by decide)
    have g4 : evBin .rem (.int .u32 (a : Int)) (.int .u32 100) = some (.int .u32 ((a % 100 : Nat) : Int)) := rem32 a 100 (by decide)
    obtain ⟨p1, hp1⟩ : ∃ b, a / 100 = b := ⟨_, rfl⟩
    obtain ⟨p0, hp0⟩ : ∃ b, a % 100 = b := ⟨_, rfl⟩
    rw [hp1] at g3
    rw [hp0] at g4
    obtain ⟨sp0a, sp0b, sp0c, sp0d, sp0e, sp0f⟩ := small_rules p0 (by omega)
    have mp0 := dbl32 p0 (by omega)
    have ip0 := inc32 p0 (by omega)
    simp only [smalls, smallsT] at sp0a sp0b
    obtain ⟨sp1a, sp1b, sp1c, sp1d, sp1e, sp1f⟩ := small_rules p1 (by omega)
    have mp1 := dbl32 p1 (by omega)
    have ip1 := inc32 p1 (by omega)
    simp only [smalls, smallsT] at sp1a sp1b
    have N1 := NB.two (i := 4) hN (by omega) hn (v := .int .u8 ((48 + p0 % 10 : Nat) : Int)) (w := .int .u8 ((48 + p0 / 10 : Nat) : Int)) (by congr 3; omega) (by congr 3; omega)
    have N2 := NB.two (i := 2) N1 (by omega) hn (v := .int .u8 ((48 + p1 % 10 : Nat) : Int)) (w := .int .u8 ((48 + p1 / 10 : Nat) : Int)) (by congr 3; omega) (by congr 3; omega)
    rw [show u / 100 / 100 = u / 10000 by omega] at N2
    obtain ⟨v1, hv1⟩ : ∃ b, u / 10000 = b := ⟨_, rfl⟩
    rw [hv1] at g1 N2
    have f1 : evBin .quo (.int .u32 (v1 : Int)) (.int .u32 100) = some (.int .u32 ((v1 / 100 : Nat) : Int)) := quo32 v1 100 (by omega) (by decide)
    have f2 : evBin .rem (.int .u32 (v1 : Int)) (.int .u32 100) = some (.int .u32 ((v1 % 100 : Nat) : Int)) := rem32 v1 100 (by decide)
    obtain ⟨p2, hp2⟩ : ∃ b, v1 % 100 = b := ⟨_, rfl⟩
    rw [hp2] at f2
    obtain ⟨sp2a, sp2b, sp2c, sp2d, sp2e, sp2f⟩ := small_rules p2 (by omega)
    have mp2 := dbl32 p2 (by omega)
    have ip2 := inc32 p2 (by omega)
    simp only [smalls, smallsT] at sp2a sp2b
    have N3 := NB.two (i := 0) N2 (by omega) hn (v := .int .u8 ((48 + p2 % 10 : Nat) : Int)) (w := .int .u8 ((48 + p2 / 10 : Nat) : Int)) (by congr 3; omega) (by congr 3; omega)
    obtain ⟨v2, hv2⟩ : ∃ b, v1 / 100 = b := ⟨_, rfl⟩
    rw [hv2] at f1 N3
    have D := NB.done N3 hn
    clear N3 hN
    have hmin : min L C = C := by omega
    have hmin2 : min C C = C := by omega
    have b0 : (0 : Int) < (n : Int) := by omega
    have q0 : ∀ (ds : List AV) (v : AV), ds.length = cs0.length → patch (pre ++ ds) o [v] = some (pre ++ ds.set 0 v) := fun ds v hd => patch_app (j := 0) ho (by omega)
    have b1 : (1 : Int) < (n : Int) := by omega
    have q1 : ∀ (ds : List AV) (v : AV), ds.length = cs0.length → patch (pre ++ ds) (o + 1) [v] = some (pre ++ ds.set 1 v) := fun ds v hd => patch_app ho (by omega)
    have b2 : (2 : Int) < (n : Int) := by omega
    have q2 : ∀ (ds : List AV) (v : AV), ds.length = cs0.length → patch (pre ++ ds) (o + 2) [v] = some (pre ++ ds.set 2 v) := fun ds v hd => patch_app ho (by omega)
    have b3 : (3 : Int) < (n : Int) := by omega
    have q3 : ∀ (ds : List AV) (v : AV), ds.length = cs0.length → patch (pre ++ ds) (o + 3) [v] = some (pre ++ ds.set 3 v) := fun ds v hd => patch_app ho (by omega)
    have b4 : (4 : Int) < (n : Int) := by omega
    have q4 : ∀ (ds : List AV) (v : AV), ds.length = cs0.length → patch (pre ++ ds) (o + 4) [v] = some (pre ++ ds.set 4 v) := fun ds v hd => patch_app ho (by omega)
    have b5 : (5 : Int) < (n : Int) := by omega
    have q5 : ∀ (ds : List AV) (v : AV), ds.length = cs0.length → patch (pre ++ ds) (o + 5) [v] = some (pre ++ ds.set 5 v) := fun ds v hd => patch_app ho (by omega)
    simp (config := {contextual := true, implicitDefEqProofs := false, maxSteps := 4000000}) only [go_sem, ↓reduceIte, Bool.false_eq_true, Nat.reduceEqDiff, Nat.reduceAdd, Int.reduceLE, Int.reduceLT, Int.reduceEq, Int.reduceToNat, Int.toNat_natCast, Int.cast_ofNat_Int, Int.natCast_one, Nat.reduceMod, Nat.reduceDiv, UInt8.reduceToNat, Nat.reduceLT, e0, e1, e4, g0, g1, g2, g3, g4, mp0, ip0, sp0a, sp0b, sp0c, sp0d, sp0e, sp0f, mp1, ip1, sp1a, sp1b, sp1c, sp1d, sp1e, sp1f, f1, f2, mp2, ip2, sp2a, sp2b, sp2c, sp2d, sp2e, sp2f, b0, q0, b1, q1, b2, q2, b3, q3, b4, q4, b5, q5, Int.reduceSub, ws0, ws1, ws2, ws3, ws4, ws5, ws6, Nat_mul_one, List.length_set, hcl, lk, put_put, hmin, hmin2]
    rw [LeaveW_low hC]
    rw [← D]
    exact ⟨rfl, rfl⟩
  · subst hi7
    have hu8 : u < 10 ^ 7 := by
      rw [hN.val, Nat.div_lt_iff_lt_mul (Nat.pow_pos (by decide)), ← Nat.pow_add, show 7 + (n - 7) = n by omega]; exact hxn
    simp only [Nat.reducePow] at hu8
    have g0 := wrap32 (n := u) (by omega)
    have g1 : evBin .quo (.int .u32 (u : Int)) (.int .u32 10000) = some (.int .u32 ((u / 10000 : Nat) : Int)) := quo32 u 10000 (by omega) (by decide)
    have g2 : evBin .rem (.int .u32 (u : Int)) (.int .u32 10000) = some (.int .u32 ((u % 10000 : Nat) : Int)) := rem32 u 10000 (by decide)
    obtain ⟨a, ha⟩ : ∃ a, u % 10000 = a := ⟨_, rfl⟩
    rw [ha] at g2
    have g3 : evBin .quo (.int .u32 (a : Int)) (.int .u32 100) = some (.int .u32 ((a / 100 : Nat) : Int)) := quo32 a 100 (by omega) (by decide)
    have g4 : evBin .rem (.int .u32 (a : Int)) (.int .u32 100) = some (.int .u32 ((a % 100 : Nat) : Int)) := rem32 a 100 (by decide)
    obtain ⟨p1, hp1⟩ : ∃ b, a / 100 = b := ⟨_, rfl⟩
    obtain ⟨p0, hp0⟩ : ∃ b, a % 100 = b := ⟨_, rfl⟩
    rw [hp1] at g3
    rw [hp0] at g4
    obtain ⟨sp0a, sp0b, sp0c, sp0d, sp0e, sp0f⟩ := small_rules p0 (by omega)
    have mp0 := dbl32 p0 (by omega)
    have ip0 := inc32 p0 (by omega)
    simp only [smalls, smallsT] at sp0a sp0b
    obtain ⟨sp1a, sp1b, sp1c, sp1d, sp1e, sp1f⟩ := small_rules p1 (by omega)
    have mp1 := dbl32 p1 (by omega)
    have ip1 := inc32 p1 (by omega)
    simp only [smalls, smallsT] at sp1a sp1b
    have N1 := NB.two (i := 5) hN (by omega) hn (v := .int .u8 ((48 + p0 % 10 : Nat) : Int)) (w := .int .u8 ((48 + p0 / 10 : Nat) : Int)) (by congr 3; omega) (by congr 3; omega)
    have N2 := NB.two (i := 3) N1 (by omega) hn (v := .int .u8 ((48 + p1 % 10 : Nat) : Int)) (w := .int .u8 ((48 + p1 / 10 : Nat) : Int)) (by congr 3; omega) (by congr 3; omega)
    rw [show u / 100 / 100 = u / 10000 by omega] at N2
    obtain ⟨v1, hv1⟩ : ∃ b, u / 10000 = b := ⟨_, rfl⟩
    rw [hv1] at g1 N2
    have f1 : evBin .quo (.int .u32 (v1 : Int)) (.int .u32 100) = some (.int .u32 ((v1 / 100 : Nat) : Int)) := quo32 v1 100 (by omega) (by decide)
    have f2 : evBin .rem (.int .u32 (v1 : Int)) (.int .u32 100) = some (.int .u32 ((v1 % 100 : Nat) : Int)) := rem32 v1 100 (by decide)
    obtain ⟨p2, hp2⟩ : ∃ b, v1 % 100 = b := ⟨_, rfl⟩
    rw [hp2] at f2
    obtain ⟨sp2a, sp2b, sp2c, sp2d, sp2e, sp2f⟩ := small_rules p2 (by omega)
    have mp2 := dbl32 p2 (by omega)
    have ip2 := inc32 p2 (by omega)
    simp only [smalls, smallsT] at sp2a sp2b
    have N3 := NB.two (i := 1) N2 (by omega) hn (v := .int .u8 ((48 + p2 % 10 : Nat) : Int)) (w := .int .u8 ((48 + p2 / 10 : Nat) : Int)) (by congr 3; omega) (by congr 3; omega)
    obtain ⟨v2, hv2⟩ : ∃ b, v1 / 100 = b := ⟨_, rfl⟩
    rw [hv2] at f1 N3
    have y1 : IntKind.u32.wrap (48 + (v2 : Int)) = ((48 + v2 : Nat) : Int) := wrap32 (n := 48 + v2) (by omega)
    have y2 : IntKind.u8.wrap ((48 + v2 : Nat) : Int) = ((48 + v2 : Nat) : Int) := by rw [wrap_u8]; omega
    have N4 := NB.one (i := 0) N3 (by omega) hn (v := .int .u8 ((48 + v2 : Nat) : Int)) (by congr 3; omega)
    have D := NB.done N4 hn
    clear N4 hN
    have hmin : min L C = C := by omega
    have hmin2 : min C C = C := by omega
    have b0 : (0 : Int) < (n : Int) := by omega
    have q0 : ∀ (ds : List AV) (v : AV), ds.length = cs0.length → patch (pre ++ ds) o [v] = some (pre ++ ds.set 0 v) := fun ds v hd => patch_app (j := 0) ho (by omega)
    have b1 : (1 : Int) < (n : Int) := by omega
    have q1 : ∀ (ds : List AV) (v : AV), ds.length = cs0.length → patch (pre ++ ds) (o + 1) [v] = some (pre ++ ds.set 1 v) := fun ds v hd => patch_app ho (by omega)
    have b2 : (2 : Int) < (n : Int) := by omega
    have q2 : ∀ (ds : List AV) (v : AV), ds.length = cs0.length → patch (pre ++ ds) (o + 2) [v] = some (pre ++ ds.set 2 v) := fun ds v hd => patch_app ho (by omega)
    have b3 : (3 : Int) < (n : Int) := by omega
    have q3 : ∀ (ds : List AV) (v : AV), ds.length = cs0.length → patch (pre ++ ds) (o + 3) [v] = some (pre ++ ds.set 3 v) := fun ds v hd => patch_app ho (by omega)
    have b4 : (4 : Int) < (n : Int) := by omega
    have q4 : ∀ (ds : List AV) (v : AV), ds.length = cs0.length → patch (pre ++ ds) (o + 4) [v] = some (pre ++ ds.set 4 v) := fun ds v hd => patch_app ho (by omega)
    have b5 : (5 : Int) < (n : Int) := by omega
    have q5 : ∀ (ds : List AV) (v : AV), ds.length = cs0.length → patch (pre ++ ds) (o + 5) [v] = some (pre ++ ds.set 5 v) := fun ds v hd => patch_app ho (by omega)
    have b6 : (6 : Int) < (n : Int) := by omega
    have q6 : ∀ (ds : List AV) (v : AV), ds.length = cs0.length → patch (pre ++ ds) (o + 6) [v] = some (pre ++ ds.set 6 v) := fun ds v hd => patch_app ho (by omega)
    simp (config := {contextual := true, implicitDefEqProofs := false, maxSteps := 4000000}) only [go_sem, ↓reduceIte, Bool.false_eq_true, Nat.reduceEqDiff, Nat.reduceAdd, Int.reduceLE, Int.reduceLT, Int.reduceEq, Int.reduceToNat, Int.toNat_natCast, Int.cast_ofNat_Int, Int.natCast_one, Nat.reduceMod, Nat.reduceDiv, UInt8.reduceToNat, Nat.reduceLT, e0, e1, e4, g0, g1, g2, g3, g4, mp0, ip0, sp0a, sp0b, sp0c, sp0d, sp0e, sp0f, mp1, ip1, sp1a, sp1b, sp1c, sp1d, sp1e, sp1f, f1, f2, mp2, ip2, sp2a, sp2b, sp2c, sp2d, sp2e, sp2f, y1, y2, b0, q0, b1, q1, b2, q2, b3, q3, b4, q4, b5, q5, b6, q6, Int.reduceSub, ws0, ws1, ws2, ws3, ws4, ws5, ws6, Nat_mul_one, List.length_set, hcl, lk, put_put, hmin, hmin2]
    rw [LeaveW_low hC]
    rw [← D]
    exact ⟨rfl, rfl⟩
end T17

/- FormatUint and FormatInt at base 10. -/
namespace T17
open Go Fw Go.Proofs
set_option maxRecDepth 100000
set_option maxHeartbeats 4000000
set_option linter.unusedSimpArgs false
set_option linter.unusedVariables false
def decB (x n : Nat) : List UInt8 := (List.range n).map fun j => UInt8.ofNat (48 + x / 10 ^ (n - 1 - j) % 10)
/-- A number's decimal numeral. -/
def dec (x : Nat) : List UInt8 := if x = 0 then [48] else decB x (nd x)
def smallsA : List UInt8 := [48, 49, 50, 51, 52, 53, 54, 55, 56, 57, 97, 98, 99, 100, 101, 102, 103, 104, 105, 106, 107, 108, 109, 110, 111, 112, 113, 114, 115, 116, 117, 118, 119, 120, 121, 122]
theorem small_1 : ∀ x : Fin 10, cut smallsA (x.val : Int) ((x.val + 1 : Nat) : Int) = dec x.val := by decide +kernel
theorem small_2 : ∀ x : Fin 100, 10 ≤ x.val → cut smalls ((x.val * 2 : Nat) : Int) ((x.val * 2 + 2 : Nat) : Int) = dec x.val := by decide +kernel
theorem c80 (x : Nat) (hx : x < 100) (s : St) (K : AV → St → Prop) : CallW cx 80 [.int .i64 (x : Int)] s K = K (.str (dec x)) s := by
  refine CallW.eq (CallW.fn' (fn := ir80) rfl rfl (by kernel_rfl) ir80.eq_1 ?_) K
  by_cases h : x < 10
  · have d1 : decide ((x : Int) < 10) = true := by simp; omega
    have w1 : IntKind.i64.wrap ((x : Int) + 1) = ((x + 1 : Nat) : Int) := by rw [wrap_i64 (by omega) (by omega)]; rfl
    have e := small_1 ⟨x, h⟩
    simp only [smallsA] at e
    simp (config := {contextual := true, implicitDefEqProofs := false, maxSteps := 4000000}) only [go_sem, ↓reduceIte, Bool.false_eq_true, Nat.reduceEqDiff, Nat.reduceAdd, Int.reduceLE, Int.reduceLT, Int.reduceEq, Int.reduceToNat, Int.toNat_natCast, Int.cast_ofNat_Int, Int.natCast_one, Nat.reduceMod, Nat.reduceDiv, UInt8.reduceToNat, Nat.reduceLT, d1, w1, e, slOk]
    omega
  · have d1 : decide ((x : Int) < 10) = false := by simp; omega
    have w1 : IntKind.i64.wrap ((x : Int) * 2) = ((x * 2 : Nat) : Int) := by rw [wrap_i64 (by omega) (by omega)]; rfl
    have w2 : IntKind.i64.wrap (((x * 2 : Nat) : Int) + 2) = ((x * 2 + 2 : Nat) : Int) := by rw [wrap_i64 (by omega) (by omega)]; rfl
    have e := small_2 ⟨x, hx⟩ (by show 10 ≤ x; omega)
    simp only [smalls] at e
    simp (config := {contextual := true, implicitDefEqProofs := false, maxSteps := 4000000}) only [go_sem, ↓reduceIte, Bool.false_eq_true, Nat.reduceEqDiff, Nat.reduceAdd, Int.reduceLE, Int.reduceLT, Int.reduceEq, Int.reduceToNat, Int.toNat_natCast, Int.cast_ofNat_Int, Int.natCast_one, Nat.reduceMod, Nat.reduceDiv, UInt8.reduceToNat, Nat.reduceLT, d1, w1, w2, e, slOk]
    omega
theorem digs_length (x n : Nat) : (digs x n).length = n := by simp [digs]
theorem bytesOf_map (f : Nat → Nat) : ∀ l : List Nat, bytesOf (l.map fun j => AV.int .u8 ((f j : Nat) : Int)) = some (l.map fun j => UInt8.ofNat (f j))
  | [] => rfl
  | j :: l => by simp only [List.map_cons, bytesOf, bytesOf_map f l, Option.map_some, Int.toNat_natCast]
theorem bytes_digs (x n : Nat) : bytesOf (digs x n) = some (decB x n) := bytesOf_map (fun j => 48 + x / 10 ^ (n - 1 - j) % 10) (List.range n)
theorem sub_digs (x n : Nat) (r : List AV) : sub (digs x n ++ r) 0 n = some (digs x n) := by
  unfold sub
  rw [if_pos (by simp [digs_length]), List.drop_zero, List.take_left' (digs_length x n)]
theorem sub_digs1 (x n : Nat) (p : AV) (r : List AV) : sub (p :: (digs x n ++ r)) 1 n = some (digs x n) := by
  unfold sub
  rw [if_pos (by simp [digs_length]; omega), List.drop_succ_cons, List.drop_zero, List.take_left' (digs_length x n)]
def zeros (n : Nat) : List AV := List.replicate n (.int .u8 0)
theorem c66 (x : Nat) (hx : x < 9223372036854775808) (s : St) (K : AV → St → Prop) : CallW cx 66 [.int .i64 (x : Int), .int .i64 10] s K = K (.str (dec x)) s := by
  refine CallW.eq (CallW.fn' (fn := ir66) rfl rfl (by kernel_rfl) ir66.eq_1 ?_) K
  have d0 : decide ((0 : Int) ≤ (x : Int)) = true := decide_eq_true (by omega)
  by_cases h : x < 100
  · have d1 : decide ((x : Int) < 100) = true := decide_eq_true (by omega)
    have k := fun st K => c80 x h st K
    simp (config := {contextual := true, implicitDefEqProofs := false, maxSteps := 4000000}) only [go_sem, ↓reduceIte, Bool.false_eq_true, Nat.reduceEqDiff, Nat.reduceAdd, Int.reduceLE, Int.reduceLT, Int.reduceEq, Int.reduceToNat, Int.toNat_natCast, Int.cast_ofNat_Int, Int.natCast_one, Nat.reduceMod, Nat.reduceDiv, UInt8.reduceToNat, Nat.reduceLT, d0, d1, k]
  · have d1 : decide ((x : Int) < 100) = false := decide_eq_false (by omega)
    have d2 : decide ((x : Int) < 0) = false := decide_eq_false (by omega)
    have w1 : IntKind.u64.wrap (x : Int) = (x : Int) := by rw [wrap_u64]; omega
    obtain ⟨n1, n2, n3, n4⟩ := nd_facts (x := x) (by omega) (by omega)
    have k1 := fun st K => c81 x (by omega) st K
    have hd : dec x = decB x (nd x) := by unfold dec; rw [if_neg (by omega)]
    rw [hd]
    generalize nd x = n at *
    have w2 : IntKind.i64.wrap (1 + (n : Int)) = ((1 + n : Nat) : Int) := by rw [wrap_i64 (by omega) (by omega)]; rfl
    have k2 := fun (st : St) (hlk : Fw.look s.next st.heap = some (.cells (some 92) ([.int .u8 0] ++ zeros 23))) (hC : s.next < st.next) K => c82 x n (by omega) n3 n1 (by omega) s.next (some 92) [.int .u8 0] (zeros 23) 1 rfl (some 23) (by simp [zeros]; omega) st hlk hC K
    simp only [zeros, List.replicate, List.nil_append, List.cons_append] at k2
    have b1 : (0 : Int) ≤ ((1 + n : Nat) : Int) ∧ ((1 + n : Nat) : Int) ≤ ((24 : Nat) : Int) := by omega
    have b2 : (0 : Int) ≤ 1 ∧ (1 : Int) ≤ ((1 + n : Nat) : Int) := by omega
    have bd : bounds 24 (some (.int .i64 1)) (some (.int .i64 ((1 + n : Nat) : Int))) = some (1, 1 + n) := by simp only [bounds]; rw [if_pos b1, if_pos b2, Int.toNat_natCast]; rfl
    have e1 : 1 + n - 1 = n := by omega
    simp (config := {contextual := true, implicitDefEqProofs := false, maxSteps := 4000000}) only [go_sem, ↓reduceIte, Bool.false_eq_true, Nat.reduceEqDiff, Nat.reduceAdd, Int.reduceLE, Int.reduceLT, Int.reduceEq, Int.reduceToNat, Int.toNat_natCast, Int.cast_ofNat_Int, Int.natCast_one, Nat.reduceMod, Nat.reduceDiv, UInt8.reduceToNat, Nat.reduceLT, d0, d1, d2, w1, w2, k1, sliceArr, bd, k2, cellsOf, b2sA, sub_digs1, bytes_digs, Nat_mul_one, Nat.reduceSub, e1]
theorem c52 (x : Nat) (hx : x < 9223372036854775808) (s : St) (K : AV → St → Prop) : CallW cx 52 [.int .i64 (x : Int), .int .i64 10] s K = K (.str (dec x)) s := by
  refine CallW.eq (CallW.fn' (fn := ir52) rfl rfl (by kernel_rfl) ir52.eq_1 ?_) K
  have k := fun st K => c66 x hx st K
  simp (config := {contextual := true, implicitDefEqProofs := false, maxSteps := 4000000}) only [go_sem, ↓reduceIte, Bool.false_eq_true, Nat.reduceEqDiff, Nat.reduceAdd, Int.reduceLE, Int.reduceLT, Int.reduceEq, Int.reduceToNat, Int.toNat_natCast, Int.cast_ofNat_Int, Int.natCast_one, Nat.reduceMod, Nat.reduceDiv, UInt8.reduceToNat, Nat.reduceLT, k]
end T17

/- The spelling of a token: the walk. -/
namespace T17
open Go Fw Go.Proofs
set_option maxRecDepth 100000
set_option maxHeartbeats 4000000
set_option linter.unusedSimpArgs false
set_option linter.unusedVariables false
/-- Whether a byte stands at the end. -/
def endsB (c : UInt8) (a : List UInt8) : Bool := decide (1 ≤ a.length) && decide (a.drop (a.length - 1) = [c])
def trimS (c : UInt8) (a : List UInt8) : List UInt8 := if endsB c a then a.take (a.length - 1) else a
theorem c84 (a : List UInt8) (ha : a.length ≤ 4611686018427387904) (c : UInt8) (s : St) (K : AV → St → Prop) : CallW cx 84 [.str a, .str [c]] s K = K (.bool (endsB c a)) s := by
  refine CallW.eq (CallW.fn' (fn := ir84) rfl rfl (by kernel_rfl) ir84.eq_1 ?_) K
  unfold endsB
  by_cases h : 1 ≤ a.length
  · have d1 : decide ((1 : Int) ≤ (a.length : Int)) = true := decide_eq_true (by omega)
    have w1 : IntKind.i64.wrap ((a.length : Int) - 1) = ((a.length - 1 : Nat) : Int) := by rw [wrap_i64 (by omega) (by omega)]; omega
    have g1 : (0 : Int) ≤ ((a.length - 1 : Nat) : Int) ∧ ((a.length - 1 : Nat) : Int) ≤ (a.length : Int) := by omega
    rw [decide_eq_true h]
    simp (config := {contextual := true, implicitDefEqProofs := false, maxSteps := 4000000}) only [go_sem, ↓reduceIte, Bool.false_eq_true, Nat.reduceEqDiff, Nat.reduceAdd, Int.reduceLE, Int.reduceLT, Int.reduceEq, Int.reduceToNat, Int.toNat_natCast, Int.cast_ofNat_Int, Int.natCast_one, Nat.reduceMod, Nat.reduceDiv, UInt8.reduceToNat, Nat.reduceLT, d1, w1, g1, List.length_cons, List.length_nil]
  · have d1 : decide ((1 : Int) ≤ (a.length : Int)) = false := decide_eq_false (by omega)
    rw [decide_eq_false h]
    simp (config := {contextual := true, implicitDefEqProofs := false, maxSteps := 4000000}) only [go_sem, ↓reduceIte, Bool.false_eq_true, Nat.reduceEqDiff, Nat.reduceAdd, Int.reduceLE, Int.reduceLT, Int.reduceEq, Int.reduceToNat, Int.toNat_natCast, Int.cast_ofNat_Int, Int.natCast_one, Nat.reduceMod, Nat.reduceDiv, UInt8.reduceToNat, Nat.reduceLT, d1, List.length_cons, List.length_nil]
theorem c67 (a : List UInt8) (ha : a.length ≤ 4611686018427387904) (c : UInt8) (s : St) (K : AV → St → Prop) : CallW cx 67 [.str a, .str [c]] s K = K (.str (trimS c a)) s := by
  refine CallW.eq (CallW.fn' (fn := ir67) rfl rfl (by kernel_rfl) ir67.eq_1 ?_) K
  have k := fun st K => c84 a ha c st K
  unfold trimS
  cases h : endsB c a with
  | false =>
    rw [h] at k
    simp (config := {contextual := true, implicitDefEqProofs := false, maxSteps := 4000000}) only [go_sem, ↓reduceIte, Bool.false_eq_true, Nat.reduceEqDiff, Nat.reduceAdd, Int.reduceLE, Int.reduceLT, Int.reduceEq, Int.reduceToNat, Int.toNat_natCast, Int.cast_ofNat_Int, Int.natCast_one, Nat.reduceMod, Nat.reduceDiv, UInt8.reduceToNat, Nat.reduceLT, k]
  | true =>
    rw [h] at k
    have h1 : 1 ≤ a.length := by unfold endsB at h; simp only [Bool.and_eq_true, decide_eq_true_eq] at h; exact h.1
    have w1 : IntKind.i64.wrap ((a.length : Int) - 1) = ((a.length - 1 : Nat) : Int) := by rw [wrap_i64 (by omega) (by omega)]; omega
    have g1 : (0 : Int) ≤ ((a.length - 1 : Nat) : Int) ∧ ((a.length - 1 : Nat) : Int) ≤ (a.length : Int) := by omega
    simp (config := {contextual := true, implicitDefEqProofs := false, maxSteps := 4000000}) only [go_sem, ↓reduceIte, Bool.false_eq_true, Nat.reduceEqDiff, Nat.reduceAdd, Int.reduceLE, Int.reduceLT, Int.reduceEq, Int.reduceToNat, Int.toNat_natCast, Int.cast_ofNat_Int, Int.natCast_one, Nat.reduceMod, Nat.reduceDiv, UInt8.reduceToNat, Nat.reduceLT, k, w1, g1, List.length_cons, List.length_nil]
theorem c53 (a : List UInt8) (ha : a.length ≤ 4611686018427387904) (c : UInt8) (s : St) (K : AV → St → Prop) : CallW cx 53 [.str a, .str [c]] s K = K (.str (trimS c a)) s := by
  refine CallW.eq (CallW.fn' (fn := ir53) rfl rfl (by kernel_rfl) ir53.eq_1 ?_) K
  have k := fun st K => c67 a ha c st K
  simp (config := {contextual := true, implicitDefEqProofs := false, maxSteps := 4000000}) only [go_sem, ↓reduceIte, Bool.false_eq_true, Nat.reduceEqDiff, Nat.reduceAdd, Int.reduceLE, Int.reduceLT, Int.reduceEq, Int.reduceToNat, Int.toNat_natCast, Int.cast_ofNat_Int, Int.natCast_one, Nat.reduceMod, Nat.reduceDiv, UInt8.reduceToNat, Nat.reduceLT, k]
def twoB (x : Nat) : List UInt8 := (dec (100 + x)).drop 1
theorem dec_100 : ∀ x : Fin 100, (dec (100 + x.val)).length = 3 := by decide +kernel
theorem dec_1000 : ∀ x : Fin 1000, (dec (1000 + x.val)).length = 4 := by decide +kernel
theorem c55 (x : Nat) (hx : x < 100) (s : St) (K : AV → St → Prop) : CallW cx 55 [.int .i64 (x : Int)] s K = K (.str (twoB x)) s := by
  refine CallW.eq (CallW.fn' (fn := ir55) rfl rfl (by kernel_rfl) ir55.eq_1 ?_) K
  have w1 : IntKind.i64.wrap (100 + (x : Int)) = ((100 + x : Nat) : Int) := by rw [wrap_i64 (by omega) (by omega)]; omega
  have k := fun st K => c52 (100 + x) (by omega) st K
  have hl := dec_100 ⟨x, hx⟩
  simp only at hl
  unfold twoB
  generalize dec (100 + x) = d at *
  have g1 : (1 : Int) ≤ (d.length : Int) := by omega
  simp (config := {contextual := true, implicitDefEqProofs := false, maxSteps := 4000000}) only [go_sem, ↓reduceIte, Bool.false_eq_true, Nat.reduceEqDiff, Nat.reduceAdd, Int.reduceLE, Int.reduceLT, Int.reduceEq, Int.reduceToNat, Int.toNat_natCast, Int.cast_ofNat_Int, Int.natCast_one, Nat.reduceMod, Nat.reduceDiv, UInt8.reduceToNat, Nat.reduceLT, w1, k, g1]
end T17

/- The spelling of a possible token: the walk. -/
namespace T17
open Go Fw Go.Proofs
set_option maxRecDepth 100000
set_option maxHeartbeats 4000000
set_option linter.unusedSimpArgs false
set_option linter.unusedVariables false
theorem dec_len (x : Nat) (hx : x < 18446744073709551616) : (dec x).length ≤ 100 := by
  unfold dec
  split
  · simp
  · unfold decB nd
    rw [List.length_map, List.length_range]
    have := lenU_64 hx
    split <;> omega
theorem trimR_le (q : UInt8 → Bool) (a : List UInt8) : (trimR q a).length ≤ a.length := by
  unfold trimR
  rw [List.length_reverse]
  exact Nat.le_trans (List.dropWhile_sublist _).length_le (by rw [List.length_reverse]; exact Nat.le_refl _)
theorem trimS_le (c : UInt8) (a : List UInt8) : (trimS c a).length ≤ a.length := by
  unfold trimS
  split
  · rw [List.length_take]; omega
  · exact Nat.le_refl _
/-- The numeral of m thousandths. -/
def milB (m : Nat) : List UInt8 := trimS 46 (trimR (fun b => decide (b = 48)) ((dec (m / 1000) ++ [46]) ++ (dec (1000 + m % 1000)).drop 1))
/-- The spelling of a possible token. -/
def spellB (t : Tok) : List UInt8 :=
  if t.k = 2 then (if t.n < 0 then [45] else []) ++ milB t.n.natAbs
  else if t.k = 4 then (twoB (t.n.natAbs / 60) ++ [58]) ++ twoB (t.n.natAbs % 60)
  else if t.k = 3 then ([34] ++ t.t) ++ [34] else t.t
theorem c29 (t : Tok) (hl : t.t.length ≤ 1100000) (hv : validB t = true) (s : St) (K : AV → St → Prop) : CallW cx 29 [tokO t] s K = K (.str (spellB t)) s := by
  refine CallW.eq (CallW.fn' (fn := ir29) rfl rfl (by kernel_rfl) ir29.eq_1 ?_) K
  obtain ⟨k, a, n, p⟩ := t
  simp only at hl
  unfold validB at hv
  unfold spellB
  simp only at hv ⊢
  by_cases h2 : k = 2
  · subst h2
    rw [if_pos rfl] at hv ⊢
    simp only [Bool.and_eq_true, decide_eq_true_eq] at hv
    obtain ⟨_, hv1, hv2⟩ := hv
    obtain ⟨m, hm⟩ : ∃ m, n.natAbs = m := ⟨_, rfl⟩
    rw [hm]
    have m1 : Int.tdiv (m : Int) 1000 = ((m / 1000 : Nat) : Int) := by rw [Int.tdiv_eq_ediv_of_nonneg (by omega)]; rfl
    have m2 : Int.tmod (m : Int) 1000 = ((m % 1000 : Nat) : Int) := by rw [Int.tmod_eq_emod_of_nonneg (by omega)]; rfl
    have m3 : IntKind.i64.wrap ((m / 1000 : Nat) : Int) = ((m / 1000 : Nat) : Int) := wrap_i64 (by omega) (by omega)
    have m4 : IntKind.i64.wrap ((m % 1000 : Nat) : Int) = ((m % 1000 : Nat) : Int) := wrap_i64 (by omega) (by omega)
    have m5 : IntKind.i64.wrap (1000 + ((m % 1000 : Nat) : Int)) = ((1000 + m % 1000 : Nat) : Int) := by rw [wrap_i64 (by omega) (by omega)]; omega
    have k1 := fun st K => c52 (m / 1000) (by omega) st K
    have k2 := fun st K => c52 (1000 + m % 1000) (by omega) st K
    have l1 := dec_len (m / 1000) (by omega)
    have l2 := dec_1000 ⟨m % 1000, by omega⟩
    simp only at l2
    unfold milB
    obtain ⟨q, hq⟩ : ∃ q, m / 1000 = q := ⟨_, rfl⟩
    obtain ⟨r, hr⟩ : ∃ r, m % 1000 = r := ⟨_, rfl⟩
    rw [hq] at m1 m3 k1 l1 ⊢
    rw [hr] at m2 m4 m5 k2 l2 ⊢
    generalize dec q = x at *
    generalize dec (1000 + r) = y at *
    have g1 : (1 : Int) ≤ (y.length : Int) := by omega
    have hz : ((x ++ [46]) ++ y.drop 1).length ≤ 4611686018427387904 := by simp only [List.length_append, List.length_drop, List.length_cons, List.length_nil]; omega
    have g2 : x.length + 1 ≤ 9223372036854775807 := by omega
    have lz : ((x ++ [46]) ++ y.drop 1).length ≤ 200 := by simp only [List.length_append, List.length_drop, List.length_cons, List.length_nil]; omega
    have g3 : (x ++ [46]).length + (y.drop 1).length ≤ 9223372036854775807 := by simp only [List.length_append, List.length_drop, List.length_cons, List.length_nil]; omega
    have k3 := fun st K => c54 ((x ++ [46]) ++ y.drop 1) hz 48 (by decide) st K
    have lt := trimR_le (fun b => decide (b = 48)) ((x ++ [46]) ++ y.drop 1)
    generalize trimR (fun b => decide (b = 48)) ((x ++ [46]) ++ y.drop 1) = z at *
    have k4 := fun st K => c53 z (by omega) 46 st K
    have lu := trimS_le 46 z
    generalize trimS 46 z = w at *
    have g5 : 1 + w.length ≤ 9223372036854775807 := by omega
    have g6 : 0 + w.length ≤ 9223372036854775807 := by omega
    have g7 : w.length ≤ 9223372036854775807 := by omega
    by_cases hn : n < 0
    · have d1 : decide (n < 0) = true := decide_eq_true hn
      have w1 : IntKind.i64.wrap (0 - n) = (m : Int) := by rw [wrap_i64 (by omega) (by omega)]; omega
      rw [if_pos hn]
      simp (config := {contextual := true, implicitDefEqProofs := false, maxSteps := 4000000}) only [go_sem, ↓reduceIte, Bool.false_eq_true, Nat.reduceEqDiff, Nat.reduceAdd, Int.reduceLE, Int.reduceLT, Int.reduceEq, Int.reduceToNat, Int.toNat_natCast, Int.cast_ofNat_Int, Int.natCast_one, Nat.reduceMod, Nat.reduceDiv, UInt8.reduceToNat, Nat.reduceLT, d1, w1, m1, m2, m3, m4, m5, k1, k2, k3, k4, g1, g2, g3, g5, List.length_cons, List.length_nil, Nat.zero_add, show decide ((2 : Int) = 2) = true from rfl]
    · have d1 : decide (n < 0) = false := decide_eq_false hn
      rw [if_neg hn]
      have hnm : n = (m : Int) := by omega
      subst hnm
      simp (config := {contextual := true, implicitDefEqProofs := false, maxSteps := 4000000}) only [go_sem, ↓reduceIte, Bool.false_eq_true, Nat.reduceEqDiff, Nat.reduceAdd, Int.reduceLE, Int.reduceLT, Int.reduceEq, Int.reduceToNat, Int.toNat_natCast, Int.cast_ofNat_Int, Int.natCast_one, Nat.reduceMod, Nat.reduceDiv, UInt8.reduceToNat, Nat.reduceLT, d1, m1, m2, m3, m4, m5, k1, k2, k3, k4, g1, g2, g3, g7, List.length_cons, List.length_nil, Nat.zero_add, show decide ((2 : Int) = 2) = true from rfl]
  rw [if_neg h2] at hv ⊢
  have d2 : decide (k = 2) = false := decide_eq_false h2
  by_cases h4 : k = 4
  · subst h4
    rw [if_pos rfl] at hv ⊢
    simp only [Bool.and_eq_true, decide_eq_true_eq] at hv
    obtain ⟨_, hv1, hv2⟩ := hv
    obtain ⟨m, hm⟩ : ∃ m, n.natAbs = m := ⟨_, rfl⟩
    rw [hm]
    have hnm : n = (m : Int) := by omega
    subst hnm
    have m1 : Int.tdiv (m : Int) 60 = ((m / 60 : Nat) : Int) := by rw [Int.tdiv_eq_ediv_of_nonneg (by omega)]; rfl
    have m2 : Int.tmod (m : Int) 60 = ((m % 60 : Nat) : Int) := by rw [Int.tmod_eq_emod_of_nonneg (by omega)]; rfl
    have m3 : IntKind.i64.wrap ((m / 60 : Nat) : Int) = ((m / 60 : Nat) : Int) := wrap_i64 (by omega) (by omega)
    have m4 : IntKind.i64.wrap ((m % 60 : Nat) : Int) = ((m % 60 : Nat) : Int) := wrap_i64 (by omega) (by omega)
    have k1 := fun st K => c55 (m / 60) (by omega) st K
    have k2 := fun st K => c55 (m % 60) (by omega) st K
    have l1 : (twoB (m / 60)).length = 2 := by unfold twoB; rw [List.length_drop, dec_100 ⟨m / 60, by omega⟩]
    have l2 : (twoB (m % 60)).length = 2 := by unfold twoB; rw [List.length_drop, dec_100 ⟨m % 60, by omega⟩]
    generalize twoB (m / 60) = x at *
    generalize twoB (m % 60) = y at *
    have g2 : x.length + 1 ≤ 9223372036854775807 := by omega
    have g3 : (x ++ [58]).length + y.length ≤ 9223372036854775807 := by simp only [List.length_append, List.length_cons, List.length_nil]; omega
    simp (config := {contextual := true, implicitDefEqProofs := false, maxSteps := 4000000}) only [go_sem, ↓reduceIte, Bool.false_eq_true, Nat.reduceEqDiff, Nat.reduceAdd, Int.reduceLE, Int.reduceLT, Int.reduceEq, Int.reduceToNat, Int.toNat_natCast, Int.cast_ofNat_Int, Int.natCast_one, Nat.reduceMod, Nat.reduceDiv, UInt8.reduceToNat, Nat.reduceLT, d2, m1, m2, m3, m4, k1, k2, g2, g3, List.length_cons, List.length_nil, Nat.zero_add, show decide ((4 : Int) = 2) = false from rfl, show decide ((4 : Int) = 4) = true from rfl]
  rw [if_neg h4]
  have d4 : decide (k = 4) = false := decide_eq_false h4
  by_cases h3 : k = 3
  · subst h3
    rw [if_pos rfl]
    have g2 : 1 + a.length ≤ 9223372036854775807 := by omega
    have g3 : ([34] ++ a).length + 1 ≤ 9223372036854775807 := by simp only [List.length_append, List.length_cons, List.length_nil]; omega
    have g4 : a.length + 1 + 1 ≤ 9223372036854775807 := by omega
    simp (config := {contextual := true, implicitDefEqProofs := false, maxSteps := 4000000}) only [go_sem, ↓reduceIte, Bool.false_eq_true, Nat.reduceEqDiff, Nat.reduceAdd, Int.reduceLE, Int.reduceLT, Int.reduceEq, Int.reduceToNat, Int.toNat_natCast, Int.cast_ofNat_Int, Int.natCast_one, Nat.reduceMod, Nat.reduceDiv, UInt8.reduceToNat, Nat.reduceLT, d2, d4, g2, g3, g4, List.length_cons, List.length_nil, Nat.zero_add, show decide ((3 : Int) = 2) = false from rfl, show decide ((3 : Int) = 4) = false from rfl, show decide ((3 : Int) = 3) = true from rfl]
  rw [if_neg h3]
  have d3 : decide (k = 3) = false := decide_eq_false h3
  simp (config := {contextual := true, implicitDefEqProofs := false, maxSteps := 4000000}) only [go_sem, ↓reduceIte, Bool.false_eq_true, Nat.reduceEqDiff, Nat.reduceAdd, Int.reduceLE, Int.reduceLT, Int.reduceEq, Int.reduceToNat, Int.toNat_natCast, Int.cast_ofNat_Int, Int.natCast_one, Nat.reduceMod, Nat.reduceDiv, UInt8.reduceToNat, Nat.reduceLT, d2, d4, d3]
/-- The spelling of a token, or an error. -/
theorem c10 (t : Tok) (hl : t.t.length ≤ 1100000) (s : St) (K : AV → St → Prop) : CallW cx 10 [tokO t] s K = K (.tuple [.str (if validB t then spellB t else []), .int .i64 (if validB t then 0 else 1)]) s := by
  refine CallW.eq (CallW.fn' (fn := ir10) rfl rfl (by kernel_rfl) ir10.eq_1 ?_) K
  have k1 := fun st K => c12 t hl st K
  obtain ⟨k, a, n, p⟩ := t
  cases h : validB ⟨k, a, n, p⟩ with
  | false =>
    rw [h] at k1
    simp (config := {contextual := true, implicitDefEqProofs := false, maxSteps := 4000000}) only [go_sem, ↓reduceIte, Bool.false_eq_true, Nat.reduceEqDiff, Nat.reduceAdd, Int.reduceLE, Int.reduceLT, Int.reduceEq, Int.reduceToNat, Int.toNat_natCast, Int.cast_ofNat_Int, Int.natCast_one, Nat.reduceMod, Nat.reduceDiv, UInt8.reduceToNat, Nat.reduceLT, k1]
  | true =>
    have k2 := fun st K => c29 ⟨k, a, n, p⟩ hl h st K
    rw [h] at k1
    simp (config := {contextual := true, implicitDefEqProofs := false, maxSteps := 4000000}) only [go_sem, ↓reduceIte, Bool.false_eq_true, Nat.reduceEqDiff, Nat.reduceAdd, Int.reduceLE, Int.reduceLT, Int.reduceEq, Int.reduceToNat, Int.toNat_natCast, Int.cast_ofNat_Int, Int.natCast_one, Nat.reduceMod, Nat.reduceDiv, UInt8.reduceToNat, Nat.reduceLT, k1, k2]
end T17

/- Numerals: their digits and their value. -/
namespace T17
open Go Fw Go.Proofs
set_option maxRecDepth 100000
theorem decB_succ (x n : Nat) : decB x (n + 1) = decB (x / 10) n ++ [UInt8.ofNat (48 + x % 10)] := by
  unfold decB
  rw [List.range_succ, List.map_append, List.map_singleton]
  congr 1
  · refine List.map_congr_left fun j hj => ?_
    have hj := List.mem_range.1 hj
    rw [show n + 1 - 1 - j = (n - 1 - j) + 1 by omega, Nat.pow_succ, Nat.mul_comm, ← Nat.div_div_eq_div_mul]
  · simp
theorem dig_D (d : Nat) (h : d < 10) : isD (UInt8.ofNat (48 + d)) = true ∧ (UInt8.ofNat (48 + d)).toNat - 48 = d := by
  have : ∀ d : Fin 10, isD (UInt8.ofNat (48 + d.val)) = true ∧ (UInt8.ofNat (48 + d.val)).toNat - 48 = d.val := by decide
  exact this ⟨d, h⟩
theorem numF_app : ∀ (a b : List UInt8) (n : Nat), numF (a ++ b) n = numF b (numF a n)
  | [], b, n => rfl
  | c :: l, b, n => by simp only [List.cons_append, numF]; exact numF_app l b _
theorem decB_all (n : Nat) : ∀ x, (decB x n).all isD = true ∧ (x < 10 ^ n → numF (decB x n) 0 = x) ∧ (decB x n).length = n := by
  induction n with
  | zero => intro x; refine ⟨rfl, fun h => ?_, rfl⟩; simp at h; subst h; rfl
  | succ n ih =>
    intro x
    obtain ⟨h1, h2, h3⟩ := ih (x / 10)
    obtain ⟨d1, d2⟩ := dig_D (x % 10) (Nat.mod_lt _ (by decide))
    rw [decB_succ]
    refine ⟨by rw [List.all_append, h1, List.all_cons, d1]; rfl, fun h => ?_, by simp [h3]⟩
    rw [numF_app, h2 (by rw [Nat.pow_succ] at h; omega)]
    simp only [numF, d2]
    omega
end T17

/- The numeral of a number: its digits, value, first digit. -/
namespace T17
open Go Fw Go.Proofs
set_option maxRecDepth 100000
theorem decB_first : ∀ (n x : Nat), 10 ^ n ≤ x → x < 10 ^ (n + 1) → (decB x (n + 1)).getD 0 0 ≠ 48
  | 0, x, h, h2 => by
    have : ∀ d : Fin 10, 1 ≤ d.val → (decB d.val 1).getD 0 0 ≠ 48 := by decide
    exact this ⟨x, by simpa using h2⟩ (by simpa using h)
  | n + 1, x, h, h2 => by
    rw [decB_succ]
    have ih := decB_first n (x / 10) (by rw [Nat.pow_succ] at h; omega) (by rw [Nat.pow_succ] at h2; omega)
    have hl := (decB_all (n + 1) (x / 10)).2.2
    obtain ⟨b, l, hb⟩ : ∃ b l, decB (x / 10) (n + 1) = b :: l := by
      cases hd : decB (x / 10) (n + 1) with
      | nil => rw [hd] at hl; simp at hl
      | cons b l => exact ⟨b, l, rfl⟩
    rw [hb] at ih ⊢
    exact ih
theorem dec_facts (x : Nat) (hx : x < 18446744073709551616) : (dec x).all isD = true ∧ numF (dec x) 0 = x ∧ dec x ≠ [] ∧ (1 < (dec x).length → (dec x).getD 0 0 ≠ 48) ∧ (∀ k, 1 ≤ k → x < 10 ^ k → (dec x).length ≤ k) := by
  unfold dec
  by_cases h : x = 0
  · rw [if_pos h]
    exact ⟨rfl, by subst h; rfl, by simp, fun h => by simp at h, fun k h _ => h⟩
  rw [if_neg h]
  obtain ⟨f1, f2, f3, f4⟩ := nd_facts hx (by omega)
  obtain ⟨g1, g2, g3⟩ := decB_all (nd x) x
  refine ⟨g1, g2 f3, fun h => by rw [h] at g3; simp at g3; omega, fun _ => ?_, fun k hk hxk => ?_⟩
  · obtain ⟨n, hn⟩ : ∃ n, nd x = n + 1 := ⟨nd x - 1, by omega⟩
    rw [hn] at f3 f4 ⊢
    exact decB_first n x (by simpa using f4) f3
  · rw [g3]
    have h1 : 10 ^ (nd x - 1) < 10 ^ k := Nat.lt_of_le_of_lt f4 hxk
    have := (Nat.pow_lt_pow_iff_right (by decide : 1 < 10)).1 h1
    omega
end T17

/- The numeral of thousandths, in its parts. -/
namespace T17
open Go Fw Go.Proofs
set_option maxRecDepth 100000
theorem trimR_app (p : UInt8 → Bool) (x y : List UInt8) (h : trimR p y ≠ []) : trimR p (x ++ y) = x ++ trimR p y := by
  unfold trimR at h ⊢
  rw [List.reverse_append, List.dropWhile_append]
  have h2 : (y.reverse.dropWhile p).isEmpty = false := by
    cases hd : y.reverse.dropWhile p with
    | nil => rw [hd] at h; simp at h
    | cons b l => rfl
  rw [h2]
  simp
theorem ends_app (c : UInt8) (x y : List UInt8) (h : y ≠ []) : endsB c (x ++ y) = endsB c y := by
  have hl : 1 ≤ y.length := List.length_pos_iff.2 h
  unfold endsB
  rw [List.length_append, decide_eq_true (show 1 ≤ x.length + y.length by omega), decide_eq_true hl, show x.length + y.length - 1 = x.length + (y.length - 1) by omega, List.drop_append]
  rw [List.drop_eq_nil_of_le (by omega), List.nil_append, show x.length + (y.length - 1) - x.length = y.length - 1 by omega]
theorem trimS_app (c : UInt8) (x y : List UInt8) (h : y ≠ []) : trimS c (x ++ y) = x ++ trimS c y := by
  have hl : 1 ≤ y.length := List.length_pos_iff.2 h
  unfold trimS
  rw [ends_app c x y h]
  split
  · rw [List.length_append, show x.length + y.length - 1 = x.length + (y.length - 1) by omega, List.take_append]
    rw [List.take_of_length_le (by omega), show x.length + (y.length - 1) - x.length = y.length - 1 by omega]
  · rfl
def gR (r : Nat) : List UInt8 := trimR (fun b => decide (b = 48)) (46 :: (dec (1000 + r)).drop 1)
def gS (r : Nat) : List UInt8 := trimS 46 (gR r)
def gOk (r : Nat) : Bool := decide (gR r ≠ []) && (if r = 0 then decide (gS r = []) else decide ((gS r).head? = some 46) && (decide ((gS r).tail.length ≤ 3) && (decide ((gS r).tail ≠ []) && ((gS r).tail.all isD && decide (numF (((gS r).tail ++ [48, 48, 48]).take 3) 0 = r)))))
theorem g_ok : ∀ r : Fin 1000, gOk r.val = true := by decide +kernel
theorem mil_eq (m : Nat) : milB m = dec (m / 1000) ++ gS (m % 1000) := by
  have h := g_ok ⟨m % 1000, Nat.mod_lt _ (by decide)⟩
  simp only [gOk, Bool.and_eq_true, decide_eq_true_eq] at h
  unfold milB gS
  rw [List.append_assoc, List.singleton_append]
  have h1 : trimR (fun b => decide (b = 48)) (46 :: (dec (1000 + m % 1000)).drop 1) ≠ [] := h.1
  rw [trimR_app _ _ _ h1]
  exact trimS_app 46 _ _ h1
end T17
