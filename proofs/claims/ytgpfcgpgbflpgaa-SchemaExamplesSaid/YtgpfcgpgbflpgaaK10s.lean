/- Parts of the proof, one behind the other. -/
import Derived.Test.YtgpfcgpgbflpgaaK10d
import Derived.Test.YtgpfcgpgbflpgaaFwX
/- What the functions that SchemaFits reaches compute. -/
namespace T10
open Go Fw Go.Proofs
set_option maxRecDepth 100000
set_option linter.unusedSimpArgs false
set_option linter.unusedVariables false
/-- The bytes of a name. -/
def okB (b : UInt8) : Bool := (decide (97 ≤ b.toNat) && decide (b.toNat ≤ 122)) || (decide (48 ≤ b.toNat) && decide (b.toNat ≤ 57)) || decide (b.toNat = 95)
def lowB (b : UInt8) : Bool := decide (97 ≤ b.toNat) && decide (b.toNat ≤ 122)
def nameB (a : List UInt8) : Bool := decide (a ≠ []) && decide (a.length ≤ 24) && lowB (a.getD 0 0) && a.all okB
theorem drop_at {a : List UInt8} {i : Nat} (h : i < a.length) : a.drop i = a.getD i 0 :: a.drop (i + 1) := by
  rw [List.drop_eq_getElem_cons h]; simp [List.getD, h]
theorem wrap_one {i : Nat} (h : i < 9223372036854775807) : IntKind.i64.wrap ((i : Int) + 1) = ((i + 1 : Nat) : Int) := by rw [wrap_i64 (by omega) (by omega)]; rfl

/- schema.name -/
theorem l35 (a : List UInt8) (hl : a.length ≤ 4611686018427387904) (st : St) (Q : Sig → FE → St → Prop) : ∀ (n i : Nat) (e : FE), i + n = a.length → e 0 = .str a → e 23 = .int .i64 a.length → e 24 = .int .i64 i →
    ((a.drop i).all okB = true → ∀ e', Q (.exit 0) e' st) → ((a.drop i).all okB = false → ∀ e', e' 2 = .bool false → Q .ret e' st) → WLoop cx ir35L0 e st Q
  | 0, i, e, hi, h0, h1, h2, hT, hF => by
    refine WLoop.rnd (c := _) ir35L0.eq_1 ?_
    have hd : decide ((i : Int) < (a.length : Int)) = false := by simp; omega
    simp (config := {contextual := true, implicitDefEqProofs := false, maxSteps := 1000000}) only [go_sem, ↓reduceIte, Bool.false_eq_true, Nat.reduceEqDiff, Nat.reduceAdd, Int.reduceLE, Int.reduceToNat, h0, h1, h2, hd]
    exact hT (by rw [List.drop_eq_nil_of_le (by omega)]; rfl) _
  | n + 1, i, e, hi, h0, h1, h2, hT, hF => by
    refine WLoop.rnd (c := _) ir35L0.eq_1 ?_
    have hd : decide ((i : Int) < (a.length : Int)) = true := by simp; omega
    simp (config := {contextual := true, implicitDefEqProofs := false, maxSteps := 1000000}) only [go_sem, ↓reduceIte, Bool.false_eq_true, Nat.reduceEqDiff, Nat.reduceAdd, Int.reduceLE, Int.reduceToNat, h0, h1, h2, hd, Int.toNat_natCast]
    have hda := drop_at (a := a) (i := i) (by omega)
    have hw := wrap_one (i := i) (by omega)
    rw [hda, List.all_cons] at hT hF
    generalize a.getD i 0 = c at *
    have next : okB c = true → ∀ e', e' 0 = .str a → e' 23 = .int .i64 a.length → e' 24 = .int .i64 (IntKind.i64.wrap ((i : Int) + 1)) → WLoop cx ir35L0 e' st Q := fun hc e' k0 k1 k2 =>
      l35 a hl st Q n (i + 1) e' (by omega) k0 k1 (by rw [k2, hw]) (fun h => hT (by rw [hc, h]; rfl)) (fun h => hF (by rw [hc, h]; rfl))
    refine ⟨by omega, by omega, ?_⟩
    unfold pif
    repeat' split
    all_goals first
      | (refine hF ?_ _ rfl; have : okB c = false := (by clear next hT hF hda; simp_all [okB] <;> omega); rw [this]; rfl)
      | (refine next ?_ _ h0 h1 rfl; clear next hT hF hda; simp_all [okB] <;> omega)

theorem nonempty_of_lt {a : List UInt8} (h : a ≠ []) : 0 < a.length := List.length_pos_iff.2 h

theorem c35 (a : List UInt8) (s : St) (K : AV → St → Prop) : CallW cx 35 [.str a] s K = K (.bool (nameB a)) s := by
  refine CallW.eq (CallW.fn' (fn := ir35) rfl rfl (by kernel_rfl) ir35.eq_1 ?_) K
  simp (config := {contextual := true, implicitDefEqProofs := false, maxSteps := 1000000}) only [go_sem, ↓reduceIte, Bool.false_eq_true, Nat.reduceEqDiff, Nat.reduceAdd, Int.reduceLE, Int.reduceToNat]
  by_cases h0 : a = []
  · subst h0; simp [pif, nameB]
  have h1 : 0 < a.length := nonempty_of_lt h0
  have hn : nameB a = (decide (a.length ≤ 24) && lowB (a.getD 0 0) && a.all okB) := by simp [nameB, h0]
  have hd : decide (a = []) = false := by simp [h0]
  rw [hn, hd, pif_false]
  generalize hc : a.getD 0 0 = c
  by_cases h2 : 24 < a.length
  · have hx : decide (24 < (a.length : Int)) = true := by simp; omega
    have hy : decide (a.length ≤ 24) = false := by simp; omega
    simp [hx, hy, pif]
  have hx : decide (24 < (a.length : Int)) = false := by simp; omega
  have hy : decide (a.length ≤ 24) = true := by simp; omega
  rw [hx, hy, pif_false]
  refine ⟨by omega, ?_⟩
  by_cases h3 : c.toNat < 97
  · have hx : decide ((c.toNat : Int) < 97) = true := by simp; omega
    have hy : lowB c = false := by simp [lowB]; omega
    simp [hx, hy, pif]
  have hx3 : decide ((c.toNat : Int) < 97) = false := by simp; omega
  rw [hx3, pif_false]
  refine ⟨by omega, ?_⟩
  by_cases h4 : 122 < c.toNat
  · have hx : decide (122 < (c.toNat : Int)) = true := by simp; omega
    have hy : lowB c = false := by simp [lowB]; omega
    simp [hx, hy, pif]
  have hx4 : decide (122 < (c.toNat : Int)) = false := by simp; omega
  have hy4 : lowB c = true := by simp [lowB]; omega
  rw [hx4, hy4, pif_false]
  refine l35 a (by omega) _ _ a.length 0 _ (by omega) rfl rfl rfl ?_ ?_
  · intro h e'
    rw [List.drop_zero] at h
    simp (config := {implicitDefEqProofs := false, maxSteps := 1000000}) only [go_sem, ↓reduceIte, h]
  · intro h e' h2
    rw [List.drop_zero] at h
    simp (config := {implicitDefEqProofs := false, maxSteps := 1000000}) only [go_sem, ↓reduceIte, h, h2, Bool.and_false]

/- ref.Name -/
theorem l26 (a : List UInt8) (hl : a.length ≤ 4611686018427387904) (st : St) (Q : Sig → FE → St → Prop) : ∀ (n i : Nat) (e : FE), i + n = a.length → e 0 = .str a → e 3 = .int .i64 i →
    (((a.drop i).all okB && (decide (i ≠ 0) || decide (a = []) || lowB (a.getD 0 0))) = true → ∀ e', e' 0 = .str a → Q (.exit 0) e' st) → (((a.drop i).all okB && (decide (i ≠ 0) || decide (a = []) || lowB (a.getD 0 0))) = false → ∀ e', e' 2 = .bool false → Q .ret e' st) → WLoop cx ir26L0 e st Q
  | 0, i, e, hi, h0, h2, hT, hF => by
    refine WLoop.rnd (c := _) ir26L0.eq_1 ?_
    have hd : decide ((i : Int) < (a.length : Int)) = false := by simp; omega
    simp (config := {contextual := true, implicitDefEqProofs := false, maxSteps := 1000000}) only [go_sem, ↓reduceIte, Bool.false_eq_true, Nat.reduceEqDiff, Nat.reduceAdd, Int.reduceLE, Int.reduceToNat, h0, h2, hd]
    refine hT ?_ _ h0
    rw [List.drop_eq_nil_of_le (by omega)]
    by_cases h : a = []
    · simp [h]
    · have := nonempty_of_lt h
      simp; left; left; omega
  | n + 1, i, e, hi, h0, h2, hT, hF => by
    refine WLoop.rnd (c := _) ir26L0.eq_1 ?_
    have hd : decide ((i : Int) < (a.length : Int)) = true := by simp; omega
    simp (config := {contextual := true, implicitDefEqProofs := false, maxSteps := 1000000}) only [go_sem, ↓reduceIte, Bool.false_eq_true, Nat.reduceEqDiff, Nat.reduceAdd, Int.reduceLE, Int.reduceToNat, h0, h2, hd, Int.toNat_natCast]
    have hda := drop_at (a := a) (i := i) (by omega)
    have hw := wrap_one (i := i) (by omega)
    have hne : decide (a = []) = false := by
      simp; intro h; subst h; simp at hi
    rw [hda, List.all_cons, hne] at hT hF
    refine ⟨by omega, by omega, ?_⟩
    have next : okB (a.getD i 0) = true → (i = 0 → lowB (a.getD 0 0) = true) → ∀ e', e' 0 = .str a → e' 3 = .int .i64 (IntKind.i64.wrap ((i : Int) + 1)) → WLoop cx ir26L0 e' st Q := fun hc hz e' k0 k2 =>
by
      have hA : ((a.drop (i + 1)).all okB && (decide (i + 1 ≠ 0) || decide (a = []) || lowB (a.getD 0 0))) = (a.drop (i + 1)).all okB := by
        have : decide (i + 1 ≠ 0) = true := by simp
        rw [this, Bool.true_or, Bool.true_or, Bool.and_true]
      have hB : (okB (a.getD i 0) && (a.drop (i + 1)).all okB && (decide (i ≠ 0) || false || lowB (a.getD 0 0))) = (a.drop (i + 1)).all okB := by
        rw [hc]
        by_cases hi0 : i = 0
        · rw [hz hi0, Bool.or_true, Bool.and_true, Bool.true_and]
        · have : decide (i ≠ 0) = true := by simp [hi0]
          rw [this, Bool.true_or, Bool.true_or, Bool.and_true, Bool.true_and]
      rw [hB] at hT hF
      exact l26 a hl st Q n (i + 1) e' (by omega) k0 (by rw [k2, hw]) (by rw [hA]; exact hT) (by rw [hA]; exact hF)
    by_cases hi0 : i = 0
    · subst hi0
      have hz : decide (((0 : Nat) : Int) = 0) = true := rfl
      simp only [hz]
      generalize a.getD 0 0 = c at *
      unfold pif
      repeat' split
      all_goals first
        | (refine hF ?_ _ rfl; have : lowB c = false := (by clear next hT hF hda; simp_all [lowB] <;> omega); rw [this]; simp; done)
        | (refine next ?_ (fun _ => ?_) _ h0 rfl <;> clear next hT hF hda <;> simp_all [okB, lowB] <;> omega)
        | (exfalso; clear next hT hF hda; simp_all; done)
    · have hz : decide ((i : Int) = 0) = false := by simp; exact hi0
      simp only [hz]
      generalize a.getD i 0 = c at *
      unfold pif
      repeat' split
      all_goals first
        | (refine hF ?_ _ rfl; have : okB c = false := (by clear next hT hF hda; simp_all [okB] <;> omega); rw [this]; simp; done)
        | (refine next ?_ (fun h => absurd h hi0) _ h0 rfl; clear next hT hF hda; simp_all [okB] <;> omega)
        | (exfalso; clear next hT hF hda; simp_all; done)

theorem c26 (a : List UInt8) (hl : a.length ≤ 4611686018427387904) (s : St) (K : AV → St → Prop) : CallW cx 26 [.str a] s K = K (.bool (nameB a)) s := by
  refine CallW.eq (CallW.fn' (fn := ir26) rfl rfl (by kernel_rfl) ir26.eq_1 ?_) K
  simp (config := {contextual := true, implicitDefEqProofs := false, maxSteps := 1000000}) only [go_sem, ↓reduceIte, Bool.false_eq_true, Nat.reduceEqDiff, Nat.reduceAdd, Int.reduceLE, Int.reduceToNat]
  refine l26 a hl _ _ a.length 0 _ (by omega) rfl rfl ?_ ?_
  · intro h e' h0
    rw [List.drop_zero] at h
    simp (config := {contextual := true, implicitDefEqProofs := false, maxSteps := 1000000}) only [go_sem, ↓reduceIte, Bool.false_eq_true, Nat.reduceEqDiff, h0]
    by_cases he : a = []
    · subst he; simp [nameB, pif]
    · have hp := nonempty_of_lt he
      simp [he] at h
      have hx : decide (1 ≤ (a.length : Int)) = true := by simp; omega
      have hn : nameB a = decide (a.length ≤ 24) := by
        simp only [nameB]
        rw [show lowB (a.getD 0 0) = true by simpa using h.2]
        have : a.all okB = true := by simpa using h.1
        rw [this]; simp [he]
      rw [hx, hn, pif_true]
      simp
      omega
  · intro h e' h2
    rw [List.drop_zero] at h
    simp (config := {implicitDefEqProofs := false, maxSteps := 1000000}) only [go_sem, ↓reduceIte, h2]
    have hn : nameB a = false := by
      by_cases he : a = []
      · subst he; rfl
      · simp [he] at h
        simp only [nameB]
        cases h1 : a.all okB with
        | false => simp
        | true =>
          have := h (by simpa using h1)
          have h3 : lowB (a.getD 0 0) = false := by simpa using this
          rw [h3]; simp
    rw [hn]
end T10

/- What the functions that SchemaFits reaches compute, continued: paths. -/
namespace T10
open Go Fw Go.Proofs
set_option maxRecDepth 100000
set_option linter.unusedSimpArgs false
set_option linter.unusedVariables false
theorem findByte_spec (c : UInt8) : ∀ (l : List UInt8) (i : Nat), findByte c l i = -1 ∨ ∃ j : Nat, findByte c l i = (j : Int) ∧ i ≤ j ∧ j < i + l.length
  | [], i => .inl rfl
  | b :: l, i => by
    simp only [findByte]
    by_cases h : b = c
    · rw [if_pos h]; exact .inr ⟨i, rfl, Nat.le_refl _, by simp⟩
    · rw [if_neg h]
      rcases findByte_spec c l (i + 1) with h1 | ⟨j, h1, h2, h3⟩
      · exact .inl h1
      · exact .inr ⟨j, h1, by omega, by simp at h3 ⊢; omega⟩
/-- A path: a name, a stroke, a name. -/
def pathB (a : List UInt8) : Bool := match findByte 47 a 0 with
  | .ofNat j => nameB (a.take j) && nameB (a.drop (j + 1))
  | .negSucc _ => false
theorem byte_eq {c : UInt8} {n : UInt8} (h : (c.toNat : Int) = (n.toNat : Int)) : c = n := UInt8.toNat.inj (by omega)

theorem l27 (a : List UInt8) (hl : a.length ≤ 4611686018427387904) (st : St) (Q : Sig → FE → St → Prop) : ∀ (n i : Nat) (e : FE), i + n = a.length → e 0 = .str a → e 3 = .int .i64 i →
    (findByte 47 (a.drop i) i = -1 → ∀ e', Q (.exit 0) e' st) → (∀ j : Nat, findByte 47 (a.drop i) i = (j : Int) → ∀ e', e' 2 = .bool (nameB (a.take j) && nameB (a.drop (j + 1))) → Q .ret e' st) → WLoop cx ir27L0 e st Q
  | 0, i, e, hi, h0, h2, hT, hF => by
    refine WLoop.rnd (c := _) ir27L0.eq_1 ?_
    have hd : decide ((i : Int) < (a.length : Int)) = false := by simp; omega
    simp (config := {contextual := true, implicitDefEqProofs := false, maxSteps := 4000000}) only [go_sem, ↓reduceIte, Bool.false_eq_true, Nat.reduceEqDiff, Nat.reduceAdd, Int.reduceLE, Int.reduceLT, Int.reduceEq, Int.reduceToNat, Int.toNat_natCast, Int.cast_ofNat_Int, Int.natCast_one, Nat.reduceMod, Nat.reduceDiv, h0, h2, hd]
    exact hT (by rw [List.drop_eq_nil_of_le (by omega)]; rfl) _
  | n + 1, i, e, hi, h0, h2, hT, hF => by
    refine WLoop.rnd (c := _) ir27L0.eq_1 ?_
    have hd : decide ((i : Int) < (a.length : Int)) = true := by simp; omega
    have k1 := fun K => c26 (a.take i) (by simp; omega) st K
    have k2 := fun K => c26 (a.drop (i + 1)) (by simp; omega) st K
    have hw := wrap_one (i := i) (by omega)
    simp (config := {contextual := true, implicitDefEqProofs := false, maxSteps := 4000000}) only [go_sem, ↓reduceIte, Bool.false_eq_true, Nat.reduceEqDiff, Nat.reduceAdd, Int.reduceLE, Int.reduceLT, Int.reduceEq, Int.reduceToNat, Int.toNat_natCast, Int.cast_ofNat_Int, Int.natCast_one, Nat.reduceMod, Nat.reduceDiv, h0, h2, hd, k1, k2, hw]
    have hda := drop_at (a := a) (i := i) (by omega)
    rw [hda] at hT hF
    simp only [findByte] at hT hF
    refine ⟨by omega, by omega, ?_⟩
    by_cases hc : a.getD i 0 = 47
    · have hx : decide ((((a.getD i 0).toNat : Nat) : Int) = 47) = true := by rw [hc]; rfl
      rw [hx, pif_true]
      refine ⟨by omega, ?_⟩
      rw [if_pos hc] at hF
      have hF := hF i rfl
      cases hn : nameB (a.take i) with
      | true =>
        rw [pif_true]
        refine ⟨by omega, hF _ ?_⟩
        rw [hn]; rfl
      | false =>
        rw [pif_false]
        refine hF _ ?_
        rw [hn]; rfl
    · have hx : decide ((((a.getD i 0).toNat : Nat) : Int) = 47) = false := by
        simp only [decide_eq_false_iff_not]; intro h; exact hc (byte_eq (n := 47) h)
      rw [hx, pif_false]
      rw [if_neg hc] at hT hF
      exact l27 a hl st Q n (i + 1) _ (by omega) h0 rfl hT hF

theorem c27 (a : List UInt8) (hl : a.length ≤ 4611686018427387904) (s : St) (K : AV → St → Prop) : CallW cx 27 [.str a] s K = K (.bool (pathB a)) s := by
  refine CallW.eq (CallW.fn' (fn := ir27) rfl rfl (by kernel_rfl) ir27.eq_1 ?_) K
  simp (config := {contextual := true, implicitDefEqProofs := false, maxSteps := 4000000}) only [go_sem, ↓reduceIte, Bool.false_eq_true, Nat.reduceEqDiff, Nat.reduceAdd, Int.reduceLE, Int.reduceLT, Int.reduceEq, Int.reduceToNat, Int.toNat_natCast, Int.cast_ofNat_Int, Int.natCast_one, Nat.reduceMod, Nat.reduceDiv]
  refine l27 a hl _ _ a.length 0 _ (by omega) rfl rfl ?_ ?_
  · intro h e'
    rw [List.drop_zero] at h
    simp (config := {contextual := true, implicitDefEqProofs := false, maxSteps := 4000000}) only [go_sem, ↓reduceIte, Bool.false_eq_true, Nat.reduceEqDiff, Nat.reduceAdd, Int.reduceLE, Int.reduceLT, Int.reduceEq, Int.reduceToNat, Int.toNat_natCast, Int.cast_ofNat_Int, Int.natCast_one, Nat.reduceMod, Nat.reduceDiv]
    simp only [pathB, h]; try rfl
  · intro j h e' h2
    rw [List.drop_zero] at h
    simp (config := {contextual := true, implicitDefEqProofs := false, maxSteps := 4000000}) only [go_sem, ↓reduceIte, Bool.false_eq_true, Nat.reduceEqDiff, Nat.reduceAdd, Int.reduceLE, Int.reduceLT, Int.reduceEq, Int.reduceToNat, Int.toNat_natCast, Int.cast_ofNat_Int, Int.natCast_one, Nat.reduceMod, Nat.reduceDiv, h2]
    simp only [pathB, h]; try rfl

theorem c91 (a : List UInt8) (c : Int) (s : St) (K : AV → St → Prop) : CallW cx 91 [.str a, .int .u8 c] s K = K (.int .i64 (findByte c.toNat.toUInt8 a 0)) s :=
  CallW.eq (CallW.ext (g := xIndexByte) rfl (by simp only [xIndexByte, oget_some, and_self])) K
theorem c87 (a : List UInt8) (c : Int) (s : St) (K : AV → St → Prop) : CallW cx 87 [.str a, .int .u8 c] s K = K (.int .i64 (findByte c.toNat.toUInt8 a 0)) s := by
  refine CallW.eq (CallW.fn' (fn := ir87) rfl rfl (by kernel_rfl) ir87.eq_1 ?_) K
  simp (config := {contextual := true, implicitDefEqProofs := false, maxSteps := 4000000}) only [go_sem, ↓reduceIte, Bool.false_eq_true, Nat.reduceEqDiff, Nat.reduceAdd, Int.reduceLE, Int.reduceLT, Int.reduceEq, Int.reduceToNat, Int.toNat_natCast, Int.cast_ofNat_Int, Int.natCast_one, Nat.reduceMod, Nat.reduceDiv, c91]
theorem u8_back (c : UInt8) : ((c.toNat : Int).toNat).toUInt8 = c := by simp
theorem c85 (a : List UInt8) (c : UInt8) (s : St) (K : AV → St → Prop) : CallW cx 85 [.str a, .str [c]] s K = K (.int .i64 (findByte c a 0)) s := by
  refine CallW.eq (CallW.fn' (fn := ir85) rfl rfl (by kernel_rfl) ir85.eq_1 ?_) K
  by_cases ha : [c] = a
  · have hx : decide ([c] = a) = true := by simp [ha]
    simp (config := {contextual := true, implicitDefEqProofs := false, maxSteps := 4000000}) only [go_sem, ↓reduceIte, Bool.false_eq_true, Nat.reduceEqDiff, Nat.reduceAdd, Int.reduceLE, Int.reduceLT, Int.reduceEq, Int.reduceToNat, Int.toNat_natCast, Int.cast_ofNat_Int, Int.natCast_one, Nat.reduceMod, Nat.reduceDiv, c87, hx, u8_back, Int.toNat_natCast, UInt8.ofNat_toNat, Nat.toUInt8_eq]
    subst ha; simp [findByte]
  · have hx : decide ([c] = a) = false := by simp [ha]
    simp (config := {contextual := true, implicitDefEqProofs := false, maxSteps := 4000000}) only [go_sem, ↓reduceIte, Bool.false_eq_true, Nat.reduceEqDiff, Nat.reduceAdd, Int.reduceLE, Int.reduceLT, Int.reduceEq, Int.reduceToNat, Int.toNat_natCast, Int.cast_ofNat_Int, Int.natCast_one, Nat.reduceMod, Nat.reduceDiv, c87, hx, u8_back, Int.toNat_natCast, UInt8.ofNat_toNat, Nat.toUInt8_eq]

theorem c77n (a : List UInt8) (c : UInt8) (h : findByte c a 0 = -1) (s : St) (K : AV → St → Prop) : CallW cx 77 [.str a, .str [c]] s K = K (.tuple [.str a, .str [], .bool false]) s := by
  refine CallW.eq (CallW.fn' (fn := ir77) rfl rfl (by kernel_rfl) ir77.eq_1 ?_) K
  simp (config := {contextual := true, implicitDefEqProofs := false, maxSteps := 4000000}) only [go_sem, ↓reduceIte, Bool.false_eq_true, Nat.reduceEqDiff, Nat.reduceAdd, Int.reduceLE, Int.reduceLT, Int.reduceEq, Int.reduceToNat, Int.toNat_natCast, Int.cast_ofNat_Int, Int.natCast_one, Nat.reduceMod, Nat.reduceDiv, c85, h]
theorem c77s (a : List UInt8) (ha : a.length ≤ 4611686018427387904) (c : UInt8) (j : Nat) (hj : j < a.length) (h : findByte c a 0 = (j : Int)) (s : St) (K : AV → St → Prop) : CallW cx 77 [.str a, .str [c]] s K = K (.tuple [.str (a.take j), .str (a.drop (j + 1)), .bool true]) s := by
  refine CallW.eq (CallW.fn' (fn := ir77) rfl rfl (by kernel_rfl) ir77.eq_1 ?_) K
  have hx : decide (0 ≤ (j : Int)) = true := by simp
  have hw := wrap_one (i := j) (by omega)
  simp (config := {contextual := true, implicitDefEqProofs := false, maxSteps := 4000000}) only [go_sem, ↓reduceIte, Bool.false_eq_true, Nat.reduceEqDiff, Nat.reduceAdd, Int.reduceLE, Int.reduceLT, Int.reduceEq, Int.reduceToNat, Int.toNat_natCast, Int.cast_ofNat_Int, Int.natCast_one, Nat.reduceMod, Nat.reduceDiv, c85, hx, h, hw]
  omega
theorem c63n (a : List UInt8) (c : UInt8) (h : findByte c a 0 = -1) (s : St) (K : AV → St → Prop) : CallW cx 63 [.str a, .str [c]] s K = K (.tuple [.str a, .str [], .bool false]) s := by
  refine CallW.eq (CallW.fn' (fn := ir63) rfl rfl (by kernel_rfl) ir63.eq_1 ?_) K
  have k := fun K => c77n a c h { heap := s.heap, next := s.next, low := s.next } K
  simp (config := {contextual := true, implicitDefEqProofs := false, maxSteps := 4000000}) only [go_sem, ↓reduceIte, Bool.false_eq_true, Nat.reduceEqDiff, Nat.reduceAdd, Int.reduceLE, Int.reduceLT, Int.reduceEq, Int.reduceToNat, Int.toNat_natCast, Int.cast_ofNat_Int, Int.natCast_one, Nat.reduceMod, Nat.reduceDiv, k, List.getElem?_cons_zero, List.getElem?_cons_succ]
theorem c63s (a : List UInt8) (ha : a.length ≤ 4611686018427387904) (c : UInt8) (j : Nat) (hj : j < a.length) (h : findByte c a 0 = (j : Int)) (s : St) (K : AV → St → Prop) : CallW cx 63 [.str a, .str [c]] s K = K (.tuple [.str (a.take j), .str (a.drop (j + 1)), .bool true]) s := by
  refine CallW.eq (CallW.fn' (fn := ir63) rfl rfl (by kernel_rfl) ir63.eq_1 ?_) K
  have k := fun K => c77s a ha c j hj h { heap := s.heap, next := s.next, low := s.next } K
  simp (config := {contextual := true, implicitDefEqProofs := false, maxSteps := 4000000}) only [go_sem, ↓reduceIte, Bool.false_eq_true, Nat.reduceEqDiff, Nat.reduceAdd, Int.reduceLE, Int.reduceLT, Int.reduceEq, Int.reduceToNat, Int.toNat_natCast, Int.cast_ofNat_Int, Int.natCast_one, Nat.reduceMod, Nat.reduceDiv, k, List.getElem?_cons_zero, List.getElem?_cons_succ]
end T10

/- What the functions that SchemaFits reaches compute, continued: the kinds. -/
namespace T10
open Go Fw Go.Proofs
set_option maxRecDepth 100000
set_option linter.unusedSimpArgs false
set_option linter.unusedVariables false
def kindsL : List (List UInt8) := [[119, 111, 114, 100], [110, 97, 109, 101], [112, 97, 116, 104], [110, 117, 109, 98, 101, 114], [119, 104, 111, 108, 101], [116, 101, 120, 116], [116, 105, 109, 101], [100, 97, 116, 101], [97, 110, 121]]
theorem c49 (s : St) (K : AV → St → Prop) : CallW cx 49 [] s K = K (.slice (kindsL.map AV.str) 9 .full) s := by
  refine CallW.eq (CallW.fn' (fn := ir49) rfl rfl (by kernel_rfl) ir49.eq_1 ?_) K
  simp (config := {contextual := true, implicitDefEqProofs := false, maxSteps := 4000000}) only [go_sem, ↓reduceIte, Bool.false_eq_true, Nat.reduceEqDiff, Nat.reduceAdd, Int.reduceLE, Int.reduceLT, Int.reduceEq, Int.reduceToNat, Int.toNat_natCast, Int.cast_ofNat_Int, Int.natCast_one, Nat.reduceMod, Nat.reduceDiv, UInt8.reduceToNat, Nat.reduceLT, fillF]
  rw [LeaveW_slice (.inr rfl) (by rfl) (Nat.le_refl _)]
  exact ⟨rfl, rfl⟩
theorem l28 (ks : List (List UInt8)) (hl : ks.length ≤ 4611686018427387904) (a : List UInt8) (st : St) (Q : Sig → FE → St → Prop) : ∀ (n i : Nat) (e : FE), i + n = ks.length → e 0 = .str a → e 3 = .slice (ks.map AV.str) ks.length .full → e 4 = .int .i64 i →
    (a ∉ ks.drop i → ∀ e', e' 0 = .str a → Q (.exit 0) e' st) → (a ∈ ks.drop i → ∀ e', e' 2 = .bool true → Q .ret e' st) → WLoop cx ir28L0 e st Q
  | 0, i, e, hi, h0, h1, h2, hT, hF => by
    refine WLoop.rnd (c := _) ir28L0.eq_1 ?_
    have hd : decide ((i : Int) < (ks.length : Int)) = false := by simp; omega
    simp (config := {contextual := true, implicitDefEqProofs := false, maxSteps := 4000000}) only [go_sem, ↓reduceIte, Bool.false_eq_true, Nat.reduceEqDiff, Nat.reduceAdd, Int.reduceLE, Int.reduceLT, Int.reduceEq, Int.reduceToNat, Int.toNat_natCast, Int.cast_ofNat_Int, Int.natCast_one, Nat.reduceMod, Nat.reduceDiv, UInt8.reduceToNat, Nat.reduceLT, h0, h1, h2, hd]
    exact hT (by rw [List.drop_eq_nil_of_le (by omega)]; simp) _ h0
  | n + 1, i, e, hi, h0, h1, h2, hT, hF => by
    refine WLoop.rnd (c := _) ir28L0.eq_1 ?_
    have hd : decide ((i : Int) < (ks.length : Int)) = true := by simp; omega
    have hw := wrap_one (i := i) (by omega)
    have hlt : i < ks.length := by omega
    have hs := sub_one (cs := ks.map AV.str) (i := i) (by simp; omega)
    have hg : (ks.map AV.str).getD i AV.undef = .str ks[i] := by simp [List.getD, hlt]
    rw [hg] at hs
    simp (config := {contextual := true, implicitDefEqProofs := false, maxSteps := 4000000}) only [go_sem, ↓reduceIte, Bool.false_eq_true, Nat.reduceEqDiff, Nat.reduceAdd, Int.reduceLE, Int.reduceLT, Int.reduceEq, Int.reduceToNat, Int.toNat_natCast, Int.cast_ofNat_Int, Int.natCast_one, Nat.reduceMod, Nat.reduceDiv, UInt8.reduceToNat, Nat.reduceLT, h0, h1, h2, hd, hw, hs]
    rw [List.drop_eq_getElem_cons hlt] at hT hF
    refine ⟨⟨by omega, by omega⟩, ?_⟩
    by_cases he : ks[i] = a
    · have hx : decide (ks[i] = a) = true := by simp [he]
      rw [hx, pif_true]
      exact hF (by rw [he]; exact List.mem_cons_self) _ rfl
    · have hx : decide (ks[i] = a) = false := by simp [he]
      rw [hx, pif_false]
      refine l28 ks hl a st Q n (i + 1) _ (by omega) h0 h1 rfl (fun h => hT ?_) (fun h => hF (List.mem_cons_of_mem _ h))
      intro hm
      rcases List.mem_cons.1 hm with hm | hm
      · exact he hm.symm
      · exact h hm
theorem c28 (a : List UInt8) (ha : a ∉ kindsL) (s : St) (K : AV → St → Prop) : CallW cx 28 [.str a] s K = K (.bool (decide (2 ≤ a.length) && decide (a.getD 0 0 = 61))) s := by
  refine CallW.eq (CallW.fn' (fn := ir28) rfl rfl (by kernel_rfl) ir28.eq_1 ?_) K
  simp (config := {contextual := true, implicitDefEqProofs := false, maxSteps := 4000000}) only [go_sem, ↓reduceIte, Bool.false_eq_true, Nat.reduceEqDiff, Nat.reduceAdd, Int.reduceLE, Int.reduceLT, Int.reduceEq, Int.reduceToNat, Int.toNat_natCast, Int.cast_ofNat_Int, Int.natCast_one, Nat.reduceMod, Nat.reduceDiv, UInt8.reduceToNat, Nat.reduceLT, c49]
  refine l28 kindsL (by decide) a _ _ 9 0 _ rfl rfl rfl rfl ?_ ?_
  · intro _ e' h0
    simp (config := {contextual := true, implicitDefEqProofs := false, maxSteps := 4000000}) only [go_sem, ↓reduceIte, Bool.false_eq_true, Nat.reduceEqDiff, Nat.reduceAdd, Int.reduceLE, Int.reduceLT, Int.reduceEq, Int.reduceToNat, Int.toNat_natCast, Int.cast_ofNat_Int, Int.natCast_one, Nat.reduceMod, Nat.reduceDiv, UInt8.reduceToNat, Nat.reduceLT, h0]
    by_cases h : 2 ≤ a.length
    · have hx : decide (2 ≤ (a.length : Int)) = true := by simp; omega
      have hy : decide (2 ≤ a.length) = true := by simp [h]
      rw [hx, hy, pif_true, Bool.true_and]
      refine ⟨by omega, ?_⟩
      congr 1
      rw [Bool.eq_iff_iff, decide_eq_true_eq, decide_eq_true_eq]
      exact ⟨fun h => byte_eq (n := 61) h, fun h => by rw [h]; rfl⟩
    · have hx : decide (2 ≤ (a.length : Int)) = false := by simp; omega
      have hy : decide (2 ≤ a.length) = false := by simp [h]
      rw [hx, hy, pif_false, Bool.false_and]
  · intro h; exact absurd h ha

/- the tests -/
section
variable (k : Int) (t : List UInt8) (n m : Int) (s : St) (K : AV → St → Prop)
theorem c60 : CallW cx 60 [.agg [.int .i64 k, .str t, .int .i64 n, .int .i64 m]] s K = K (.bool (decide (k = 1))) s := by
  refine CallW.eq (CallW.fn' (fn := ir60) rfl rfl (by kernel_rfl) ir60.eq_1 ?_) K
  simp (config := {contextual := true, implicitDefEqProofs := false, maxSteps := 4000000}) only [go_sem, ↓reduceIte, Bool.false_eq_true, Nat.reduceEqDiff, Nat.reduceAdd, Int.reduceLE, Int.reduceLT, Int.reduceEq, Int.reduceToNat, Int.toNat_natCast, Int.cast_ofNat_Int, Int.natCast_one, Nat.reduceMod, Nat.reduceDiv, UInt8.reduceToNat, Nat.reduceLT]
theorem c64 : CallW cx 64 [.agg [.int .i64 k, .str t, .int .i64 n, .int .i64 m]] s K = K (.bool (decide (k = 2))) s := by
  refine CallW.eq (CallW.fn' (fn := ir64) rfl rfl (by kernel_rfl) ir64.eq_1 ?_) K
  simp (config := {contextual := true, implicitDefEqProofs := false, maxSteps := 4000000}) only [go_sem, ↓reduceIte, Bool.false_eq_true, Nat.reduceEqDiff, Nat.reduceAdd, Int.reduceLE, Int.reduceLT, Int.reduceEq, Int.reduceToNat, Int.toNat_natCast, Int.cast_ofNat_Int, Int.natCast_one, Nat.reduceMod, Nat.reduceDiv, UInt8.reduceToNat, Nat.reduceLT]
theorem c66 : CallW cx 66 [.agg [.int .i64 k, .str t, .int .i64 n, .int .i64 m]] s K = K (.bool (decide (k = 3))) s := by
  refine CallW.eq (CallW.fn' (fn := ir66) rfl rfl (by kernel_rfl) ir66.eq_1 ?_) K
  simp (config := {contextual := true, implicitDefEqProofs := false, maxSteps := 4000000}) only [go_sem, ↓reduceIte, Bool.false_eq_true, Nat.reduceEqDiff, Nat.reduceAdd, Int.reduceLE, Int.reduceLT, Int.reduceEq, Int.reduceToNat, Int.toNat_natCast, Int.cast_ofNat_Int, Int.natCast_one, Nat.reduceMod, Nat.reduceDiv, UInt8.reduceToNat, Nat.reduceLT]
theorem c67 : CallW cx 67 [.agg [.int .i64 k, .str t, .int .i64 n, .int .i64 m]] s K = K (.bool (decide (k = 4))) s := by
  refine CallW.eq (CallW.fn' (fn := ir67) rfl rfl (by kernel_rfl) ir67.eq_1 ?_) K
  simp (config := {contextual := true, implicitDefEqProofs := false, maxSteps := 4000000}) only [go_sem, ↓reduceIte, Bool.false_eq_true, Nat.reduceEqDiff, Nat.reduceAdd, Int.reduceLE, Int.reduceLT, Int.reduceEq, Int.reduceToNat, Int.toNat_natCast, Int.cast_ofNat_Int, Int.natCast_one, Nat.reduceMod, Nat.reduceDiv, UInt8.reduceToNat, Nat.reduceLT]
theorem c68 : CallW cx 68 [.agg [.int .i64 k, .str t, .int .i64 n, .int .i64 m]] s K = K (.bool (decide (k = 5))) s := by
  refine CallW.eq (CallW.fn' (fn := ir68) rfl rfl (by kernel_rfl) ir68.eq_1 ?_) K
  simp (config := {contextual := true, implicitDefEqProofs := false, maxSteps := 4000000}) only [go_sem, ↓reduceIte, Bool.false_eq_true, Nat.reduceEqDiff, Nat.reduceAdd, Int.reduceLE, Int.reduceLT, Int.reduceEq, Int.reduceToNat, Int.toNat_natCast, Int.cast_ofNat_Int, Int.natCast_one, Nat.reduceMod, Nat.reduceDiv, UInt8.reduceToNat, Nat.reduceLT]
theorem c69 : CallW cx 69 [.agg [.int .i64 k, .str t, .int .i64 n, .int .i64 m]] s K = K (.bool true) s := by
  refine CallW.eq (CallW.fn' (fn := ir69) rfl rfl (by kernel_rfl) ir69.eq_1 ?_) K
  simp (config := {contextual := true, implicitDefEqProofs := false, maxSteps := 4000000}) only [go_sem, ↓reduceIte, Bool.false_eq_true, Nat.reduceEqDiff, Nat.reduceAdd, Int.reduceLE, Int.reduceLT, Int.reduceEq, Int.reduceToNat, Int.toNat_natCast, Int.cast_ofNat_Int, Int.natCast_one, Nat.reduceMod, Nat.reduceDiv, UInt8.reduceToNat, Nat.reduceLT]
theorem c65 : CallW cx 65 [.agg [.int .i64 k, .str t, .int .i64 n, .int .i64 m]] s K = K (.bool (decide (k = 2) && decide (0 ≤ n) && decide (n.tmod 1000 = 0))) s := by
  refine CallW.eq (CallW.fn' (fn := ir65) rfl rfl (by kernel_rfl) ir65.eq_1 ?_) K
  simp (config := {contextual := true, implicitDefEqProofs := false, maxSteps := 4000000}) only [go_sem, ↓reduceIte, Bool.false_eq_true, Nat.reduceEqDiff, Nat.reduceAdd, Int.reduceLE, Int.reduceLT, Int.reduceEq, Int.reduceToNat, Int.toNat_natCast, Int.cast_ofNat_Int, Int.natCast_one, Nat.reduceMod, Nat.reduceDiv, UInt8.reduceToNat, Nat.reduceLT]
  cases decide (k = 2) <;> cases decide (0 ≤ n) <;> simp [pif]
theorem c61 (p : Nat) (hp : look p s.heap = some (.cells (some 79) [.func 60 [] []])) (hlt : p < s.next) : CallW cx 61 [.agg [.int .i64 k, .str t, .int .i64 n, .int .i64 m], .ptr p 0] s K = K (.bool (decide (k = 1) && nameB t)) s := by
  refine CallW.eq (CallW.fn' (fn := ir61) rfl rfl (by kernel_rfl) ir61.eq_1 ?_) K
  have hne : (s.next = p) = False := by simp; omega
  simp (config := {contextual := true, implicitDefEqProofs := false, maxSteps := 4000000}) only [go_sem, ↓reduceIte, Bool.false_eq_true, Nat.reduceEqDiff, Nat.reduceAdd, Int.reduceLE, Int.reduceLT, Int.reduceEq, Int.reduceToNat, Int.toNat_natCast, Int.cast_ofNat_Int, Int.natCast_one, Nat.reduceMod, Nat.reduceDiv, UInt8.reduceToNat, Nat.reduceLT, c60, c35, hp, hne]
  cases decide (k = 1) <;> simp [pif]
theorem c62 (p : Nat) (hp : look p s.heap = some (.cells (some 79) [.func 60 [] []])) (hlt : p < s.next) (ht : t.length ≤ 4611686018427387904) : CallW cx 62 [.agg [.int .i64 k, .str t, .int .i64 n, .int .i64 m], .ptr p 0] s K = K (.bool (decide (k = 1) && pathB t)) s := by
  refine CallW.eq (CallW.fn' (fn := ir62) rfl rfl (by kernel_rfl) ir62.eq_1 ?_) K
  have hne : (s.next = p) = False := by simp; omega
  rcases findByte_spec 47 t 0 with h | ⟨j, h, h1, h2⟩
  · have k1 := fun st K => c63n t 47 h st K
    simp (config := {contextual := true, implicitDefEqProofs := false, maxSteps := 4000000}) only [go_sem, ↓reduceIte, Bool.false_eq_true, Nat.reduceEqDiff, Nat.reduceAdd, Int.reduceLE, Int.reduceLT, Int.reduceEq, Int.reduceToNat, Int.toNat_natCast, Int.cast_ofNat_Int, Int.natCast_one, Nat.reduceMod, Nat.reduceDiv, UInt8.reduceToNat, Nat.reduceLT, c60, c35, hp, hne, k1, List.getElem?_cons_zero, List.getElem?_cons_succ]
    have hpb : pathB t = false := by simp only [pathB, h]; try rfl
    rw [hpb]
    cases decide (k = 1) <;> simp [pif]
  · have k1 := fun st K => c63s t ht 47 j (by omega) h st K
    simp (config := {contextual := true, implicitDefEqProofs := false, maxSteps := 4000000}) only [go_sem, ↓reduceIte, Bool.false_eq_true, Nat.reduceEqDiff, Nat.reduceAdd, Int.reduceLE, Int.reduceLT, Int.reduceEq, Int.reduceToNat, Int.toNat_natCast, Int.cast_ofNat_Int, Int.natCast_one, Nat.reduceMod, Nat.reduceDiv, UInt8.reduceToNat, Nat.reduceLT, c60, c35, hp, hne, k1, List.getElem?_cons_zero, List.getElem?_cons_succ]
    have hpb : pathB t = (nameB (t.take j) && nameB (t.drop (j + 1))) := by simp only [pathB, h]
    rw [hpb]
    cases decide (k = 1) <;> cases nameB (t.take j) <;> simp [pif]
end
end T10

/- What the functions that SchemaFits reaches compute, continued: what fits. -/
namespace T10
open Go Fw Go.Proofs
set_option maxRecDepth 100000
set_option linter.unusedSimpArgs false
set_option linter.unusedVariables false
def tests (p : Nat) : List (AV × AV) := [(.str [119, 111, 114, 100], .func 60 [] []), (.str [110, 97, 109, 101], .func 61 [] [.ptr p 0]), (.str [112, 97, 116, 104], .func 62 [] [.ptr p 0]), (.str [110, 117, 109, 98, 101, 114], .func 64 [] []), (.str [119, 104, 111, 108, 101], .func 65 [] []), (.str [116, 101, 120, 116], .func 66 [] []), (.str [116, 105, 109, 101], .func 67 [] []), (.str [100, 97, 116, 101], .func 68 [] []), (.str [97, 110, 121], .func 69 [] [])]
theorem c48 (s : St) (K : AV → St → Prop) : CallW cx 48 [] s K = K (.map (s.next + 1)) { heap := (s.next + 1, .map (tests s.next)) :: (s.next, .cells (some 79) [.func 60 [] []]) :: s.heap, next := s.next + 2, low := min s.low s.next } := by
  refine CallW.eq (CallW.fn' (fn := ir48) rfl rfl (by kernel_rfl) ir48.eq_1 ?_) K
  simp (config := {contextual := true, implicitDefEqProofs := false, maxSteps := 4000000}) only [go_sem, ↓reduceIte, Bool.false_eq_true, Nat.reduceEqDiff, Nat.reduceAdd, Int.reduceLE, Int.reduceLT, Int.reduceEq, Int.reduceToNat, Int.toNat_natCast, Int.cast_ofNat_Int, Int.natCast_one, Nat.reduceMod, Nat.reduceDiv, UInt8.reduceToNat, Nat.reduceLT, show (([110, 97, 109, 101] : List UInt8) = [119, 111, 114, 100]) = False from by simp, show (([112, 97, 116, 104] : List UInt8) = [119, 111, 114, 100]) = False from by simp, show (([112, 97, 116, 104] : List UInt8) = [110, 97, 109, 101]) = False from by simp, show (([110, 117, 109, 98, 101, 114] : List UInt8) = [119, 111, 114, 100]) = False from by simp, show (([110, 117, 109, 98, 101, 114] : List UInt8) = [110, 97, 109, 101]) = False from by simp, show (([110, 117, 109, 98, 101, 114] : List UInt8) = [112, 97, 116, 104]) = False from by simp, show (([119, 104, 111, 108, 101] : List UInt8) = [119, 111, 114, 100]) = False from by simp, show (([119, 104, 111, 108, 101] : List UInt8) = [110, 97, 109, 101]) = False from by simp, show (([119, 104, 111, 108, 101] : List UInt8) = [112, 97, 116, 104]) = False from by simp, show (([119, 104, 111, 108, 101] : List UInt8) = [110, 117, 109, 98, 101, 114]) = False from by simp, show (([116, 101, 120, 116] : List UInt8) = [119, 111, 114, 100]) = False from by simp, show (([116, 101, 120, 116] : List UInt8) = [110, 97, 109, 101]) = False from by simp, show (([116, 101, 120, 116] : List UInt8) = [112, 97, 116, 104]) = False from by simp, show (([116, 101, 120, 116] : List UInt8) = [110, 117, 109, 98, 101, 114]) = False from by simp, show (([116, 101, 120, 116] : List UInt8) = [119, 104, 111, 108, 101]) = False from by simp, show (([116, 105, 109, 101] : List UInt8) = [119, 111, 114, 100]) = False from by simp, show (([116, 105, 109, 101] : List UInt8) = [110, 97, 109, 101]) = False from by simp, show (([116, 105, 109, 101] : List UInt8) = [112, 97, 116, 104]) = False from by simp, show (([116, 105, 109, 101] : List UInt8) = [110, 117, 109, 98, 101, 114]) = False from by simp, show (([116, 105, 109, 101] : List UInt8) = [119, 104, 111, 108, 101]) = False from by simp, show (([116, 105, 109, 101] : List UInt8) = [116, 101, 120, 116]) = False from by simp, show (([100, 97, 116, 101] : List UInt8) = [119, 111, 114, 100]) = False from by simp, show (([100, 97, 116, 101] : List UInt8) = [110, 97, 109, 101]) = False from by simp, show (([100, 97, 116, 101] : List UInt8) = [112, 97, 116, 104]) = False from by simp, show (([100, 97, 116, 101] : List UInt8) = [110, 117, 109, 98, 101, 114]) = False from by simp, show (([100, 97, 116, 101] : List UInt8) = [119, 104, 111, 108, 101]) = False from by simp, show (([100, 97, 116, 101] : List UInt8) = [116, 101, 120, 116]) = False from by simp, show (([100, 97, 116, 101] : List UInt8) = [116, 105, 109, 101]) = False from by simp, show (([97, 110, 121] : List UInt8) = [119, 111, 114, 100]) = False from by simp, show (([97, 110, 121] : List UInt8) = [110, 97, 109, 101]) = False from by simp, show (([97, 110, 121] : List UInt8) = [112, 97, 116, 104]) = False from by simp, show (([97, 110, 121] : List UInt8) = [110, 117, 109, 98, 101, 114]) = False from by simp, show (([97, 110, 121] : List UInt8) = [119, 104, 111, 108, 101]) = False from by simp, show (([97, 110, 121] : List UInt8) = [116, 101, 120, 116]) = False from by simp, show (([97, 110, 121] : List UInt8) = [116, 105, 109, 101]) = False from by simp, show (([97, 110, 121] : List UInt8) = [100, 97, 116, 101]) = False from by simp]
  rw [LeaveW_map (Nat.le_succ _)]
  exact ⟨rfl, rfl⟩
def fitsB (kind : List UInt8) (k : Int) (t : List UInt8) (n : Int) : Bool :=
  if kind = [119, 111, 114, 100] then decide (k = 1)
  else if kind = [110, 97, 109, 101] then decide (k = 1) && nameB t
  else if kind = [112, 97, 116, 104] then decide (k = 1) && pathB t
  else if kind = [110, 117, 109, 98, 101, 114] then decide (k = 2)
  else if kind = [119, 104, 111, 108, 101] then decide (k = 2) && decide (0 ≤ n) && decide (n.tmod 1000 = 0)
  else if kind = [116, 101, 120, 116] then decide (k = 3)
  else if kind = [116, 105, 109, 101] then decide (k = 4)
  else if kind = [100, 97, 116, 101] then decide (k = 5)
  else if kind = [97, 110, 121] then true
  else (decide (2 ≤ kind.length) && decide (kind.getD 0 0 = 61)) && (decide (k = 1) || decide (k = 6)) && decide (t = kind.drop 1)
section
variable (k : Int) (t : List UInt8) (n m : Int) (s : St) (K : AV → St → Prop)
theorem c11_0 (ht : t.length ≤ 4611686018427387904) : CallW cx 11 [.str [119, 111, 114, 100], .agg [.int .i64 k, .str t, .int .i64 n, .int .i64 m]] s K = K (.bool (decide (k = 1))) s := by
  refine CallW.eq (CallW.fn' (fn := ir11) rfl rfl (by kernel_rfl) ir11.eq_1 ?_) K
  have kn := fun K => c26 t ht { heap := (s.next, .cells (some 23) [.int .i64 k, .str t, .int .i64 n, .int .i64 m]) :: s.heap, next := s.next + 1, low := s.next } K
  have kp := fun K => c27 t ht { heap := (s.next, .cells (some 23) [.int .i64 k, .str t, .int .i64 n, .int .i64 m]) :: s.heap, next := s.next + 1, low := s.next } K
  simp (config := {contextual := true, implicitDefEqProofs := false, maxSteps := 4000000}) only [go_sem, ↓reduceIte, Bool.false_eq_true, Nat.reduceEqDiff, Nat.reduceAdd, Int.reduceLE, Int.reduceLT, Int.reduceEq, Int.reduceToNat, Int.toNat_natCast, Int.cast_ofNat_Int, Int.natCast_one, Nat.reduceMod, Nat.reduceDiv, UInt8.reduceToNat, Nat.reduceLT, kn, kp, show (([119, 111, 114, 100] : List UInt8) = [119, 111, 114, 100]) = True from by simp]
theorem c25_0 (ht : t.length ≤ 4611686018427387904) : CallW cx 25 [.str [119, 111, 114, 100], .agg [.int .i64 k, .str t, .int .i64 n, .int .i64 m]] s K = K (.bool (decide (k = 1))) s := by
  refine CallW.eq (CallW.fn' (fn := ir25) rfl rfl (by kernel_rfl) ir25.eq_1 ?_) K
  have k62 := fun p st K h1 h2 => c62 k t n m st K p h1 h2 ht
  simp (config := {contextual := true, implicitDefEqProofs := false, maxSteps := 4000000}) only [go_sem, ↓reduceIte, Bool.false_eq_true, Nat.reduceEqDiff, Nat.reduceAdd, Int.reduceLE, Int.reduceLT, Int.reduceEq, Int.reduceToNat, Int.toNat_natCast, Int.cast_ofNat_Int, Int.natCast_one, Nat.reduceMod, Nat.reduceDiv, UInt8.reduceToNat, Nat.reduceLT, tests, c48, c60, c61, k62, c64, c65, c66, c67, c68, c69, show (([119, 111, 114, 100] : List UInt8) = [119, 111, 114, 100]) = True from by simp, show (([119, 111, 114, 100] : List UInt8) = [110, 97, 109, 101]) = False from by simp, show (([119, 111, 114, 100] : List UInt8) = [112, 97, 116, 104]) = False from by simp, show (([119, 111, 114, 100] : List UInt8) = [110, 117, 109, 98, 101, 114]) = False from by simp, show (([119, 111, 114, 100] : List UInt8) = [119, 104, 111, 108, 101]) = False from by simp, show (([119, 111, 114, 100] : List UInt8) = [116, 101, 120, 116]) = False from by simp, show (([119, 111, 114, 100] : List UInt8) = [116, 105, 109, 101]) = False from by simp, show (([119, 111, 114, 100] : List UInt8) = [100, 97, 116, 101]) = False from by simp, show (([119, 111, 114, 100] : List UInt8) = [97, 110, 121]) = False from by simp]
theorem c11_1 (ht : t.length ≤ 4611686018427387904) : CallW cx 11 [.str [110, 97, 109, 101], .agg [.int .i64 k, .str t, .int .i64 n, .int .i64 m]] s K = K (.bool (decide (k = 1) && nameB t)) s := by
  refine CallW.eq (CallW.fn' (fn := ir11) rfl rfl (by kernel_rfl) ir11.eq_1 ?_) K
  have kn := fun K => c26 t ht { heap := (s.next, .cells (some 23) [.int .i64 k, .str t, .int .i64 n, .int .i64 m]) :: s.heap, next := s.next + 1, low := s.next } K
  have kp := fun K => c27 t ht { heap := (s.next, .cells (some 23) [.int .i64 k, .str t, .int .i64 n, .int .i64 m]) :: s.heap, next := s.next + 1, low := s.next } K
  simp (config := {contextual := true, implicitDefEqProofs := false, maxSteps := 4000000}) only [go_sem, ↓reduceIte, Bool.false_eq_true, Nat.reduceEqDiff, Nat.reduceAdd, Int.reduceLE, Int.reduceLT, Int.reduceEq, Int.reduceToNat, Int.toNat_natCast, Int.cast_ofNat_Int, Int.natCast_one, Nat.reduceMod, Nat.reduceDiv, UInt8.reduceToNat, Nat.reduceLT, kn, kp, show (([110, 97, 109, 101] : List UInt8) = [119, 111, 114, 100]) = False from by simp, show (([110, 97, 109, 101] : List UInt8) = [110, 97, 109, 101]) = True from by simp]
  cases decide (k = 1) <;> simp [pif]
theorem c25_1 (ht : t.length ≤ 4611686018427387904) : CallW cx 25 [.str [110, 97, 109, 101], .agg [.int .i64 k, .str t, .int .i64 n, .int .i64 m]] s K = K (.bool (decide (k = 1) && nameB t)) s := by
  refine CallW.eq (CallW.fn' (fn := ir25) rfl rfl (by kernel_rfl) ir25.eq_1 ?_) K
  have k62 := fun p st K h1 h2 => c62 k t n m st K p h1 h2 ht
  simp (config := {contextual := true, implicitDefEqProofs := false, maxSteps := 4000000}) only [go_sem, ↓reduceIte, Bool.false_eq_true, Nat.reduceEqDiff, Nat.reduceAdd, Int.reduceLE, Int.reduceLT, Int.reduceEq, Int.reduceToNat, Int.toNat_natCast, Int.cast_ofNat_Int, Int.natCast_one, Nat.reduceMod, Nat.reduceDiv, UInt8.reduceToNat, Nat.reduceLT, tests, c48, c60, c61, k62, c64, c65, c66, c67, c68, c69, show (([110, 97, 109, 101] : List UInt8) = [119, 111, 114, 100]) = False from by simp, show (([110, 97, 109, 101] : List UInt8) = [110, 97, 109, 101]) = True from by simp, show (([110, 97, 109, 101] : List UInt8) = [112, 97, 116, 104]) = False from by simp, show (([110, 97, 109, 101] : List UInt8) = [110, 117, 109, 98, 101, 114]) = False from by simp, show (([110, 97, 109, 101] : List UInt8) = [119, 104, 111, 108, 101]) = False from by simp, show (([110, 97, 109, 101] : List UInt8) = [116, 101, 120, 116]) = False from by simp, show (([110, 97, 109, 101] : List UInt8) = [116, 105, 109, 101]) = False from by simp, show (([110, 97, 109, 101] : List UInt8) = [100, 97, 116, 101]) = False from by simp, show (([110, 97, 109, 101] : List UInt8) = [97, 110, 121]) = False from by simp]
theorem c11_2 (ht : t.length ≤ 4611686018427387904) : CallW cx 11 [.str [112, 97, 116, 104], .agg [.int .i64 k, .str t, .int .i64 n, .int .i64 m]] s K = K (.bool (decide (k = 1) && pathB t)) s := by
  refine CallW.eq (CallW.fn' (fn := ir11) rfl rfl (by kernel_rfl) ir11.eq_1 ?_) K
  have kn := fun K => c26 t ht { heap := (s.next, .cells (some 23) [.int .i64 k, .str t, .int .i64 n, .int .i64 m]) :: s.heap, next := s.next + 1, low := s.next } K
  have kp := fun K => c27 t ht { heap := (s.next, .cells (some 23) [.int .i64 k, .str t, .int .i64 n, .int .i64 m]) :: s.heap, next := s.next + 1, low := s.next } K
  simp (config := {contextual := true, implicitDefEqProofs := false, maxSteps := 4000000}) only [go_sem, ↓reduceIte, Bool.false_eq_true, Nat.reduceEqDiff, Nat.reduceAdd, Int.reduceLE, Int.reduceLT, Int.reduceEq, Int.reduceToNat, Int.toNat_natCast, Int.cast_ofNat_Int, Int.natCast_one, Nat.reduceMod, Nat.reduceDiv, UInt8.reduceToNat, Nat.reduceLT, kn, kp, show (([112, 97, 116, 104] : List UInt8) = [119, 111, 114, 100]) = False from by simp, show (([112, 97, 116, 104] : List UInt8) = [110, 97, 109, 101]) = False from by simp, show (([112, 97, 116, 104] : List UInt8) = [112, 97, 116, 104]) = True from by simp]
  cases decide (k = 1) <;> simp [pif]
theorem c25_2 (ht : t.length ≤ 4611686018427387904) : CallW cx 25 [.str [112, 97, 116, 104], .agg [.int .i64 k, .str t, .int .i64 n, .int .i64 m]] s K = K (.bool (decide (k = 1) && pathB t)) s := by
  refine CallW.eq (CallW.fn' (fn := ir25) rfl rfl (by kernel_rfl) ir25.eq_1 ?_) K
  have k62 := fun p st K h1 h2 => c62 k t n m st K p h1 h2 ht
  simp (config := {contextual := true, implicitDefEqProofs := false, maxSteps := 4000000}) only [go_sem, ↓reduceIte, Bool.false_eq_true, Nat.reduceEqDiff, Nat.reduceAdd, Int.reduceLE, Int.reduceLT, Int.reduceEq, Int.reduceToNat, Int.toNat_natCast, Int.cast_ofNat_Int, Int.natCast_one, Nat.reduceMod, Nat.reduceDiv, UInt8.reduceToNat, Nat.reduceLT, tests, c48, c60, c61, k62, c64, c65, c66, c67, c68, c69, show (([112, 97, 116, 104] : List UInt8) = [119, 111, 114, 100]) = False from by simp, show (([112, 97, 116, 104] : List UInt8) = [110, 97, 109, 101]) = False from by simp, show (([112, 97, 116, 104] : List UInt8) = [112, 97, 116, 104]) = True from by simp, show (([112, 97, 116, 104] : List UInt8) = [110, 117, 109, 98, 101, 114]) = False from by simp, show (([112, 97, 116, 104] : List UInt8) = [119, 104, 111, 108, 101]) = False from by simp, show (([112, 97, 116, 104] : List UInt8) = [116, 101, 120, 116]) = False from by simp, show (([112, 97, 116, 104] : List UInt8) = [116, 105, 109, 101]) = False from by simp, show (([112, 97, 116, 104] : List UInt8) = [100, 97, 116, 101]) = False from by simp, show (([112, 97, 116, 104] : List UInt8) = [97, 110, 121]) = False from by simp]
theorem c11_3 (ht : t.length ≤ 4611686018427387904) : CallW cx 11 [.str [110, 117, 109, 98, 101, 114], .agg [.int .i64 k, .str t, .int .i64 n, .int .i64 m]] s K = K (.bool (decide (k = 2))) s := by
  refine CallW.eq (CallW.fn' (fn := ir11) rfl rfl (by kernel_rfl) ir11.eq_1 ?_) K
  have kn := fun K => c26 t ht { heap := (s.next, .cells (some 23) [.int .i64 k, .str t, .int .i64 n, .int .i64 m]) :: s.heap, next := s.next + 1, low := s.next } K
  have kp := fun K => c27 t ht { heap := (s.next, .cells (some 23) [.int .i64 k, .str t, .int .i64 n, .int .i64 m]) :: s.heap, next := s.next + 1, low := s.next } K
  simp (config := {contextual := true, implicitDefEqProofs := false, maxSteps := 4000000}) only [go_sem, ↓reduceIte, Bool.false_eq_true, Nat.reduceEqDiff, Nat.reduceAdd, Int.reduceLE, Int.reduceLT, Int.reduceEq, Int.reduceToNat, Int.toNat_natCast, Int.cast_ofNat_Int, Int.natCast_one, Nat.reduceMod, Nat.reduceDiv, UInt8.reduceToNat, Nat.reduceLT, kn, kp, show (([110, 117, 109, 98, 101, 114] : List UInt8) = [119, 111, 114, 100]) = False from by simp, show (([110, 117, 109, 98, 101, 114] : List UInt8) = [110, 97, 109, 101]) = False from by simp, show (([110, 117, 109, 98, 101, 114] : List UInt8) = [112, 97, 116, 104]) = False from by simp, show (([110, 117, 109, 98, 101, 114] : List UInt8) = [110, 117, 109, 98, 101, 114]) = True from by simp]
theorem c25_3 (ht : t.length ≤ 4611686018427387904) : CallW cx 25 [.str [110, 117, 109, 98, 101, 114], .agg [.int .i64 k, .str t, .int .i64 n, .int .i64 m]] s K = K (.bool (decide (k = 2))) s := by
  refine CallW.eq (CallW.fn' (fn := ir25) rfl rfl (by kernel_rfl) ir25.eq_1 ?_) K
  have k62 := fun p st K h1 h2 => c62 k t n m st K p h1 h2 ht
  simp (config := {contextual := true, implicitDefEqProofs := false, maxSteps := 4000000}) only [go_sem, ↓reduceIte, Bool.false_eq_true, Nat.reduceEqDiff, Nat.reduceAdd, Int.reduceLE, Int.reduceLT, Int.reduceEq, Int.reduceToNat, Int.toNat_natCast, Int.cast_ofNat_Int, Int.natCast_one, Nat.reduceMod, Nat.reduceDiv, UInt8.reduceToNat, Nat.reduceLT, tests, c48, c60, c61, k62, c64, c65, c66, c67, c68, c69, show (([110, 117, 109, 98, 101, 114] : List UInt8) = [119, 111, 114, 100]) = False from by simp, show (([110, 117, 109, 98, 101, 114] : List UInt8) = [110, 97, 109, 101]) = False from by simp, show (([110, 117, 109, 98, 101, 114] : List UInt8) = [112, 97, 116, 104]) = False from by simp, show (([110, 117, 109, 98, 101, 114] : List UInt8) = [110, 117, 109, 98, 101, 114]) = True from by simp, show (([110, 117, 109, 98, 101, 114] : List UInt8) = [119, 104, 111, 108, 101]) = False from by simp, show (([110, 117, 109, 98, 101, 114] : List UInt8) = [116, 101, 120, 116]) = False from by simp, show (([110, 117, 109, 98, 101, 114] : List UInt8) = [116, 105, 109, 101]) = False from by simp, show (([110, 117, 109, 98, 101, 114] : List UInt8) = [100, 97, 116, 101]) = False from by simp, show (([110, 117, 109, 98, 101, 114] : List UInt8) = [97, 110, 121]) = False from by simp]
theorem c11_4 (ht : t.length ≤ 4611686018427387904) : CallW cx 11 [.str [119, 104, 111, 108, 101], .agg [.int .i64 k, .str t, .int .i64 n, .int .i64 m]] s K = K (.bool (decide (k = 2) && decide (0 ≤ n) && decide (n.tmod 1000 = 0))) s := by
  refine CallW.eq (CallW.fn' (fn := ir11) rfl rfl (by kernel_rfl) ir11.eq_1 ?_) K
  have kn := fun K => c26 t ht { heap := (s.next, .cells (some 23) [.int .i64 k, .str t, .int .i64 n, .int .i64 m]) :: s.heap, next := s.next + 1, low := s.next } K
  have kp := fun K => c27 t ht { heap := (s.next, .cells (some 23) [.int .i64 k, .str t, .int .i64 n, .int .i64 m]) :: s.heap, next := s.next + 1, low := s.next } K
  simp (config := {contextual := true, implicitDefEqProofs := false, maxSteps := 4000000}) only [go_sem, ↓reduceIte, Bool.false_eq_true, Nat.reduceEqDiff, Nat.reduceAdd, Int.reduceLE, Int.reduceLT, Int.reduceEq, Int.reduceToNat, Int.toNat_natCast, Int.cast_ofNat_Int, Int.natCast_one, Nat.reduceMod, Nat.reduceDiv, UInt8.reduceToNat, Nat.reduceLT, kn, kp, show (([119, 104, 111, 108, 101] : List UInt8) = [119, 111, 114, 100]) = False from by simp, show (([119, 104, 111, 108, 101] : List UInt8) = [110, 97, 109, 101]) = False from by simp, show (([119, 104, 111, 108, 101] : List UInt8) = [112, 97, 116, 104]) = False from by simp, show (([119, 104, 111, 108, 101] : List UInt8) = [110, 117, 109, 98, 101, 114]) = False from by simp, show (([119, 104, 111, 108, 101] : List UInt8) = [119, 104, 111, 108, 101]) = True from by simp]
  cases decide (k = 2) <;> cases decide (0 ≤ n) <;> simp [pif]
theorem c25_4 (ht : t.length ≤ 4611686018427387904) : CallW cx 25 [.str [119, 104, 111, 108, 101], .agg [.int .i64 k, .str t, .int .i64 n, .int .i64 m]] s K = K (.bool (decide (k = 2) && decide (0 ≤ n) && decide (n.tmod 1000 = 0))) s := by
  refine CallW.eq (CallW.fn' (fn := ir25) rfl rfl (by kernel_rfl) ir25.eq_1 ?_) K
  have k62 := fun p st K h1 h2 => c62 k t n m st K p h1 h2 ht
  simp (config := {contextual := true, implicitDefEqProofs := false, maxSteps := 4000000}) only [go_sem, ↓reduceIte, Bool.false_eq_true, Nat.reduceEqDiff, Nat.reduceAdd, Int.reduceLE, Int.reduceLT, Int.reduceEq, Int.reduceToNat, Int.toNat_natCast, Int.cast_ofNat_Int, Int.natCast_one, Nat.reduceMod, Nat.reduceDiv, UInt8.reduceToNat, Nat.reduceLT, tests, c48, c60, c61, k62, c64, c65, c66, c67, c68, c69, show (([119, 104, 111, 108, 101] : List UInt8) = [119, 111, 114, 100]) = False from by simp, show (([119, 104, 111, 108, 101] : List UInt8) = [110, 97, 109, 101]) = False from by simp, show (([119, 104, 111, 108, 101] : List UInt8) = [112, 97, 116, 104]) = False from by simp, show (([119, 104, 111, 108, 101] : List UInt8) = [110, 117, 109, 98, 101, 114]) = False from by simp, show (([119, 104, 111, 108, 101] : List UInt8) = [119, 104, 111, 108, 101]) = True from by simp, show (([119, 104, 111, 108, 101] : List UInt8) = [116, 101, 120, 116]) = False from by simp, show (([119, 104, 111, 108, 101] : List UInt8) = [116, 105, 109, 101]) = False from by simp, show (([119, 104, 111, 108, 101] : List UInt8) = [100, 97, 116, 101]) = False from by simp, show (([119, 104, 111, 108, 101] : List UInt8) = [97, 110, 121]) = False from by simp]
theorem c11_5 (ht : t.length ≤ 4611686018427387904) : CallW cx 11 [.str [116, 101, 120, 116], .agg [.int .i64 k, .str t, .int .i64 n, .int .i64 m]] s K = K (.bool (decide (k = 3))) s := by
  refine CallW.eq (CallW.fn' (fn := ir11) rfl rfl (by kernel_rfl) ir11.eq_1 ?_) K
  have kn := fun K => c26 t ht { heap := (s.next, .cells (some 23) [.int .i64 k, .str t, .int .i64 n, .int .i64 m]) :: s.heap, next := s.next + 1, low := s.next } K
  have kp := fun K => c27 t ht { heap := (s.next, .cells (some 23) [.int .i64 k, .str t, .int .i64 n, .int .i64 m]) :: s.heap, next := s.next + 1, low := s.next } K
  simp (config := {contextual := true, implicitDefEqProofs := false, maxSteps := 4000000}) only [go_sem, ↓reduceIte, Bool.false_eq_true, Nat.reduceEqDiff, Nat.reduceAdd, Int.reduceLE, Int.reduceLT, Int.reduceEq, Int.reduceToNat, Int.toNat_natCast, Int.cast_ofNat_Int, Int.natCast_one, Nat.reduceMod, Nat.reduceDiv, UInt8.reduceToNat, Nat.reduceLT, kn, kp, show (([116, 101, 120, 116] : List UInt8) = [119, 111, 114, 100]) = False from by simp, show (([116, 101, 120, 116] : List UInt8) = [110, 97, 109, 101]) = False from by simp, show (([116, 101, 120, 116] : List UInt8) = [112, 97, 116, 104]) = False from by simp, show (([116, 101, 120, 116] : List UInt8) = [110, 117, 109, 98, 101, 114]) = False from by simp, show (([116, 101, 120, 116] : List UInt8) = [119, 104, 111, 108, 101]) = False from by simp, show (([116, 101, 120, 116] : List UInt8) = [116, 101, 120, 116]) = True from by simp]
theorem c25_5 (ht : t.length ≤ 4611686018427387904) : CallW cx 25 [.str [116, 101, 120, 116], .agg [.int .i64 k, .str t, .int .i64 n, .int .i64 m]] s K = K (.bool (decide (k = 3))) s := by
  refine CallW.eq (CallW.fn' (fn := ir25) rfl rfl (by kernel_rfl) ir25.eq_1 ?_) K
  have k62 := fun p st K h1 h2 => c62 k t n m st K p h1 h2 ht
  simp (config := {contextual := true, implicitDefEqProofs := false, maxSteps := 4000000}) only [go_sem, ↓reduceIte, Bool.false_eq_true, Nat.reduceEqDiff, Nat.reduceAdd, Int.reduceLE, Int.reduceLT, Int.reduceEq, Int.reduceToNat, Int.toNat_natCast, Int.cast_ofNat_Int, Int.natCast_one, Nat.reduceMod, Nat.reduceDiv, UInt8.reduceToNat, Nat.reduceLT, tests, c48, c60, c61, k62, c64, c65, c66, c67, c68, c69, show (([116, 101, 120, 116] : List UInt8) = [119, 111, 114, 100]) = False from by simp, show (([116, 101, 120, 116] : List UInt8) = [110, 97, 109, 101]) = False from by simp, show (([116, 101, 120, 116] : List UInt8) = [112, 97, 116, 104]) = False from by simp, show (([116, 101, 120, 116] : List UInt8) = [110, 117, 109, 98, 101, 114]) = False from by simp, show (([116, 101, 120, 116] : List UInt8) = [119, 104, 111, 108, 101]) = False from by simp, show (([116, 101, 120, 116] : List UInt8) = [116, 101, 120, 116]) = True from by simp, show (([116, 101, 120, 116] : List UInt8) = [116, 105, 109, 101]) = False from by simp, show (([116, 101, 120, 116] : List UInt8) = [100, 97, 116, 101]) = False from by simp, show (([116, 101, 120, 116] : List UInt8) = [97, 110, 121]) = False from by simp]
theorem c11_6 (ht : t.length ≤ 4611686018427387904) : CallW cx 11 [.str [116, 105, 109, 101], .agg [.int .i64 k, .str t, .int .i64 n, .int .i64 m]] s K = K (.bool (decide (k = 4))) s := by
  refine CallW.eq (CallW.fn' (fn := ir11) rfl rfl (by kernel_rfl) ir11.eq_1 ?_) K
  have kn := fun K => c26 t ht { heap := (s.next, .cells (some 23) [.int .i64 k, .str t, .int .i64 n, .int .i64 m]) :: s.heap, next := s.next + 1, low := s.next } K
  have kp := fun K => c27 t ht { heap := (s.next, .cells (some 23) [.int .i64 k, .str t, .int .i64 n, .int .i64 m]) :: s.heap, next := s.next + 1, low := s.next } K
  simp (config := {contextual := true, implicitDefEqProofs := false, maxSteps := 4000000}) only [go_sem, ↓reduceIte, Bool.false_eq_true, Nat.reduceEqDiff, Nat.reduceAdd, Int.reduceLE, Int.reduceLT, Int.reduceEq, Int.reduceToNat, Int.toNat_natCast, Int.cast_ofNat_Int, Int.natCast_one, Nat.reduceMod, Nat.reduceDiv, UInt8.reduceToNat, Nat.reduceLT, kn, kp, show (([116, 105, 109, 101] : List UInt8) = [119, 111, 114, 100]) = False from by simp, show (([116, 105, 109, 101] : List UInt8) = [110, 97, 109, 101]) = False from by simp, show (([116, 105, 109, 101] : List UInt8) = [112, 97, 116, 104]) = False from by simp, show (([116, 105, 109, 101] : List UInt8) = [110, 117, 109, 98, 101, 114]) = False from by simp, show (([116, 105, 109, 101] : List UInt8) = [119, 104, 111, 108, 101]) = False from by simp, show (([116, 105, 109, 101] : List UInt8) = [116, 101, 120, 116]) = False from by simp, show (([116, 105, 109, 101] : List UInt8) = [116, 105, 109, 101]) = True from by simp]
theorem c25_6 (ht : t.length ≤ 4611686018427387904) : CallW cx 25 [.str [116, 105, 109, 101], .agg [.int .i64 k, .str t, .int .i64 n, .int .i64 m]] s K = K (.bool (decide (k = 4))) s := by
  refine CallW.eq (CallW.fn' (fn := ir25) rfl rfl (by kernel_rfl) ir25.eq_1 ?_) K
  have k62 := fun p st K h1 h2 => c62 k t n m st K p h1 h2 ht
  simp (config := {contextual := true, implicitDefEqProofs := false, maxSteps := 4000000}) only [go_sem, ↓reduceIte, Bool.false_eq_true, Nat.reduceEqDiff, Nat.reduceAdd, Int.reduceLE, Int.reduceLT, Int.reduceEq, Int.reduceToNat, Int.toNat_natCast, Int.cast_ofNat_Int, Int.natCast_one, Nat.reduceMod, Nat.reduceDiv, UInt8.reduceToNat, Nat.reduceLT, tests, c48, c60, c61, k62, c64, c65, c66, c67, c68, c69, show (([116, 105, 109, 101] : List UInt8) = [119, 111, 114, 100]) = False from by simp, show (([116, 105, 109, 101] : List UInt8) = [110, 97, 109, 101]) = False from by simp, show (([116, 105, 109, 101] : List UInt8) = [112, 97, 116, 104]) = False from by simp, show (([116, 105, 109, 101] : List UInt8) = [110, 117, 109, 98, 101, 114]) = False from by simp, show (([116, 105, 109, 101] : List UInt8) = [119, 104, 111, 108, 101]) = False from by simp, show (([116, 105, 109, 101] : List UInt8) = [116, 101, 120, 116]) = False from by simp, show (([116, 105, 109, 101] : List UInt8) = [116, 105, 109, 101]) = True from by simp, show (([116, 105, 109, 101] : List UInt8) = [100, 97, 116, 101]) = False from by simp, show (([116, 105, 109, 101] : List UInt8) = [97, 110, 121]) = False from by simp]
theorem c11_7 (ht : t.length ≤ 4611686018427387904) : CallW cx 11 [.str [100, 97, 116, 101], .agg [.int .i64 k, .str t, .int .i64 n, .int .i64 m]] s K = K (.bool (decide (k = 5))) s := by
  refine CallW.eq (CallW.fn' (fn := ir11) rfl rfl (by kernel_rfl) ir11.eq_1 ?_) K
  have kn := fun K => c26 t ht { heap := (s.next, .cells (some 23) [.int .i64 k, .str t, .int .i64 n, .int .i64 m]) :: s.heap, next := s.next + 1, low := s.next } K
  have kp := fun K => c27 t ht { heap := (s.next, .cells (some 23) [.int .i64 k, .str t, .int .i64 n, .int .i64 m]) :: s.heap, next := s.next + 1, low := s.next } K
  simp (config := {contextual := true, implicitDefEqProofs := false, maxSteps := 4000000}) only [go_sem, ↓reduceIte, Bool.false_eq_true, Nat.reduceEqDiff, Nat.reduceAdd, Int.reduceLE, Int.reduceLT, Int.reduceEq, Int.reduceToNat, Int.toNat_natCast, Int.cast_ofNat_Int, Int.natCast_one, Nat.reduceMod, Nat.reduceDiv, UInt8.reduceToNat, Nat.reduceLT, kn, kp, show (([100, 97, 116, 101] : List UInt8) = [119, 111, 114, 100]) = False from by simp, show (([100, 97, 116, 101] : List UInt8) = [110, 97, 109, 101]) = False from by simp, show (([100, 97, 116, 101] : List UInt8) = [112, 97, 116, 104]) = False from by simp, show (([100, 97, 116, 101] : List UInt8) = [110, 117, 109, 98, 101, 114]) = False from by simp, show (([100, 97, 116, 101] : List UInt8) = [119, 104, 111, 108, 101]) = False from by simp, show (([100, 97, 116, 101] : List UInt8) = [116, 101, 120, 116]) = False from by simp, show (([100, 97, 116, 101] : List UInt8) = [116, 105, 109, 101]) = False from by simp, show (([100, 97, 116, 101] : List UInt8) = [100, 97, 116, 101]) = True from by simp]
theorem c25_7 (ht : t.length ≤ 4611686018427387904) : CallW cx 25 [.str [100, 97, 116, 101], .agg [.int .i64 k, .str t, .int .i64 n, .int .i64 m]] s K = K (.bool (decide (k = 5))) s := by
  refine CallW.eq (CallW.fn' (fn := ir25) rfl rfl (by kernel_rfl) ir25.eq_1 ?_) K
  have k62 := fun p st K h1 h2 => c62 k t n m st K p h1 h2 ht
  simp (config := {contextual := true, implicitDefEqProofs := false, maxSteps := 4000000}) only [go_sem, ↓reduceIte, Bool.false_eq_true, Nat.reduceEqDiff, Nat.reduceAdd, Int.reduceLE, Int.reduceLT, Int.reduceEq, Int.reduceToNat, Int.toNat_natCast, Int.cast_ofNat_Int, Int.natCast_one, Nat.reduceMod, Nat.reduceDiv, UInt8.reduceToNat, Nat.reduceLT, tests, c48, c60, c61, k62, c64, c65, c66, c67, c68, c69, show (([100, 97, 116, 101] : List UInt8) = [119, 111, 114, 100]) = False from by simp, show (([100, 97, 116, 101] : List UInt8) = [110, 97, 109, 101]) = False from by simp, show (([100, 97, 116, 101] : List UInt8) = [112, 97, 116, 104]) = False from by simp, show (([100, 97, 116, 101] : List UInt8) = [110, 117, 109, 98, 101, 114]) = False from by simp, show (([100, 97, 116, 101] : List UInt8) = [119, 104, 111, 108, 101]) = False from by simp, show (([100, 97, 116, 101] : List UInt8) = [116, 101, 120, 116]) = False from by simp, show (([100, 97, 116, 101] : List UInt8) = [116, 105, 109, 101]) = False from by simp, show (([100, 97, 116, 101] : List UInt8) = [100, 97, 116, 101]) = True from by simp, show (([100, 97, 116, 101] : List UInt8) = [97, 110, 121]) = False from by simp]
theorem c11_8 (ht : t.length ≤ 4611686018427387904) : CallW cx 11 [.str [97, 110, 121], .agg [.int .i64 k, .str t, .int .i64 n, .int .i64 m]] s K = K (.bool (true)) s := by
  refine CallW.eq (CallW.fn' (fn := ir11) rfl rfl (by kernel_rfl) ir11.eq_1 ?_) K
  have kn := fun K => c26 t ht { heap := (s.next, .cells (some 23) [.int .i64 k, .str t, .int .i64 n, .int .i64 m]) :: s.heap, next := s.next + 1, low := s.next } K
  have kp := fun K => c27 t ht { heap := (s.next, .cells (some 23) [.int .i64 k, .str t, .int .i64 n, .int .i64 m]) :: s.heap, next := s.next + 1, low := s.next } K
  simp (config := {contextual := true, implicitDefEqProofs := false, maxSteps := 4000000}) only [go_sem, ↓reduceIte, Bool.false_eq_true, Nat.reduceEqDiff, Nat.reduceAdd, Int.reduceLE, Int.reduceLT, Int.reduceEq, Int.reduceToNat, Int.toNat_natCast, Int.cast_ofNat_Int, Int.natCast_one, Nat.reduceMod, Nat.reduceDiv, UInt8.reduceToNat, Nat.reduceLT, kn, kp, show (([97, 110, 121] : List UInt8) = [119, 111, 114, 100]) = False from by simp, show (([97, 110, 121] : List UInt8) = [110, 97, 109, 101]) = False from by simp, show (([97, 110, 121] : List UInt8) = [112, 97, 116, 104]) = False from by simp, show (([97, 110, 121] : List UInt8) = [110, 117, 109, 98, 101, 114]) = False from by simp, show (([97, 110, 121] : List UInt8) = [119, 104, 111, 108, 101]) = False from by simp, show (([97, 110, 121] : List UInt8) = [116, 101, 120, 116]) = False from by simp, show (([97, 110, 121] : List UInt8) = [116, 105, 109, 101]) = False from by simp, show (([97, 110, 121] : List UInt8) = [100, 97, 116, 101]) = False from by simp, show (([97, 110, 121] : List UInt8) = [97, 110, 121]) = True from by simp]
theorem c25_8 (ht : t.length ≤ 4611686018427387904) : CallW cx 25 [.str [97, 110, 121], .agg [.int .i64 k, .str t, .int .i64 n, .int .i64 m]] s K = K (.bool (true)) s := by
  refine CallW.eq (CallW.fn' (fn := ir25) rfl rfl (by kernel_rfl) ir25.eq_1 ?_) K
  have k62 := fun p st K h1 h2 => c62 k t n m st K p h1 h2 ht
  simp (config := {contextual := true, implicitDefEqProofs := false, maxSteps := 4000000}) only [go_sem, ↓reduceIte, Bool.false_eq_true, Nat.reduceEqDiff, Nat.reduceAdd, Int.reduceLE, Int.reduceLT, Int.reduceEq, Int.reduceToNat, Int.toNat_natCast, Int.cast_ofNat_Int, Int.natCast_one, Nat.reduceMod, Nat.reduceDiv, UInt8.reduceToNat, Nat.reduceLT, tests, c48, c60, c61, k62, c64, c65, c66, c67, c68, c69, show (([97, 110, 121] : List UInt8) = [119, 111, 114, 100]) = False from by simp, show (([97, 110, 121] : List UInt8) = [110, 97, 109, 101]) = False from by simp, show (([97, 110, 121] : List UInt8) = [112, 97, 116, 104]) = False from by simp, show (([97, 110, 121] : List UInt8) = [110, 117, 109, 98, 101, 114]) = False from by simp, show (([97, 110, 121] : List UInt8) = [119, 104, 111, 108, 101]) = False from by simp, show (([97, 110, 121] : List UInt8) = [116, 101, 120, 116]) = False from by simp, show (([97, 110, 121] : List UInt8) = [116, 105, 109, 101]) = False from by simp, show (([97, 110, 121] : List UInt8) = [100, 97, 116, 101]) = False from by simp, show (([97, 110, 121] : List UInt8) = [97, 110, 121]) = True from by simp]
theorem c11_d (kind : List UInt8) (hk : kind ∉ kindsL) : CallW cx 11 [.str kind, .agg [.int .i64 k, .str t, .int .i64 n, .int .i64 m]] s K = K (.bool ((decide (2 ≤ kind.length) && decide (kind.getD 0 0 = 61)) && (decide (k = 1) || decide (k = 6)) && decide (t = kind.drop 1))) s := by
  refine CallW.eq (CallW.fn' (fn := ir11) rfl rfl (by kernel_rfl) ir11.eq_1 ?_) K
  have kd := fun st K => c28 kind hk st K
  have n0 : (kind = [119, 111, 114, 100]) = False := by simp; intro h; exact hk (h ▸ by decide)
  have n1 : (kind = [110, 97, 109, 101]) = False := by simp; intro h; exact hk (h ▸ by decide)
  have n2 : (kind = [112, 97, 116, 104]) = False := by simp; intro h; exact hk (h ▸ by decide)
  have n3 : (kind = [110, 117, 109, 98, 101, 114]) = False := by simp; intro h; exact hk (h ▸ by decide)
  have n4 : (kind = [119, 104, 111, 108, 101]) = False := by simp; intro h; exact hk (h ▸ by decide)
  have n5 : (kind = [116, 101, 120, 116]) = False := by simp; intro h; exact hk (h ▸ by decide)
  have n6 : (kind = [116, 105, 109, 101]) = False := by simp; intro h; exact hk (h ▸ by decide)
  have n7 : (kind = [100, 97, 116, 101]) = False := by simp; intro h; exact hk (h ▸ by decide)
  have n8 : (kind = [97, 110, 121]) = False := by simp; intro h; exact hk (h ▸ by decide)
  simp (config := {contextual := true, implicitDefEqProofs := false, maxSteps := 4000000}) only [go_sem, ↓reduceIte, Bool.false_eq_true, Nat.reduceEqDiff, Nat.reduceAdd, Int.reduceLE, Int.reduceLT, Int.reduceEq, Int.reduceToNat, Int.toNat_natCast, Int.cast_ofNat_Int, Int.natCast_one, Nat.reduceMod, Nat.reduceDiv, UInt8.reduceToNat, Nat.reduceLT, kd, n0, n1, n2, n3, n4, n5, n6, n7, n8]
  unfold pif
  split
  · rename_i hb
    simp only [Bool.and_eq_true, decide_eq_true_eq] at hb
    (repeat' split) <;> first | trivial | omega
  · trivial
theorem c25_d (kind : List UInt8) (hk : kind ∉ kindsL) : CallW cx 25 [.str kind, .agg [.int .i64 k, .str t, .int .i64 n, .int .i64 m]] s K = K (.bool ((decide (2 ≤ kind.length) && decide (kind.getD 0 0 = 61)) && (decide (k = 1) || decide (k = 6)) && decide (t = kind.drop 1))) s := by
  refine CallW.eq (CallW.fn' (fn := ir25) rfl rfl (by kernel_rfl) ir25.eq_1 ?_) K
  have n0 : (kind = [119, 111, 114, 100]) = False := by simp; intro h; exact hk (h ▸ by decide)
  have n1 : (kind = [110, 97, 109, 101]) = False := by simp; intro h; exact hk (h ▸ by decide)
  have n2 : (kind = [112, 97, 116, 104]) = False := by simp; intro h; exact hk (h ▸ by decide)
  have n3 : (kind = [110, 117, 109, 98, 101, 114]) = False := by simp; intro h; exact hk (h ▸ by decide)
  have n4 : (kind = [119, 104, 111, 108, 101]) = False := by simp; intro h; exact hk (h ▸ by decide)
  have n5 : (kind = [116, 101, 120, 116]) = False := by simp; intro h; exact hk (h ▸ by decide)
  have n6 : (kind = [116, 105, 109, 101]) = False := by simp; intro h; exact hk (h ▸ by decide)
  have n7 : (kind = [100, 97, 116, 101]) = False := by simp; intro h; exact hk (h ▸ by decide)
  have n8 : (kind = [97, 110, 121]) = False := by simp; intro h; exact hk (h ▸ by decide)
  simp (config := {contextual := true, implicitDefEqProofs := false, maxSteps := 4000000}) only [go_sem, ↓reduceIte, Bool.false_eq_true, Nat.reduceEqDiff, Nat.reduceAdd, Int.reduceLE, Int.reduceLT, Int.reduceEq, Int.reduceToNat, Int.toNat_natCast, Int.cast_ofNat_Int, Int.natCast_one, Nat.reduceMod, Nat.reduceDiv, UInt8.reduceToNat, Nat.reduceLT, tests, c48, n0, n1, n2, n3, n4, n5, n6, n7, n8]
  by_cases h : 2 ≤ kind.length
  · have hx : decide (1 < (kind.length : Int)) = true := by simp; omega
    have hy : decide (2 ≤ kind.length) = true := by simp [h]
    rw [hx, hy, pif_true]
    refine ⟨by omega, ?_⟩
    by_cases h6 : kind.getD 0 0 = 61
    · have h7 : decide (((kind.getD 0 0).toNat : Int) = 61) = true := by rw [h6]; rfl
      have h8 : decide (kind.getD 0 0 = 61) = true := by rw [h6]; rfl
      rw [h7, h8, pif_true]
      unfold pif
      (repeat' split) <;> first | trivial | (refine ⟨by omega, ?_⟩; simp)
    · have h7 : decide (((kind.getD 0 0).toNat : Int) = 61) = false := by
        simp only [decide_eq_false_iff_not]; intro h; exact h6 (byte_eq (n := 61) h)
      have h8 : decide (kind.getD 0 0 = 61) = false := by simp only [decide_eq_false_iff_not]; exact h6
      rw [h7, h8, pif_false]
      simp
  · have hx : decide (1 < (kind.length : Int)) = false := by simp; omega
    have hy : decide (2 ≤ kind.length) = false := by simp [h]
    rw [hx, hy, pif_false]
    simp
theorem fitsB_d (kind : List UInt8) (hk : kind ∉ kindsL) : fitsB kind k t n = ((decide (2 ≤ kind.length) && decide (kind.getD 0 0 = 61)) && (decide (k = 1) || decide (k = 6)) && decide (t = kind.drop 1)) := by
  simp only [kindsL, List.mem_cons, List.not_mem_nil, or_false, not_or] at hk
  obtain ⟨h0, h1, h2, h3, h4, h5, h6, h7, h8⟩ := hk
  simp only [fitsB, h0, h1, h2, h3, h4, h5, h6, h7, h8, if_false]
theorem c11 (kind : List UInt8) (ht : t.length ≤ 4611686018427387904) : CallW cx 11 [.str kind, .agg [.int .i64 k, .str t, .int .i64 n, .int .i64 m]] s K = K (.bool (fitsB kind k t n)) s := by
  by_cases hk : kind ∈ kindsL
  · simp only [kindsL, List.mem_cons, List.not_mem_nil, or_false] at hk
    rcases hk with rfl | rfl | rfl | rfl | rfl | rfl | rfl | rfl | rfl
    · exact c11_0 k t n m s K ht
    · exact c11_1 k t n m s K ht
    · exact c11_2 k t n m s K ht
    · exact c11_3 k t n m s K ht
    · exact c11_4 k t n m s K ht
    · exact c11_5 k t n m s K ht
    · exact c11_6 k t n m s K ht
    · exact c11_7 k t n m s K ht
    · exact c11_8 k t n m s K ht
  · rw [fitsB_d k t n kind hk]; exact c11_d k t n m s K kind hk
theorem c25 (kind : List UInt8) (ht : t.length ≤ 4611686018427387904) : CallW cx 25 [.str kind, .agg [.int .i64 k, .str t, .int .i64 n, .int .i64 m]] s K = K (.bool (fitsB kind k t n)) s := by
  by_cases hk : kind ∈ kindsL
  · simp only [kindsL, List.mem_cons, List.not_mem_nil, or_false] at hk
    rcases hk with rfl | rfl | rfl | rfl | rfl | rfl | rfl | rfl | rfl
    · exact c25_0 k t n m s K ht
    · exact c25_1 k t n m s K ht
    · exact c25_2 k t n m s K ht
    · exact c25_3 k t n m s K ht
    · exact c25_4 k t n m s K ht
    · exact c25_5 k t n m s K ht
    · exact c25_6 k t n m s K ht
    · exact c25_7 k t n m s K ht
    · exact c25_8 k t n m s K ht
  · rw [fitsB_d k t n kind hk]; exact c25_d k t n m s K kind hk
theorem c10 (kind : List UInt8) (ht : t.length ≤ 4611686018427387904) : CallW cx 10 [.str kind, .agg [.int .i64 k, .str t, .int .i64 n, .int .i64 m]] s K = K (.bool (fitsB kind k t n)) s := by
  refine CallW.eq (CallW.fn' (fn := ir10) rfl rfl (by kernel_rfl) ir10.eq_1 ?_) K
  have k1 := fun st K => c25 k t n m st K kind ht
  simp (config := {contextual := true, implicitDefEqProofs := false, maxSteps := 4000000}) only [go_sem, ↓reduceIte, Bool.false_eq_true, Nat.reduceEqDiff, Nat.reduceAdd, Int.reduceLE, Int.reduceLT, Int.reduceEq, Int.reduceToNat, Int.toNat_natCast, Int.cast_ofNat_Int, Int.natCast_one, Nat.reduceMod, Nat.reduceDiv, UInt8.reduceToNat, Nat.reduceLT, k1]
end
end T10
