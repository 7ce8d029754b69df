/- What the functions that SchemaFits reaches compute. -/
import Derived.Test.YtgpfcgpgbflpgaaK10c
import Derived.Test.YtgpfcgpgbflpgaaFwW3
namespace T10
open Go Fw Go.Proofs
set_option maxRecDepth 100000
set_option linter.unusedSimpArgs false
set_option linter.unusedVariables false
/-- The bytes of a name. -/
def okB (b : UInt8) : Bool := (decide (97 ≤ b.toNat) && decide (b.toNat ≤ 122)) || (decide (48 ≤ b.toNat) && decide (b.toNat ≤ 57)) || decide (b.toNat = 95)
def lowB (b : UInt8) : Bool := decide (97 ≤ b.toNat) && decide (b.toNat ≤ 122)
def nameB (a : List UInt8) : Bool := decide (a ≠ []) && decide (a.length ≤ 24) && lowB (a.getD 0 0) && a.all okB
theorem drop_at {a : List UInt8} {i : Nat} (h : i < a.length) : a.drop i = a.getD i 0 :: a.drop (i + 1) := by
  rw [List.drop_eq_getElem_cons h]; simp [List.getD, h]
theorem wrap_one {i : Nat} (h : i < 9223372036854775807) : IntKind.i64.wrap ((i : Int) + 1) = ((i + 1 : Nat) : Int) := by rw [wrap_i64 (by omega) (by omega)]; rfl

/- schema.name -/
theorem l35 (a : List UInt8) (hl : a.length ≤ 4611686018427387904) (st : St) (Q : Sig → FE → St → Prop) : ∀ (n i : Nat) (e : FE), i + n = a.length → e 0 = .str a → e 23 = .int .i64 a.length → e 24 = .int .i64 i →
    ((a.drop i).all okB = true → ∀ e', Q (.exit 0) e' st) → ((a.drop i).all okB = false → ∀ e', e' 2 = .bool false → Q .ret e' st) → WLoop cx ir35L0 e st Q
  | 0, i, e, hi, h0, h1, h2, hT, hF => by
    refine WLoop.rnd (c := _) ir35L0.eq_1 ?_
    have hd : decide ((i : Int) < (a.length : Int)) = false := by simp; omega
    simp (config := {contextual := true, implicitDefEqProofs := false, maxSteps := 1000000}) only [go_sem, ↓reduceIte, Bool.false_eq_true, Nat.reduceEqDiff, Nat.reduceAdd, Int.reduceLE, Int.reduceToNat, h0, h1, h2, hd]
    exact hT (by rw [List.drop_eq_nil_of_le (by omega)]; rfl) _
  | n + 1, i, e, hi, h0, h1, h2, hT, hF => by
    refine WLoop.rnd (c := _) ir35L0.eq_1 ?_
    have hd : decide ((i : Int) < (a.length : Int)) = true := by simp; omega
    simp (config := {contextual := true, implicitDefEqProofs := false, maxSteps := 1000000}) only [go_sem, ↓reduceIte, Bool.false_eq_true, Nat.reduceEqDiff, Nat.reduceAdd, Int.reduceLE, Int.reduceToNat, h0, h1, h2, hd, Int.toNat_natCast]
    have hda := drop_at (a := a) (i := i) (by omega)
    have hw := wrap_one (i := i) (by omega)
    rw [hda, List.all_cons] at hT hF
    generalize a.getD i 0 = c at *
    have next : okB c = true → ∀ e', e' 0 = .str a → e' 23 = .int .i64 a.length → e' 24 = .int .i64 (IntKind.i64.wrap ((i : Int) + 1)) → WLoop cx ir35L0 e' st Q := fun hc e' k0 k1 k2 =>
      l35 a hl st Q n (i + 1) e' (by omega) k0 k1 (by rw [k2, hw]) (fun h => hT (by rw [hc, h]; rfl)) (fun h => hF (by rw [hc, h]; rfl))
    refine ⟨by omega, by omega, ?_⟩
    unfold pif
    repeat' split
    all_goals first
      | (refine hF ?_ _ rfl; have : okB c = false := (by clear next hT hF hda; simp_all [okB] <;> omega); rw [this]; rfl)
      | (refine next ?_ _ h0 h1 rfl; clear next hT hF hda; simp_all [okB] <;> omega)

theorem nonempty_of_lt {a : List UInt8} (h : a ≠ []) : 0 < a.length := List.length_pos_iff.2 h

theorem c35 (a : List UInt8) (s : St) (K : AV → St → Prop) : CallW cx 35 [.str a] s K = K (.bool (nameB a)) s := by
  refine CallW.eq (CallW.fn' (fn := ir35) rfl rfl (by kernel_rfl) ir35.eq_1 ?_) K
  simp (config := {contextual := true, implicitDefEqProofs := false, maxSteps := 1000000}) only [go_sem, ↓reduceIte, Bool.false_eq_true, Nat.reduceEqDiff, Nat.reduceAdd, Int.reduceLE, Int.reduceToNat]
  by_cases h0 : a = []
  · subst h0; simp [pif, nameB]
  have h1 : 0 < a.length := nonempty_of_lt h0
  have hn : nameB a = (decide (a.length ≤ 24) && lowB (a.getD 0 0) && a.all okB) := by simp [nameB, h0]
  have hd : decide (a = []) = false := by simp [h0]
  rw [hn, hd, pif_false]
  generalize hc : a.getD 0 0 = c
  by_cases h2 : 24 < a.length
  · have hx : decide (24 < (a.length : Int)) = true := by simp; omega
    have hy : decide (a.length ≤ 24) = false := by simp; omega
    simp [hx, hy, pif]
  have hx : decide (24 < (a.length : Int)) = false := by simp; omega
  have hy : decide (a.length ≤ 24) = true := by simp; omega
  rw [hx, hy, pif_false]
  refine ⟨by omega, ?_⟩
  by_cases h3 : c.toNat < 97
  · have hx : decide ((c.toNat : Int) < 97) = true := by simp; omega
    have hy : lowB c = false := by simp [lowB]; omega
    simp [hx, hy, pif]
  have hx3 : decide ((c.toNat : Int) < 97) = false := by simp; omega
  rw [hx3, pif_false]
  refine ⟨by omega, ?_⟩
  by_cases h4 : 122 < c.toNat
  · have hx : decide (122 < (c.toNat : Int)) = true := by simp; omega
    have hy : lowB c = false := by simp [lowB]; omega
    simp [hx, hy, pif]
  have hx4 : decide (122 < (c.toNat : Int)) = false := by simp; omega
  have hy4 : lowB c = true := by simp [lowB]; omega
  rw [hx4, hy4, pif_false]
  refine l35 a (by omega) _ _ a.length 0 _ (by omega) rfl rfl rfl ?_ ?_
  · intro h e'
    rw [List.drop_zero] at h
    simp (config := {implicitDefEqProofs := false, maxSteps := 1000000}) only [go_sem, ↓reduceIte, h]
  · intro h e' h2
    rw [List.drop_zero] at h
    simp (config := {implicitDefEqProofs := false, maxSteps := 1000000}) only [go_sem, ↓reduceIte, h, h2, Bool.and_false]

/- ref.Name -/
theorem l26 (a : List UInt8) (hl : a.length ≤ 4611686018427387904) (st : St) (Q : Sig → FE → St → Prop) : ∀ (n i : Nat) (e : FE), i + n = a.length → e 0 = .str a → e 3 = .int .i64 i →
    (((a.drop i).all okB && (decide (i ≠ 0) || decide (a = []) || lowB (a.getD 0 0))) = true → ∀ e', e' 0 = .str a → Q (.exit 0) e' st) → (((a.drop i).all okB && (decide (i ≠ 0) || decide (a = []) || lowB (a.getD 0 0))) = false → ∀ e', e' 2 = .bool false → Q .ret e' st) → WLoop cx ir26L0 e st Q
  | 0, i, e, hi, h0, h2, hT, hF => by
    refine WLoop.rnd (c := _) ir26L0.eq_1 ?_
    have hd : decide ((i : Int) < (a.length : Int)) = false := by simp; omega
    simp (config := {contextual := true, implicitDefEqProofs := false, maxSteps := 1000000}) only [go_sem, ↓reduceIte, Bool.false_eq_true, Nat.reduceEqDiff, Nat.reduceAdd, Int.reduceLE, Int.reduceToNat, h0, h2, hd]
    refine hT ?_ _ h0
    rw [List.drop_eq_nil_of_le (by omega)]
    by_cases h : a = []
    · simp [h]
    · have := nonempty_of_lt h
      simp; left; left; omega
  | n + 1, i, e, hi, h0, h2, hT, hF => by
    refine WLoop.rnd (c := _) ir26L0.eq_1 ?_
    have hd : decide ((i : Int) < (a.length : Int)) = true := by simp; omega
    simp (config := {contextual := true, implicitDefEqProofs := false, maxSteps := 1000000}) only [go_sem, ↓reduceIte, Bool.false_eq_true, Nat.reduceEqDiff, Nat.reduceAdd, Int.reduceLE, Int.reduceToNat, h0, h2, hd, Int.toNat_natCast]
    have hda := drop_at (a := a) (i := i) (by omega)
    have hw := wrap_one (i := i) (by omega)
    have hne : decide (a = []) = false := by
      simp; intro h; subst h; simp at hi
    rw [hda, List.all_cons, hne] at hT hF
    refine ⟨by omega, by omega, ?_⟩
    have next : okB (a.getD i 0) = true → (i = 0 → lowB (a.getD 0 0) = true) → ∀ e', e' 0 = .str a → e' 3 = .int .i64 (IntKind.i64.wrap ((i : Int) + 1)) → WLoop cx ir26L0 e' st Q := fun hc hz e' k0 k2 =>
by
      have hA : ((a.drop (i + 1)).all okB && (decide (i + 1 ≠ 0) || decide (a = []) || lowB (a.getD 0 0))) = (a.drop (i + 1)).all okB := by
        have : decide (i + 1 ≠ 0) = true := by simp
        rw [this, Bool.true_or, Bool.true_or, Bool.and_true]
      have hB : (okB (a.getD i 0) && (a.drop (i + 1)).all okB && (decide (i ≠ 0) || false || lowB (a.getD 0 0))) = (a.drop (i + 1)).all okB := by
        rw [hc]
        by_cases hi0 : i = 0
        · rw [hz hi0, Bool.or_true, Bool.and_true, Bool.true_and]
        · have : decide (i ≠ 0) = true := by simp [hi0]
          rw [this, Bool.true_or, Bool.true_or, Bool.and_true, Bool.true_and]
      rw [hB] at hT hF
      exact l26 a hl st Q n (i + 1) e' (by omega) k0 (by rw [k2, hw]) (by rw [hA]; exact hT) (by rw [hA]; exact hF)
    by_cases hi0 : i = 0
    · subst hi0
      have hz : decide (((0 : Nat) : Int) = 0) = true := rfl
      simp only [hz]
      generalize a.getD 0 0 = c at *
      unfold pif
      repeat' split
      all_goals first
        | (refine hF ?_ _ rfl; have : lowB c = false := (by clear next hT hF hda; simp_all [lowB] <;> omega); rw [this]; simp; done)
        | (refine next ?_ (fun _ => ?_) _ h0 rfl <;> clear next hT hF hda <;> simp_all [okB, lowB] <;> omega)
        | (exfalso; clear next hT hF hda; simp_all; done)
    · have hz : decide ((i : Int) = 0) = false := by simp; exact hi0
      simp only [hz]
      generalize a.getD i 0 = c at *
      unfold pif
      repeat' split
      all_goals first
        | (refine hF ?_ _ rfl; have : okB c = false := (by clear next hT hF hda; simp_all [okB] <;> omega); rw [this]; simp; done)
        | (refine next ?_ (fun h => absurd h hi0) _ h0 rfl; clear next hT hF hda; simp_all [okB] <;> omega)
        | (exfalso; clear next hT hF hda; simp_all; done)

theorem c26 (a : List UInt8) (hl : a.length ≤ 4611686018427387904) (s : St) (K : AV → St → Prop) : CallW cx 26 [.str a] s K = K (.bool (nameB a)) s := by
  refine CallW.eq (CallW.fn' (fn := ir26) rfl rfl (by kernel_rfl) ir26.eq_1 ?_) K
  simp (config := {contextual := true, implicitDefEqProofs := false, maxSteps := 1000000}) only [go_sem, ↓reduceIte, Bool.false_eq_true, Nat.reduceEqDiff, Nat.reduceAdd, Int.reduceLE, Int.reduceToNat]
  refine l26 a hl _ _ a.length 0 _ (by omega) rfl rfl ?_ ?_
  · intro h e' h0
    rw [List.drop_zero] at h
    simp (config := {contextual := true, implicitDefEqProofs := false, maxSteps := 1000000}) only [go_sem, ↓reduceIte, Bool.false_eq_true, Nat.reduceEqDiff, h0]
    by_cases he : a = []
    · subst he; simp [nameB, pif]
    · have hp := nonempty_of_lt he
      simp [he] at h
      have hx : decide (1 ≤ (a.length : Int)) = true := by simp; omega
      have hn : nameB a = decide (a.length ≤ 24) := by
        simp only [nameB]
        rw [show lowB (a.getD 0 0) = true by simpa using h.2]
        have : a.all okB = true := by simpa using h.1
        rw [this]; simp [he]
      rw [hx, hn, pif_true]
      simp
      omega
  · intro h e' h2
    rw [List.drop_zero] at h
    simp (config := {implicitDefEqProofs := false, maxSteps := 1000000}) only [go_sem, ↓reduceIte, h2]
    have hn : nameB a = false := by
      by_cases he : a = []
      · subst he; rfl
      · simp [he] at h
        simp only [nameB]
        cases h1 : a.all okB with
        | false => simp
        | true =>
          have := h (by simpa using h1)
          have h3 : lowB (a.getD 0 0) = false := by simpa using this
          rw [h3]; simp
    rw [hn]
end T10
