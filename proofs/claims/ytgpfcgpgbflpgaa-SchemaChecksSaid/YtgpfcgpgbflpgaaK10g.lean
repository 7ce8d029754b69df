/- Small lists of forms. -/
import Derived.Test.YtgpfcgpgbflpgaaK10f
namespace T10
open Go Fw Go.Proofs
set_option maxRecDepth 100000
set_option linter.unusedSimpArgs false
set_option linter.unusedVariables false
theorem forms_ind {P : List Form → Prop} (h : ∀ fs, (∀ f ∈ fs, P f.kids) → P fs) : ∀ fs, P fs := by
  have key : ∀ n fs, SizeOf.sizeOf fs < n → P fs := by
    intro n
    induction n with
    | zero => intro fs h; omega
    | succ n ih =>
      intro fs hn
      refine h fs fun f hf => ih f.kids ?_
      have h1 := List.sizeOf_lt_of_mem hf
      cases f with
      | mk w an a kn k l m =>
        simp only [Form.kids]
        have : SizeOf.sizeOf (Form.mk w an a kn k l m) = 1 + SizeOf.sizeOf w + SizeOf.sizeOf an + SizeOf.sizeOf a + SizeOf.sizeOf kn + SizeOf.sizeOf k + SizeOf.sizeOf l + SizeOf.sizeOf m := Form.mk.sizeOf_spec w an a kn k l m
        omega
  exact fun fs => key (SizeOf.sizeOf fs + 1) fs (Nat.lt_succ_self _)

section
variable {fs : List Form} {i : Nat} (h : i < fs.length)
include h
theorem sub_form : sub (encFs fs) (i * 5) 5 = some (encF fs[i]) := by
  have := sub_encFs fs i h 0 5 (by omega)
  rw [Nat.add_zero] at this
  rw [this]
  have h2 := encF_length fs[i]
  simp only [sub, h2, List.drop_zero, Nat.zero_add, Nat.le_refl, if_true]
  rw [List.take_of_length_le (by omega)]
theorem sub_word : sub (encFs fs) (i * 5) 1 = some [.str fs[i].word] := by
  have := sub_encFs fs i h 0 1 (by omega)
  rw [Nat.add_zero] at this
  rw [this, encF_eq]; rfl
theorem sub_args : sub (encFs fs) (i * 5 + 1) 1 = some [slv fs[i].an fs[i].args.length (fs[i].args.map AV.str)] := by
  rw [sub_encFs fs i h 1 1 (by omega), encF_eq]; rfl
theorem sub_kids : sub (encFs fs) (i * 5 + 2) 1 = some [slv fs[i].kn fs[i].kids.length (encFs fs[i].kids)] := by
  rw [sub_encFs fs i h 2 1 (by omega), encF_eq]; rfl
theorem sub_least : sub (encFs fs) (i * 5 + 3) 1 = some [.int .i64 fs[i].least] := by
  rw [sub_encFs fs i h 3 1 (by omega), encF_eq]; rfl
theorem sub_most : sub (encFs fs) (i * 5 + 4) 1 = some [.int .i64 fs[i].most] := by
  rw [sub_encFs fs i h 4 1 (by omega), encF_eq]; rfl
end
theorem sub_str {ss : List (List UInt8)} {k : Nat} (h : k < ss.length) : sub (ss.map AV.str) k 1 = some [.str ss[k]] := by
  rw [sub_one (by simpa using h)]; simp [List.getD, h]

def badF (f : Form) : Bool := decide (100 < f.word.length) || decide (12 < f.args.length) || f.args.any fun a => decide (100 < a.length)
mutual
def roomF : Form → Int → Int
  | .mk w an a kn k l mo, m => if badF (.mk w an a kn [] l mo) then -1 else roomFs k (m - 1)
def roomFs : List Form → Int → Int
  | [], m => m
  | f :: fs, m => if m < 0 then m else roomFs fs (roomF f m)
end
theorem roomF_eq (f : Form) (m : Int) : roomF f m = if badF f then -1 else roomFs f.kids (m - 1) := by
  cases f; simp only [roomF, Form.kids]; rfl
theorem roomFs_le : ∀ (fs : List Form) (m : Int), -1 ≤ m → -1 ≤ roomFs fs m ∧ roomFs fs m ≤ m := by
  refine forms_ind fun fs ih => ?_
  induction fs with
  | nil => intro m hm; simp [roomFs, hm]
  | cons f fs ih2 =>
    intro m hm
    simp only [roomFs]
    split
    · omega
    · have h1 : -1 ≤ roomF f m ∧ roomF f m ≤ m := by
        rw [roomF_eq]; split
        · omega
        · have := ih f (by simp) (m - 1) (by omega); omega
      have h2 := ih2 (fun g hg => ih g (by simp [hg])) (roomF f m) h1.1
      omega

theorem l29a (b : Bool) (fs : List Form) (i : Nat) (hi : i < fs.length) (m : Int) (st : St) (Q : Sig → FE → St → Prop) : ∀ (n k : Nat) (e : FE), k + n = fs[i].args.length → fs[i].args.length ≤ 12 → e 0 = slv b fs.length (encFs fs) → e 1 = .int .i64 m → e 5 = .int .i64 i → e 6 = .int .i64 k →
    ((fs[i].args.drop k).any (fun a => decide (100 < a.length)) = false → ∀ e', e' 0 = slv b fs.length (encFs fs) → e' 1 = .int .i64 m → e' 5 = .int .i64 i → Q (.exit 2) e' st) →
    ((fs[i].args.drop k).any (fun a => decide (100 < a.length)) = true → ∀ e', e' 4 = .int .i64 (-1) → Q .ret e' st) → WLoop cx ir29L0 e st Q
  | 0, k, e, hk, hk2, h0, h1, h5, h6, hT, hF => by
    refine WLoop.rnd (c := _) ir29L0.eq_1 ?_
    have hd : decide ((k : Int) < (fs[i].args.length : Int)) = false := by simp; omega
    simp (config := {contextual := true, implicitDefEqProofs := false, maxSteps := 4000000}) only [go_sem, ↓reduceIte, Bool.false_eq_true, Nat.reduceEqDiff, Nat.reduceAdd, Int.reduceLE, Int.reduceLT, Int.reduceEq, Int.reduceToNat, Int.toNat_natCast, Int.cast_ofNat_Int, Int.natCast_one, Nat.reduceMod, Nat.reduceDiv, UInt8.reduceToNat, Nat.reduceLT, h0, h1, h5, h6, hd, sub_args hi]
    refine ⟨by omega, hT (by rw [List.drop_eq_nil_of_le (by omega)]; rfl) _ h0 h1 h5⟩
  | n + 1, k, e, hk, hk2, h0, h1, h5, h6, hT, hF => by
    refine WLoop.rnd (c := _) ir29L0.eq_1 ?_
    have hd : decide ((k : Int) < (fs[i].args.length : Int)) = true := by simp; omega
    have hw := wrap_one (i := k) (by omega)
    have hlt : k < fs[i].args.length := by omega
    simp (config := {contextual := true, implicitDefEqProofs := false, maxSteps := 4000000}) only [go_sem, ↓reduceIte, Bool.false_eq_true, Nat.reduceEqDiff, Nat.reduceAdd, Int.reduceLE, Int.reduceLT, Int.reduceEq, Int.reduceToNat, Int.toNat_natCast, Int.cast_ofNat_Int, Int.natCast_one, Nat.reduceMod, Nat.reduceDiv, UInt8.reduceToNat, Nat.reduceLT, h0, h1, h5, h6, hd, hw, sub_args hi, sub_str hlt]
    rw [List.drop_eq_getElem_cons hlt, List.any_cons] at hT hF
    refine ⟨by omega, by omega, by omega, ?_⟩
    by_cases hl : 100 < fs[i].args[k].length
    · have hx : decide (100 < (fs[i].args[k].length : Int)) = true := by simp; omega
      have hy : decide (100 < fs[i].args[k].length) = true := by simp [hl]
      rw [hx, pif_true]
      exact hF (by rw [hy]; rfl) _ rfl
    · have hx : decide (100 < (fs[i].args[k].length : Int)) = false := by simp; omega
      have hy : decide (100 < fs[i].args[k].length) = false := by simp [hl]
      rw [hx, pif_false]
      rw [hy, Bool.false_or] at hT hF
      exact l29a b fs i hi m st Q n (k + 1) _ (by omega) hk2 h0 h1 h5 rfl hT hF

theorem l29 (b : Bool) (fs : List Form) (ih : ∀ f ∈ fs, ∀ (b : Bool) (m : Int) (s : St) (K : AV → St → Prop), -1 ≤ m → m ≤ 40 → CallW cx 29 [slv b f.kids.length (encFs f.kids), .int .i64 m] s K = K (.int .i64 (roomFs f.kids m)) s) (st : St) (Q : Sig → FE → St → Prop) :
    ∀ (n i : Nat) (m : Int) (e : FE), i + n = fs.length → i + m ≤ 40 → -1 ≤ m → e 0 = slv b fs.length (encFs fs) → e 1 = .int .i64 m → e 5 = .int .i64 i →
    (∀ e' m', roomFs (fs.drop i) m = m' → e' 1 = .int .i64 m' → Q (.exit 0) e' st) → (roomFs (fs.drop i) m = -1 → ∀ e', e' 4 = .int .i64 (-1) → Q .ret e' st) → WLoop cx ir29L1 e st Q
  | 0, i, m, e, hi, him, hm, h0, h1, h5, hT, hF => by
    refine WLoop.rnd (c := _) ir29L1.eq_1 ?_
    have hd : decide ((i : Int) < (fs.length : Int)) = false := by simp; omega
    simp (config := {contextual := true, implicitDefEqProofs := false, maxSteps := 4000000}) only [go_sem, ↓reduceIte, Bool.false_eq_true, Nat.reduceEqDiff, Nat.reduceAdd, Int.reduceLE, Int.reduceLT, Int.reduceEq, Int.reduceToNat, Int.toNat_natCast, Int.cast_ofNat_Int, Int.natCast_one, Nat.reduceMod, Nat.reduceDiv, UInt8.reduceToNat, Nat.reduceLT, h0, h1, h5, hd]
    exact hT _ m (by rw [List.drop_eq_nil_of_le (by omega)]; rfl) h1
  | n + 1, i, m, e, hi, him, hm, h0, h1, h5, hT, hF => by
    refine WLoop.rnd (c := _) ir29L1.eq_1 ?_
    have hd : decide ((i : Int) < (fs.length : Int)) = true := by simp; omega
    have hlt : i < fs.length := by omega
    rw [List.drop_eq_getElem_cons hlt] at hT hF
    by_cases hm0 : m < 0
    · have hx : decide (0 ≤ m) = false := by simp; omega
      simp (config := {contextual := true, implicitDefEqProofs := false, maxSteps := 4000000}) only [go_sem, ↓reduceIte, Bool.false_eq_true, Nat.reduceEqDiff, Nat.reduceAdd, Int.reduceLE, Int.reduceLT, Int.reduceEq, Int.reduceToNat, Int.toNat_natCast, Int.cast_ofNat_Int, Int.natCast_one, Nat.reduceMod, Nat.reduceDiv, UInt8.reduceToNat, Nat.reduceLT, h0, h1, h5, hd, hx]
      exact hT _ m (by simp only [roomFs]; rw [if_pos hm0]) h1
    have hx : decide (0 ≤ m) = true := by simp; omega
    have hr : roomFs (fs[i] :: fs.drop (i + 1)) m = roomFs (fs.drop (i + 1)) (roomF fs[i] m) := by
      simp only [roomFs]; rw [if_neg hm0]
    rw [hr, roomF_eq] at hT hF
    have hneg : ∀ l, roomFs l (-1) = -1 := fun l => by have := roomFs_le l (-1) (by omega); omega
    by_cases hw : 100 < fs[i].word.length
    · have hy : decide (100 < (fs[i].word.length : Int)) = true := by simp; omega
      have hb : badF fs[i] = true := by simp [badF, hw]
      simp (config := {contextual := true, implicitDefEqProofs := false, maxSteps := 4000000}) only [go_sem, ↓reduceIte, Bool.false_eq_true, Nat.reduceEqDiff, Nat.reduceAdd, Int.reduceLE, Int.reduceLT, Int.reduceEq, Int.reduceToNat, Int.toNat_natCast, Int.cast_ofNat_Int, Int.natCast_one, Nat.reduceMod, Nat.reduceDiv, UInt8.reduceToNat, Nat.reduceLT, h0, h1, h5, hd, hx, sub_word hlt, hy]
      rw [hb, if_pos rfl, hneg] at hF
      exact ⟨by omega, hF rfl _ rfl⟩
    have hy : decide (100 < (fs[i].word.length : Int)) = false := by simp; omega
    by_cases ha : 12 < fs[i].args.length
    · have hz : decide (12 < (fs[i].args.length : Int)) = true := by simp; omega
      have hb : badF fs[i] = true := by simp [badF, ha]
      simp (config := {contextual := true, implicitDefEqProofs := false, maxSteps := 4000000}) only [go_sem, ↓reduceIte, Bool.false_eq_true, Nat.reduceEqDiff, Nat.reduceAdd, Int.reduceLE, Int.reduceLT, Int.reduceEq, Int.reduceToNat, Int.toNat_natCast, Int.cast_ofNat_Int, Int.natCast_one, Nat.reduceMod, Nat.reduceDiv, UInt8.reduceToNat, Nat.reduceLT, h0, h1, h5, hd, hx, sub_word hlt, sub_args hlt, hy, hz]
      rw [hb, if_pos rfl, hneg] at hF
      exact ⟨by omega, by omega, hF rfl _ rfl⟩
    have hz : decide (12 < (fs[i].args.length : Int)) = false := by simp; omega
    simp (config := {contextual := true, implicitDefEqProofs := false, maxSteps := 4000000}) only [go_sem, ↓reduceIte, Bool.false_eq_true, Nat.reduceEqDiff, Nat.reduceAdd, Int.reduceLE, Int.reduceLT, Int.reduceEq, Int.reduceToNat, Int.toNat_natCast, Int.cast_ofNat_Int, Int.natCast_one, Nat.reduceMod, Nat.reduceDiv, UInt8.reduceToNat, Nat.reduceLT, h0, h1, h5, hd, hx, sub_word hlt, sub_args hlt, hy, hz]
    refine ⟨by omega, by omega, ?_⟩
    refine l29a b fs i hlt m st _ fs[i].args.length 0 _ (by omega) (by omega) h0 h1 h5 rfl ?_ ?_
    · intro hany e' k0 k1 k5
      rw [List.drop_zero] at hany
      have hb : badF fs[i] = false := by
        have h1 : decide (100 < fs[i].word.length) = false := by simp; omega
        have h2 : decide (12 < fs[i].args.length) = false := by simp; omega
        simp only [badF, h1, h2, hany]; rfl
      rw [hb] at hT hF
      simp only [Bool.false_eq_true, if_false] at hT hF
      have hw1 : IntKind.i64.wrap (m - 1) = m - 1 := wrap_i64 (by omega) (by omega)
      have hw2 := wrap_one (i := i) (by omega)
      have hc := fun st K => ih fs[i] (List.getElem_mem hlt) fs[i].kn (m - 1) st K (by omega) (by omega)
      simp (config := {contextual := true, implicitDefEqProofs := false, maxSteps := 4000000}) only [go_sem, ↓reduceIte, Bool.false_eq_true, Nat.reduceEqDiff, Nat.reduceAdd, Int.reduceLE, Int.reduceLT, Int.reduceEq, Int.reduceToNat, Int.toNat_natCast, Int.cast_ofNat_Int, Int.natCast_one, Nat.reduceMod, Nat.reduceDiv, UInt8.reduceToNat, Nat.reduceLT, k0, k1, k5, hw1, hw2, sub_kids hlt, hc]
      have hle := roomFs_le fs[i].kids (m - 1) (by omega)
      refine ⟨by omega, ?_⟩
      exact l29 b fs ih st Q n (i + 1) (roomFs fs[i].kids (m - 1)) _ (by omega) (by omega) (by omega) k0 rfl rfl hT hF
    · intro hany e' k4
      rw [List.drop_zero] at hany
      have hb : badF fs[i] = true := by simp only [badF, hany, Bool.or_true]
      rw [hb, if_pos rfl, hneg] at hF
      simp (config := {contextual := true, implicitDefEqProofs := false, maxSteps := 4000000}) only [go_sem, ↓reduceIte, Bool.false_eq_true, Nat.reduceEqDiff, Nat.reduceAdd, Int.reduceLE, Int.reduceLT, Int.reduceEq, Int.reduceToNat, Int.toNat_natCast, Int.cast_ofNat_Int, Int.natCast_one, Nat.reduceMod, Nat.reduceDiv, UInt8.reduceToNat, Nat.reduceLT, k4]
      exact hF rfl _ k4
theorem c29 : ∀ (fs : List Form) (b : Bool) (m : Int) (s : St) (K : AV → St → Prop), -1 ≤ m → m ≤ 40 → CallW cx 29 [slv b fs.length (encFs fs), .int .i64 m] s K = K (.int .i64 (roomFs fs m)) s := by
  refine forms_ind fun fs ih => ?_
  intro b m s K h1 h2
  refine CallW.eq (CallW.fn' (fn := ir29) rfl rfl (by kernel_rfl) ir29.eq_1 ?_) K
  simp (config := {contextual := true, implicitDefEqProofs := false, maxSteps := 4000000}) only [go_sem, ↓reduceIte, Bool.false_eq_true, Nat.reduceEqDiff, Nat.reduceAdd, Int.reduceLE, Int.reduceLT, Int.reduceEq, Int.reduceToNat, Int.toNat_natCast, Int.cast_ofNat_Int, Int.natCast_one, Nat.reduceMod, Nat.reduceDiv, UInt8.reduceToNat, Nat.reduceLT]
  refine l29 b fs ih _ _ fs.length 0 m _ (by omega) (by omega) h1 rfl rfl rfl ?_ ?_
  · intro e' m' hm k1
    rw [List.drop_zero] at hm
    simp (config := {contextual := true, implicitDefEqProofs := false, maxSteps := 4000000}) only [go_sem, ↓reduceIte, Bool.false_eq_true, Nat.reduceEqDiff, Nat.reduceAdd, Int.reduceLE, Int.reduceLT, Int.reduceEq, Int.reduceToNat, Int.toNat_natCast, Int.cast_ofNat_Int, Int.natCast_one, Nat.reduceMod, Nat.reduceDiv, UInt8.reduceToNat, Nat.reduceLT, k1]
    rw [hm]
  · intro hm e' k4
    rw [List.drop_zero] at hm
    simp (config := {contextual := true, implicitDefEqProofs := false, maxSteps := 4000000}) only [go_sem, ↓reduceIte, Bool.false_eq_true, Nat.reduceEqDiff, Nat.reduceAdd, Int.reduceLE, Int.reduceLT, Int.reduceEq, Int.reduceToNat, Int.toNat_natCast, Int.cast_ofNat_Int, Int.natCast_one, Nat.reduceMod, Nat.reduceDiv, UInt8.reduceToNat, Nat.reduceLT, k4]
    rw [hm]
theorem c12 (fs : List Form) (b : Bool) (s : St) (K : AV → St → Prop) : CallW cx 12 [slv b fs.length (encFs fs)] s K = K (.bool (decide (0 ≤ roomFs fs 40))) s := by
  refine CallW.eq (CallW.fn' (fn := ir12) rfl rfl (by kernel_rfl) ir12.eq_1 ?_) K
  have hc := fun st K => c29 fs b 40 st K (by omega) (by omega)
  simp (config := {contextual := true, implicitDefEqProofs := false, maxSteps := 4000000}) only [go_sem, ↓reduceIte, Bool.false_eq_true, Nat.reduceEqDiff, Nat.reduceAdd, Int.reduceLE, Int.reduceLT, Int.reduceEq, Int.reduceToNat, Int.toNat_natCast, Int.cast_ofNat_Int, Int.natCast_one, Nat.reduceMod, Nat.reduceDiv, UInt8.reduceToNat, Nat.reduceLT, hc]
end T10
