/- Parts of the proof, one behind the other. -/
import Derived.Test.YtofeijldadameaaDoorK01p
import Derived.Test.YtofeijldadameaaDoorK01v
set_option linter.unusedSimpArgs false
set_option linter.unusedVariables false
/- Parse, of the program and of the reference. -/
namespace T01
open Go Fw Go.Proofs
set_option maxRecDepth 100000
set_option maxHeartbeats 4000000
set_option linter.unusedSimpArgs false
set_option linter.unusedVariables false
theorem byte_at {a : List UInt8} {i : Nat} (h : i < a.length) : sub (byteCells a) i 1 = some [.int .u8 ((a.getD i 0).toNat : Int)] := by
  rw [sub_one (by simpa [byteCells] using h)]
  simp [byteCells, List.getD, h]
theorem dig_sub {b : UInt8} (h : isD b = true) : IntKind.u8.wrap ((b.toNat : Int) - 48) = ((b.toNat - 48 : Nat) : Int) ∧ b.toNat - 48 ≤ 9 := by
  unfold isD at h
  simp only [Bool.and_eq_true, decide_eq_true_eq] at h
  rw [wrap_u8]; omega
theorem getD_isD {a : List UInt8} (h : a.all isD = true) {i : Nat} (hi : i < a.length) : isD (a.getD i 0) = true := by
  have : a.getD i 0 = a[i] := by simp [List.getD, hi]
  rw [this]; exact List.all_eq_true.1 h _ (List.getElem_mem hi)
theorem small_w (d : Nat) (h : d ≤ 9) : IntKind.i64.wrap (d : Int) = (d : Int) := wrap_i64 (by omega) (by omega)
theorem l18 (a : List UInt8) (ha : a.all isD = true) (hl : a.length ≤ 1000) (C : Nat) (ty : Option TypeId) (st : St) (hlk : Fw.look C st.heap = some (.cells ty (byteCells a))) (Q : Sig → FE → St → Prop) : ∀ (n i v : Nat) (e : FE), i + n = a.length → v ≤ 1000000000000 → e 39 = .mslice C 0 a.length none → e 40 = .int .i64 (a.length : Int) → e 41 = .int .i64 (i : Int) → e 9 = .int .i64 (v : Int) →
    (∀ e', acc (a.drop i) v = none → e' 2 = .int .i64 0 → e' 3 = .int .i64 6 → Q .ret e' st) → (∀ m e', acc (a.drop i) v = some m → e' 9 = .int .i64 (m : Int) → Q (.exit 0) e' st) → WLoop cx ir18L0 e st Q
  | 0, i, v, e, hi, hv, h39, h40, h41, h9, hR, hQ => by
    refine WLoop.rnd (c := _) ir18L0.eq_1 ?_
    have d1 : decide ((i : Int) < (a.length : Int)) = false := decide_eq_false (by omega)
    rw [List.drop_eq_nil_of_le (by omega)] at hQ
    simp (config := {contextual := true, implicitDefEqProofs := false, maxSteps := 4000000}) only [go_sem, ↓reduceIte, Bool.false_eq_true, Nat.reduceEqDiff, Nat.reduceAdd, Int.reduceLE, Int.reduceLT, Int.reduceEq, Int.reduceToNat, Int.toNat_natCast, Int.cast_ofNat_Int, Int.natCast_one, Nat.reduceMod, Nat.reduceDiv, UInt8.reduceToNat, Nat.reduceLT, h39, h40, h41, d1]
    exact hQ v _ rfl h9
  | n + 1, i, v, e, hi, hv, h39, h40, h41, h9, hR, hQ => by
    refine WLoop.rnd (c := _) ir18L0.eq_1 ?_
    have d1 : decide ((i : Int) < (a.length : Int)) = true := decide_eq_true (by omega)
    have b1 : (0 : Int) ≤ (i : Int) ∧ (i : Int) < (a.length : Int) := by omega
    have hw := wrap_one (i := i) (by omega)
    have hb := byte_at (a := a) (i := i) (by omega)
    have hD := getD_isD ha (i := i) (by omega)
    rw [drop_at (a := a) (i := i) (by omega)] at hQ hR
    simp only [acc] at hQ hR
    obtain ⟨c, hcd⟩ : ∃ c, a.getD i 0 = c := ⟨_, rfl⟩
    rw [hcd] at hQ hR hD hb
    obtain ⟨s1, s2⟩ := dig_sub hD
    obtain ⟨d, hd⟩ : ∃ d, c.toNat - 48 = d := ⟨_, rfl⟩
    rw [hd] at hQ hR s1 s2
    have s3 := small_w d s2
    have w1 : IntKind.i64.wrap (10 * (v : Int)) = ((10 * v : Nat) : Int) := by rw [wrap_i64 (by omega) (by omega)]; omega
    have w2 : IntKind.i64.wrap (((10 * v : Nat) : Int) + (d : Int)) = ((10 * v + d : Nat) : Int) := by rw [wrap_i64 (by omega) (by omega)]; omega
    by_cases hx : 1000000000000 < 10 * v + d
    · have d2 : decide ((1000000000000 : Int) < ((10 * v + d : Nat) : Int)) = true := decide_eq_true (by omega)
      rw [if_pos hx] at hR
      simp (config := {contextual := true, implicitDefEqProofs := false, maxSteps := 4000000}) only [go_sem, ↓reduceIte, Bool.false_eq_true, Nat.reduceEqDiff, Nat.reduceAdd, Int.reduceLE, Int.reduceLT, Int.reduceEq, Int.reduceToNat, Int.toNat_natCast, Int.cast_ofNat_Int, Int.natCast_one, Nat.reduceMod, Nat.reduceDiv, UInt8.reduceToNat, Nat.reduceLT, h39, h40, h41, h9, d1, hw, oget_iaddr_mslice, b1, Nat_mul_one, hlk, hb, s1, s3, w1, w2, d2]
      exact hR _ rfl rfl rfl
    · have d2 : decide ((1000000000000 : Int) < ((10 * v + d : Nat) : Int)) = false := decide_eq_false (by omega)
      rw [if_neg hx] at hR hQ
      simp (config := {contextual := true, implicitDefEqProofs := false, maxSteps := 4000000}) only [go_sem, ↓reduceIte, Bool.false_eq_true, Nat.reduceEqDiff, Nat.reduceAdd, Int.reduceLE, Int.reduceLT, Int.reduceEq, Int.reduceToNat, Int.toNat_natCast, Int.cast_ofNat_Int, Int.natCast_one, Nat.reduceMod, Nat.reduceDiv, UInt8.reduceToNat, Nat.reduceLT, h39, h40, h41, h9, d1, hw, oget_iaddr_mslice, b1, Nat_mul_one, hlk, hb, s1, s3, w1, w2, d2]
      exact l18 a ha hl C ty st hlk Q n (i + 1) (10 * v + d) _ (by omega) (by omega) h39 h40 rfl rfl hR hQ
theorem l19 (a : List UInt8) (ha : a.all isD = true) (hl : a.length ≤ 1000) (st : St) (Q : Sig → FE → St → Prop) : ∀ (n i v : Nat) (e : FE), i + n = a.length → v ≤ 1000000000000 → e 9 = .str a → e 10 = .int .i64 (i : Int) → e 8 = .int .i64 (v : Int) →
    (∀ e', acc (a.drop i) v = none → e' 2 = .int .i64 0 → e' 3 = .int .i64 6 → Q .ret e' st) → (∀ m e', acc (a.drop i) v = some m → e' 8 = .int .i64 (m : Int) → Q (.exit 0) e' st) → WLoop cx ir19L0 e st Q
  | 0, i, v, e, hi, hv, h39, h41, h9, hR, hQ => by
    refine WLoop.rnd (c := _) ir19L0.eq_1 ?_
    have d1 : decide ((i : Int) < (a.length : Int)) = false := decide_eq_false (by omega)
    rw [List.drop_eq_nil_of_le (by omega)] at hQ
    simp (config := {contextual := true, implicitDefEqProofs := false, maxSteps := 4000000}) only [go_sem, ↓reduceIte, Bool.false_eq_true, Nat.reduceEqDiff, Nat.reduceAdd, Int.reduceLE, Int.reduceLT, Int.reduceEq, Int.reduceToNat, Int.toNat_natCast, Int.cast_ofNat_Int, Int.natCast_one, Nat.reduceMod, Nat.reduceDiv, UInt8.reduceToNat, Nat.reduceLT, h39, h41, d1]
    exact hQ v _ rfl h9
  | n + 1, i, v, e, hi, hv, h39, h41, h9, hR, hQ => by
    refine WLoop.rnd (c := _) ir19L0.eq_1 ?_
    have d1 : decide ((i : Int) < (a.length : Int)) = true := decide_eq_true (by omega)
    have b1 : (0 : Int) ≤ (i : Int) := by omega
    have b2 : (i : Int) < (a.length : Int) := by omega
    have hw := wrap_one (i := i) (by omega)
    have hD := getD_isD ha (i := i) (by omega)
    rw [drop_at (a := a) (i := i) (by omega)] at hQ hR
    simp only [acc] at hQ hR
    obtain ⟨c, hcd⟩ : ∃ c, a.getD i 0 = c := ⟨_, rfl⟩
    rw [hcd] at hQ hR hD
    obtain ⟨s1, s2⟩ := dig_sub hD
    obtain ⟨d, hd⟩ : ∃ d, c.toNat - 48 = d := ⟨_, rfl⟩
    rw [hd] at hQ hR s1 s2
    have s3 := small_w d s2
    have w1 : IntKind.i64.wrap (10 * (v : Int)) = ((10 * v : Nat) : Int) := by rw [wrap_i64 (by omega) (by omega)]; omega
    have w2 : IntKind.i64.wrap (((10 * v : Nat) : Int) + (d : Int)) = ((10 * v + d : Nat) : Int) := by rw [wrap_i64 (by omega) (by omega)]; omega
    by_cases hx : 1000000000000 < 10 * v + d
    · have d2 : decide ((1000000000000 : Int) < ((10 * v + d : Nat) : Int)) = true := decide_eq_true (by omega)
      rw [if_pos hx] at hR
      simp (config := {contextual := true, implicitDefEqProofs := false, maxSteps := 4000000}) only [go_sem, ↓reduceIte, Bool.false_eq_true, Nat.reduceEqDiff, Nat.reduceAdd, Int.reduceLE, Int.reduceLT, Int.reduceEq, Int.reduceToNat, Int.toNat_natCast, Int.cast_ofNat_Int, Int.natCast_one, Nat.reduceMod, Nat.reduceDiv, UInt8.reduceToNat, Nat.reduceLT, h39, h41, h9, d1, hw, b1, b2, hcd, s1, s3, w1, w2, d2]
      exact hR _ rfl rfl rfl
    · have d2 : decide ((1000000000000 : Int) < ((10 * v + d : Nat) : Int)) = false := decide_eq_false (by omega)
      rw [if_neg hx] at hR hQ
      simp (config := {contextual := true, implicitDefEqProofs := false, maxSteps := 4000000}) only [go_sem, ↓reduceIte, Bool.false_eq_true, Nat.reduceEqDiff, Nat.reduceAdd, Int.reduceLE, Int.reduceLT, Int.reduceEq, Int.reduceToNat, Int.toNat_natCast, Int.cast_ofNat_Int, Int.natCast_one, Nat.reduceMod, Nat.reduceDiv, UInt8.reduceToNat, Nat.reduceLT, h39, h41, h9, d1, hw, b1, b2, hcd, s1, s3, w1, w2, d2]
      exact l19 a ha hl st Q n (i + 1) (10 * v + d) _ (by omega) (by omega) h39 rfl rfl hR hQ
theorem body_len (s : List UInt8) : (bodyB s).length ≤ s.length := by unfold bodyB; split <;> simp
theorem okP_all {w p : List UInt8} {pt : Bool} (h : okP w p pt = true) (hp : pt = false → p = []) : (w ++ (p ++ zero3).take 3).all isD = true := by
  unfold okP at h
  simp only [Bool.and_eq_true, Bool.or_eq_true, Bool.not_eq_true'] at h
  rw [List.all_append, h.1.2, Bool.true_and]
  apply List.all_eq_true.2
  intro b hb
  have hb := List.mem_of_mem_take hb
  rw [List.mem_append] at hb
  rcases hb with hb | hb
  · rcases h.2 with h2 | h2
    · rw [hp h2] at hb; cases hb
    · exact List.all_eq_true.1 h2.2 b hb
  · have : zero3.all isD = true := by decide
    exact List.all_eq_true.1 this b hb
theorem acc_le : ∀ (l : List UInt8) (v m : Nat), v ≤ 1000000000000 → acc l v = some m → m ≤ 1000000000000
  | [], v, m, hv, h => by simp only [acc, Option.some.injEq] at h; omega
  | b :: l, v, m, hv, h => by
    simp only [acc] at h
    split at h
    · cases h
    · exact acc_le l _ m (by omega) h
end T01

/- Parse, joined. -/
namespace T01
open Go Fw Go.Proofs
set_option maxRecDepth 100000
set_option maxHeartbeats 4000000
set_option linter.unusedSimpArgs false
set_option linter.unusedVariables false
theorem cutB_facts (c : UInt8) (a : List UInt8) : (cutB c a).1.length ≤ a.length ∧ (cutB c a).2.1.length ≤ a.length ∧ ((cutB c a).2.2 = false → (cutB c a).2.1 = []) := by
  unfold cutB
  split
  · refine ⟨by simp; omega, by simp, fun h => by cases h⟩
  · exact ⟨Nat.le_refl _, Nat.zero_le _, fun _ => rfl⟩
theorem acc_wrap (n : Nat) (h : n ≤ 1000000000000) : IntKind.i64.wrap (0 - (n : Int)) = -(n : Int) := by rw [wrap_i64 (by omega) (by omega)]; omega
theorem c18 (s : List UInt8) (hs : s.length ≤ 200) (h : List (Nat × AObj)) (l : Nat) (K : AV → St → Prop) : CallW cx 18 [.str s] { heap := h, next := 0, low := l } K = K (.tuple [.int .i64 (parseB s).1, .int .i64 (parseB s).2]) { heap := h, next := 0, low := l } := by
  refine CallW.eq (CallW.fn' (fn := ir18) rfl rfl (by kernel_rfl) ir18.eq_1 ?_) K
  have k1 := fun st K => c37 s 45 st K
  rw [show (if s.head? = some (45 : UInt8) then s.tail else s) = bodyB s from rfl] at k1
  have hb : (bodyB s).length ≤ 200 := Nat.le_trans (body_len s) hs
  unfold parseB
  generalize decide (s.head? = some (45 : UInt8)) = neg at *
  generalize bodyB s = b at *
  have k2 := fun st K => c38 b (by omega) 46 st K
  obtain ⟨f1, f2, f3⟩ := cutB_facts 46 b
  generalize (cutB 46 b).1 = w at *
  generalize (cutB 46 b).2.1 = p at *
  generalize (cutB 46 b).2.2 = pt at *
  have k3 := fun h l K => cdigA w (by omega) h l K
  have k4 := fun h l K => cdigB p (by omega) h l K
  have g1 : p.length + 3 ≤ 9223372036854775807 := by omega
  have g2 : (0 : Int) ≤ 3 ∧ (3 : Int) ≤ ((p ++ [48, 48, 48]).length : Int) := by simp; omega
  have hl3 : ((p ++ [48, 48, 48]).take 3).length ≤ 3 := by rw [List.length_take]; omega
  have g3 : w.length + ((p ++ [48, 48, 48]).take 3).length ≤ 9223372036854775807 := by omega
  have main : okP w p pt = true → ∀ e : FE, e 5 = .bool neg → e 39 = .mslice 0 0 (w ++ (p ++ zero3).take 3).length none → e 40 = .int .i64 ((w ++ (p ++ zero3).take 3).length : Int) → e 41 = .int .i64 0 → e 9 = .int .i64 0 → ∀ Q : Sig → FE → St → Prop,
      (∀ e' : FE, acc (w ++ (p ++ zero3).take 3) 0 = none → e' 2 = .int .i64 0 → e' 3 = .int .i64 6 → Q .ret e' { heap := (0, .cells none (byteCells (w ++ (p ++ zero3).take 3))) :: h, next := 1, low := 0 }) →
      (∀ (m : Nat) (e' : FE), acc (w ++ (p ++ zero3).take 3) 0 = some m → e' 9 = .int .i64 (m : Int) → e' 5 = .bool neg → Q (.exit 0) e' { heap := (0, .cells none (byteCells (w ++ (p ++ zero3).take 3))) :: h, next := 1, low := 0 }) →
      WLoop cx ir18L0 e { heap := (0, .cells none (byteCells (w ++ (p ++ zero3).take 3))) :: h, next := 1, low := 0 } Q := by
    intro hok e e5 e39 e40 e41 e9 Q hR hQ
    refine WLoop.keep (l18 (w ++ (p ++ zero3).take 3) (okP_all hok f3) (by rw [List.length_append]; simp only [zero3]; omega) 0 none _ (by simp only [Fw.look, if_true]) _ (w ++ (p ++ zero3).take 3).length 0 0 e (by omega) (by omega) e39 e40 e41 e9 ?_ ?_)
    · intro e' ha h2 h3 hk
      rw [List.drop_zero] at ha
      exact hR e' ha h2 h3
    · intro m e' ha h9 hk
      rw [List.drop_zero] at ha
      have := hk 5 (by decide +kernel)
      exact hQ m e' ha h9 (this.trans e5)
  have bf : ∀ {x : Bool}, ¬ x = true → x = false := fun {x} h => by cases x; rfl; exact absurd rfl h
  by_cases hw : (decide (w ≠ []) && w.all isD) = true
  case neg =>
    have hw := bf hw
    have ok : okP w p pt = false := by unfold okP; rw [hw, Bool.false_and]
    rw [ok, if_neg (by decide)]
    simp (config := {contextual := true, implicitDefEqProofs := false, maxSteps := 4000000}) only [go_sem, ↓reduceIte, Bool.false_eq_true, Nat.reduceEqDiff, Nat.reduceAdd, Int.reduceLE, Int.reduceLT, Int.reduceEq, Int.reduceToNat, Int.toNat_natCast, Int.cast_ofNat_Int, Int.natCast_one, Nat.reduceMod, Nat.reduceDiv, UInt8.reduceToNat, Nat.reduceLT, k1, k2, k3, hw]
  case pos =>
    cases pt with
    | false =>
      have ok : okP w p false = true := by unfold okP; rw [hw, Bool.not_false, Bool.true_or, Bool.true_and]
      rw [ok, if_pos rfl]
      simp (config := {contextual := true, implicitDefEqProofs := false, maxSteps := 4000000}) only [go_sem, ↓reduceIte, Bool.false_eq_true, Nat.reduceEqDiff, Nat.reduceAdd, Int.reduceLE, Int.reduceLT, Int.reduceEq, Int.reduceToNat, Int.toNat_natCast, Int.cast_ofNat_Int, Int.natCast_one, Nat.reduceMod, Nat.reduceDiv, UInt8.reduceToNat, Nat.reduceLT, k1, k2, k3, hw, g1, g2, g3]
      refine main ok _ rfl rfl rfl rfl rfl _ ?_ ?_
      · intro e' ha h2 h3
        unfold readB; rw [ha]
        simp (config := {contextual := true, implicitDefEqProofs := false, maxSteps := 4000000}) only [go_sem, ↓reduceIte, Bool.false_eq_true, Nat.reduceEqDiff, Nat.reduceAdd, Int.reduceLE, Int.reduceLT, Int.reduceEq, Int.reduceToNat, Int.toNat_natCast, Int.cast_ofNat_Int, Int.natCast_one, Nat.reduceMod, Nat.reduceDiv, UInt8.reduceToNat, Nat.reduceLT, h2, h3]
      · intro m e' ha h9 h5
        have hm := acc_le _ 0 m (by omega) ha
        have wn := acc_wrap m hm
        unfold readB; rw [ha]
        cases neg
        · simp (config := {contextual := true, implicitDefEqProofs := false, maxSteps := 4000000}) only [go_sem, ↓reduceIte, Bool.false_eq_true, Nat.reduceEqDiff, Nat.reduceAdd, Int.reduceLE, Int.reduceLT, Int.reduceEq, Int.reduceToNat, Int.toNat_natCast, Int.cast_ofNat_Int, Int.natCast_one, Nat.reduceMod, Nat.reduceDiv, UInt8.reduceToNat, Nat.reduceLT, h9, h5]
        · simp (config := {contextual := true, implicitDefEqProofs := false, maxSteps := 4000000}) only [go_sem, ↓reduceIte, Bool.false_eq_true, Nat.reduceEqDiff, Nat.reduceAdd, Int.reduceLE, Int.reduceLT, Int.reduceEq, Int.reduceToNat, Int.toNat_natCast, Int.cast_ofNat_Int, Int.natCast_one, Nat.reduceMod, Nat.reduceDiv, UInt8.reduceToNat, Nat.reduceLT, h9, h5, wn]
    | true =>
      by_cases hp : (decide (1 ≤ p.length) && decide (p.length ≤ 3) && p.all isD) = true
      case neg =>
        have hp := bf hp
        have ok : okP w p true = false := by unfold okP; rw [hw, hp]; rfl
        rw [ok, if_neg (by decide)]
        simp (config := {contextual := true, implicitDefEqProofs := false, maxSteps := 4000000}) only [go_sem, ↓reduceIte, Bool.false_eq_true, Nat.reduceEqDiff, Nat.reduceAdd, Int.reduceLE, Int.reduceLT, Int.reduceEq, Int.reduceToNat, Int.toNat_natCast, Int.cast_ofNat_Int, Int.natCast_one, Nat.reduceMod, Nat.reduceDiv, UInt8.reduceToNat, Nat.reduceLT, k1, k2, k3, k4, hw, hp]
      case pos =>
        have ok : okP w p true = true := by unfold okP; rw [hw, hp]; rfl
        rw [ok, if_pos rfl]
        simp (config := {contextual := true, implicitDefEqProofs := false, maxSteps := 4000000}) only [go_sem, ↓reduceIte, Bool.false_eq_true, Nat.reduceEqDiff, Nat.reduceAdd, Int.reduceLE, Int.reduceLT, Int.reduceEq, Int.reduceToNat, Int.toNat_natCast, Int.cast_ofNat_Int, Int.natCast_one, Nat.reduceMod, Nat.reduceDiv, UInt8.reduceToNat, Nat.reduceLT, k1, k2, k3, k4, hw, hp, g1, g2, g3]
        refine main ok _ rfl rfl rfl rfl rfl _ ?_ ?_
        · intro e' ha h2 h3
          unfold readB; rw [ha]
          simp (config := {contextual := true, implicitDefEqProofs := false, maxSteps := 4000000}) only [go_sem, ↓reduceIte, Bool.false_eq_true, Nat.reduceEqDiff, Nat.reduceAdd, Int.reduceLE, Int.reduceLT, Int.reduceEq, Int.reduceToNat, Int.toNat_natCast, Int.cast_ofNat_Int, Int.natCast_one, Nat.reduceMod, Nat.reduceDiv, UInt8.reduceToNat, Nat.reduceLT, h2, h3]
        · intro m e' ha h9 h5
          have hm := acc_le _ 0 m (by omega) ha
          have wn := acc_wrap m hm
          unfold readB; rw [ha]
          cases neg
          · simp (config := {contextual := true, implicitDefEqProofs := false, maxSteps := 4000000}) only [go_sem, ↓reduceIte, Bool.false_eq_true, Nat.reduceEqDiff, Nat.reduceAdd, Int.reduceLE, Int.reduceLT, Int.reduceEq, Int.reduceToNat, Int.toNat_natCast, Int.cast_ofNat_Int, Int.natCast_one, Nat.reduceMod, Nat.reduceDiv, UInt8.reduceToNat, Nat.reduceLT, h9, h5]
          · simp (config := {contextual := true, implicitDefEqProofs := false, maxSteps := 4000000}) only [go_sem, ↓reduceIte, Bool.false_eq_true, Nat.reduceEqDiff, Nat.reduceAdd, Int.reduceLE, Int.reduceLT, Int.reduceEq, Int.reduceToNat, Int.toNat_natCast, Int.cast_ofNat_Int, Int.natCast_one, Nat.reduceMod, Nat.reduceDiv, UInt8.reduceToNat, Nat.reduceLT, h9, h5, wn]
end T01

/- Parse of the reference, joined. -/
namespace T01
open Go Fw Go.Proofs
set_option maxRecDepth 100000
set_option maxHeartbeats 4000000
set_option linter.unusedSimpArgs false
set_option linter.unusedVariables false
/-- What is read behind the sign. -/
def restR (neg : Bool) (b : List UInt8) : Int × Int :=
  if pref b = 0 then (0, 2)
  else if pref b < b.length then
    (if b.getD (pref b) 0 ≠ 46 ∨ pref (b.drop (pref b + 1)) < 1 ∨ 3 < pref (b.drop (pref b + 1)) ∨ pref b + 1 + pref (b.drop (pref b + 1)) ≠ b.length then (0, 2)
     else readB neg (b.take (pref b) ++ (b.drop (pref b + 1) ++ [48, 48]).take 3))
  else readB neg (b.take (pref b) ++ zero3)
theorem loop19 (neg : Bool) (a : List UInt8) (ha : a.all isD = true) (hl : a.length ≤ 1000) (st : St) (e : FE) (Q : Sig → FE → St → Prop) (e4 : e 4 = .bool neg) (e9 : e 9 = .str a) (e10 : e 10 = .int .i64 0) (e8 : e 8 = .int .i64 0)
    (hR : ∀ e' : FE, acc a 0 = none → e' 2 = .int .i64 0 → e' 3 = .int .i64 6 → Q .ret e' st) (hQ : ∀ (m : Nat) (e' : FE), acc a 0 = some m → e' 8 = .int .i64 (m : Int) → e' 4 = .bool neg → Q (.exit 0) e' st) : WLoop cx ir19L0 e st Q := by
  refine WLoop.keep (l19 a ha hl st _ a.length 0 0 e (by omega) (by omega) e9 e10 e8 ?_ ?_)
  · intro e' h h2 h3 hk
    rw [List.drop_zero] at h
    exact hR e' h h2 h3
  · intro m e' h h9 hk
    rw [List.drop_zero] at h
    exact hQ m e' h h9 ((hk 4 (by decide +kernel)).trans e4)
theorem drop_allD {b : List UInt8} {k : Nat} (h : pref (b.drop k) = (b.drop k).length) : (b.drop k).all isD = true := by rw [pref_all, decide_eq_true h]
theorem takeapp_allD {p q : List UInt8} {n : Nat} (h : p.all isD = true) (h2 : q.all isD = true) : ((p ++ q).take n).all isD = true := by
  apply List.all_eq_true.2
  intro b hb
  have hb := List.mem_of_mem_take hb
  rw [List.mem_append] at hb
  rcases hb with hb | hb
  · exact List.all_eq_true.1 h b hb
  · exact List.all_eq_true.1 h2 b hb
theorem c19 (s : List UInt8) (hs : s.length ≤ 200) (st : St) (K : AV → St → Prop) : CallW cx 19 [.str s] st K = K (.tuple [.int .i64 (parseB s).1, .int .i64 (parseB s).2]) st := by
  refine CallW.eq (CallW.fn' (fn := ir19) rfl rfl (by kernel_rfl) ir19.eq_1 ?_) K
  rw [← parse_same, show parseR s = restR (decide (s.head? = some 45)) (bodyB s) from rfl]
  cases s with
  | nil =>
    have k := fun st K => c40 [] (by simp) st K
    simp (config := {contextual := true, implicitDefEqProofs := false, maxSteps := 4000000}) only [go_sem, ↓reduceIte, Bool.false_eq_true, Nat.reduceEqDiff, Nat.reduceAdd, Int.reduceLE, Int.reduceLT, Int.reduceEq, Int.reduceToNat, Int.toNat_natCast, Int.cast_ofNat_Int, Int.natCast_one, Nat.reduceMod, Nat.reduceDiv, UInt8.reduceToNat, Nat.reduceLT, k, pref]
    rfl
  | cons x l =>
    have hlen : (x :: l).length = l.length + 1 := rfl
    have d1 : decide ((0 : Int) < ((l.length + 1 : Nat) : Int)) = true := decide_eq_true (by omega)
    have b2 : (0 : Int) < ((l.length + 1 : Nat) : Int) := by omega
    have b3 : (1 : Int) ≤ ((l.length + 1 : Nat) : Int) := by omega
    by_cases hx : x = 45
    case pos =>
      have d2 : decide (((x.toNat : Nat) : Int) = 45) = true := by rw [hx]; rfl
      have hh : decide ((x :: l).head? = some 45) = true := by rw [hx]; rfl
      have hbd : bodyB (x :: l) = l := by rw [hx]; rfl
      rw [hh, hbd]
      have hbl : l.length ≤ 200 := by rw [hlen] at hs; omega
      have k1 := fun st K => c40 (l) (by omega) st K
      have hpl := pref_le (l)
      have pt := pref_take (l)
      unfold restR
      obtain ⟨k, hk⟩ : ∃ k, pref (l) = k := ⟨_, rfl⟩
      rw [hk] at k1 hpl pt ⊢
      by_cases h0 : k = 0
      case pos =>
        have d3 : decide ((k : Int) = 0) = true := decide_eq_true (by omega)
        rw [if_pos h0]
        simp (config := {contextual := true, implicitDefEqProofs := false, maxSteps := 4000000}) only [go_sem, ↓reduceIte, Bool.false_eq_true, Nat.reduceEqDiff, Nat.reduceAdd, Int.reduceLE, Int.reduceLT, Int.reduceEq, Int.reduceToNat, Int.toNat_natCast, Int.cast_ofNat_Int, Int.natCast_one, Nat.reduceMod, Nat.reduceDiv, UInt8.reduceToNat, Nat.reduceLT, hlen, d1, b2, b3, d2, List.drop_succ_cons, List.drop_zero, k1, d3]
      have d3 : decide ((k : Int) = 0) = false := decide_eq_false (by omega)
      rw [if_neg h0]
      have w1 := wrap_one (i := k) (by omega)
      by_cases h1 : k < (l).length
      case neg =>
        have d4 : decide ((k : Int) < ((l).length : Int)) = false := decide_eq_false (by omega)
        rw [if_neg h1]
        have b5 : (0 : Int) ≤ (k : Int) ∧ (k : Int) ≤ ((l).length : Int) := by omega
        have b6 : ((l).take k).length + 3 ≤ 9223372036854775807 := by rw [List.length_take]; omega
        simp (config := {contextual := true, implicitDefEqProofs := false, maxSteps := 4000000}) only [go_sem, ↓reduceIte, Bool.false_eq_true, Nat.reduceEqDiff, Nat.reduceAdd, Int.reduceLE, Int.reduceLT, Int.reduceEq, Int.reduceToNat, Int.toNat_natCast, Int.cast_ofNat_Int, Int.natCast_one, Nat.reduceMod, Nat.reduceDiv, UInt8.reduceToNat, Nat.reduceLT, hlen, d1, b2, b3, d2, List.drop_succ_cons, List.drop_zero, k1, d3, d4, b5, b6]
        refine loop19 true ((l).take k ++ zero3) (by rw [List.all_append, pt]; rfl) (by rw [List.length_append, List.length_take]; simp only [zero3, List.length_cons, List.length_nil]; omega) _ _ _ rfl rfl rfl rfl ?_ ?_
        · intro e' ha h2 h3
          unfold readB; rw [ha]
          simp (config := {contextual := true, implicitDefEqProofs := false, maxSteps := 4000000}) only [go_sem, ↓reduceIte, Bool.false_eq_true, Nat.reduceEqDiff, Nat.reduceAdd, Int.reduceLE, Int.reduceLT, Int.reduceEq, Int.reduceToNat, Int.toNat_natCast, Int.cast_ofNat_Int, Int.natCast_one, Nat.reduceMod, Nat.reduceDiv, UInt8.reduceToNat, Nat.reduceLT, h2, h3]
        · intro m e' ha h9 h5
          have hm := acc_le _ 0 m (by omega) ha
          have wn := acc_wrap m hm
          unfold readB; rw [ha]
          simp (config := {contextual := true, implicitDefEqProofs := false, maxSteps := 4000000}) only [go_sem, ↓reduceIte, Bool.false_eq_true, Nat.reduceEqDiff, Nat.reduceAdd, Int.reduceLE, Int.reduceLT, Int.reduceEq, Int.reduceToNat, Int.toNat_natCast, Int.cast_ofNat_Int, Int.natCast_one, Nat.reduceMod, Nat.reduceDiv, UInt8.reduceToNat, Nat.reduceLT, h9, h5, wn]
      case pos =>
        have d4 : decide ((k : Int) < ((l).length : Int)) = true := decide_eq_true (by omega)
        rw [if_pos h1]
        have b5 : (0 : Int) ≤ (k : Int) := by omega
        have b6 : (k : Int) < ((l).length : Int) := by omega
        have b7 : (0 : Int) ≤ ((k + 1 : Nat) : Int) ∧ ((k + 1 : Nat) : Int) ≤ ((l).length : Int) := by omega
        have hdl : ((l).drop (k + 1)).length = (l).length - (k + 1) := List.length_drop
        have k2 := fun st K => c40 ((l).drop (k + 1)) (by omega) st K
        obtain ⟨m, hm⟩ : ∃ m, pref ((l).drop (k + 1)) = m := ⟨_, rfl⟩
        have hml := pref_le ((l).drop (k + 1))
        have hda := drop_allD (b := l) (k := k + 1)
        rw [hm] at k2 hml hda ⊢
        obtain ⟨c, hc⟩ : ∃ c, (l).getD k 0 = c := ⟨_, rfl⟩
        rw [hc]
        by_cases h2 : c = 46
        case neg =>
          have d5 : decide (((c.toNat : Nat) : Int) ≠ 46) = true := by
            simp only [decide_eq_true_eq]; intro h; exact h2 (byte_eq (n := 46) h)
          rw [if_pos (.inl h2)]
          simp (config := {contextual := true, implicitDefEqProofs := false, maxSteps := 4000000}) only [go_sem, ↓reduceIte, Bool.false_eq_true, Nat.reduceEqDiff, Nat.reduceAdd, Int.reduceLE, Int.reduceLT, Int.reduceEq, Int.reduceToNat, Int.toNat_natCast, Int.cast_ofNat_Int, Int.natCast_one, Nat.reduceMod, Nat.reduceDiv, UInt8.reduceToNat, Nat.reduceLT, hlen, d1, b2, b3, d2, List.drop_succ_cons, List.drop_zero, k1, d3, d4, w1, b5, b6, b7, k2, hc, d5]
        have d5 : decide (((c.toNat : Nat) : Int) ≠ 46) = false := by rw [h2]; rfl
        by_cases h3 : m < 1
        case pos =>
          have d6 : decide ((m : Int) < 1) = true := decide_eq_true (by omega)
          rw [if_pos (.inr (.inl h3))]
          simp (config := {contextual := true, implicitDefEqProofs := false, maxSteps := 4000000}) only [go_sem, ↓reduceIte, Bool.false_eq_true, Nat.reduceEqDiff, Nat.reduceAdd, Int.reduceLE, Int.reduceLT, Int.reduceEq, Int.reduceToNat, Int.toNat_natCast, Int.cast_ofNat_Int, Int.natCast_one, Nat.reduceMod, Nat.reduceDiv, UInt8.reduceToNat, Nat.reduceLT, hlen, d1, b2, b3, d2, List.drop_succ_cons, List.drop_zero, k1, d3, d4, w1, b5, b6, b7, k2, hc, d5, d6]
        have d6 : decide ((m : Int) < 1) = false := decide_eq_false (by omega)
        by_cases h4 : 3 < m
        case pos =>
          have d7 : decide (3 < (m : Int)) = true := decide_eq_true (by omega)
          rw [if_pos (.inr (.inr (.inl h4)))]
          simp (config := {contextual := true, implicitDefEqProofs := false, maxSteps := 4000000}) only [go_sem, ↓reduceIte, Bool.false_eq_true, Nat.reduceEqDiff, Nat.reduceAdd, Int.reduceLE, Int.reduceLT, Int.reduceEq, Int.reduceToNat, Int.toNat_natCast, Int.cast_ofNat_Int, Int.natCast_one, Nat.reduceMod, Nat.reduceDiv, UInt8.reduceToNat, Nat.reduceLT, hlen, d1, b2, b3, d2, List.drop_succ_cons, List.drop_zero, k1, d3, d4, w1, b5, b6, b7, k2, hc, d5, d6, d7]
        have d7 : decide (3 < (m : Int)) = false := decide_eq_false (by omega)
        have w2 : IntKind.i64.wrap (((k + 1 : Nat) : Int) + (m : Int)) = ((k + (1 + m) : Nat) : Int) := by rw [wrap_i64 (by omega) (by omega)]; omega
        by_cases h5 : k + 1 + m = (l).length
        case neg =>
          have d8 : decide (((k + (1 + m) : Nat) : Int) ≠ ((l).length : Int)) = true := decide_eq_true (by omega)
          rw [if_pos (.inr (.inr (.inr h5)))]
          simp (config := {contextual := true, implicitDefEqProofs := false, maxSteps := 4000000}) only [go_sem, ↓reduceIte, Bool.false_eq_true, Nat.reduceEqDiff, Nat.reduceAdd, Int.reduceLE, Int.reduceLT, Int.reduceEq, Int.reduceToNat, Int.toNat_natCast, Int.cast_ofNat_Int, Int.natCast_one, Nat.reduceMod, Nat.reduceDiv, UInt8.reduceToNat, Nat.reduceLT, hlen, d1, b2, b3, d2, List.drop_succ_cons, List.drop_zero, k1, d3, d4, w1, b5, b6, b7, k2, hc, d5, d6, d7, w2, d8]
        have d8 : decide (((k + (1 + m) : Nat) : Int) ≠ ((l).length : Int)) = false := decide_eq_false (by omega)
        have hnot : ¬ (c ≠ 46 ∨ m < 1 ∨ 3 < m ∨ k + 1 + m ≠ (l).length) := by
          rintro (h | h | h | h)
          · exact h h2
          all_goals omega
        rw [if_neg hnot]
        have da := hda (by omega)
        have r1 : ((l).drop (k + 1)).length + 2 ≤ 9223372036854775807 := by omega
        have r2 : (0 : Int) ≤ 3 ∧ (3 : Int) ≤ (((l).drop (k + 1) ++ [48, 48]).length : Int) := by rw [List.length_append]; simp only [List.length_cons, List.length_nil]; omega
        have r3 : ((l).take k).length + (((l).drop (k + 1) ++ [48, 48]).take 3).length ≤ 9223372036854775807 := by rw [List.length_take, List.length_take]; omega
        have r4 : (0 : Int) ≤ (k : Int) ∧ (k : Int) ≤ ((l).length : Int) := by omega
        have tl : (((l).take k) ++ (((l).drop (k + 1) ++ [48, 48]).take 3)).all isD = true := by rw [List.all_append, pt, takeapp_allD da (by decide)]; rfl
        have tl2 : (((l).take k) ++ (((l).drop (k + 1) ++ [48, 48]).take 3)).length ≤ 1000 := by rw [List.length_append, List.length_take, List.length_take]; omega
        simp (config := {contextual := true, implicitDefEqProofs := false, maxSteps := 4000000}) only [go_sem, ↓reduceIte, Bool.false_eq_true, Nat.reduceEqDiff, Nat.reduceAdd, Int.reduceLE, Int.reduceLT, Int.reduceEq, Int.reduceToNat, Int.toNat_natCast, Int.cast_ofNat_Int, Int.natCast_one, Nat.reduceMod, Nat.reduceDiv, UInt8.reduceToNat, Nat.reduceLT, hlen, d1, b2, b3, d2, List.drop_succ_cons, List.drop_zero, k1, d3, d4, w1, b5, b6, b7, k2, hc, d5, d6, d7, w2, d8, r1, r2, r3, r4]
        refine loop19 true _ tl tl2 _ _ _ rfl rfl rfl rfl ?_ ?_
        · intro e' ha h2 h3
          unfold readB; rw [ha]
          simp (config := {contextual := true, implicitDefEqProofs := false, maxSteps := 4000000}) only [go_sem, ↓reduceIte, Bool.false_eq_true, Nat.reduceEqDiff, Nat.reduceAdd, Int.reduceLE, Int.reduceLT, Int.reduceEq, Int.reduceToNat, Int.toNat_natCast, Int.cast_ofNat_Int, Int.natCast_one, Nat.reduceMod, Nat.reduceDiv, UInt8.reduceToNat, Nat.reduceLT, h2, h3]
        · intro m e' ha h9 h5
          have hm := acc_le _ 0 m (by omega) ha
          have wn := acc_wrap m hm
          unfold readB; rw [ha]
          simp (config := {contextual := true, implicitDefEqProofs := false, maxSteps := 4000000}) only [go_sem, ↓reduceIte, Bool.false_eq_true, Nat.reduceEqDiff, Nat.reduceAdd, Int.reduceLE, Int.reduceLT, Int.reduceEq, Int.reduceToNat, Int.toNat_natCast, Int.cast_ofNat_Int, Int.natCast_one, Nat.reduceMod, Nat.reduceDiv, UInt8.reduceToNat, Nat.reduceLT, h9, h5, wn]
    case neg =>
      have d2 : decide (((x.toNat : Nat) : Int) = 45) = false := by
        simp only [decide_eq_false_iff_not]; intro h; exact hx (byte_eq (n := 45) h)
      have hh : decide ((x :: l).head? = some 45) = false := by simp [hx]
      have hbd : bodyB (x :: l) = x :: l := by simp [bodyB, hx]
      rw [hh, hbd]
      have hbl : (x :: l).length ≤ 200 := hs
      have k1 := fun st K => c40 (x :: l) (by omega) st K
      have hpl := pref_le (x :: l)
      have pt := pref_take (x :: l)
      unfold restR
      obtain ⟨k, hk⟩ : ∃ k, pref (x :: l) = k := ⟨_, rfl⟩
      rw [hk] at k1 hpl pt ⊢
      by_cases h0 : k = 0
      case pos =>
        have d3 : decide ((k : Int) = 0) = true := decide_eq_true (by omega)
        rw [if_pos h0]
        simp (config := {contextual := true, implicitDefEqProofs := false, maxSteps := 4000000}) only [go_sem, ↓reduceIte, Bool.false_eq_true, Nat.reduceEqDiff, Nat.reduceAdd, Int.reduceLE, Int.reduceLT, Int.reduceEq, Int.reduceToNat, Int.toNat_natCast, Int.cast_ofNat_Int, Int.natCast_one, Nat.reduceMod, Nat.reduceDiv, UInt8.reduceToNat, Nat.reduceLT, hlen, d1, b2, b3, d2, List.drop_succ_cons, List.drop_zero, k1, d3]
      have d3 : decide ((k : Int) = 0) = false := decide_eq_false (by omega)
      rw [if_neg h0]
      have w1 := wrap_one (i := k) (by omega)
      by_cases h1 : k < (x :: l).length
      case neg =>
        have d4 : decide ((k : Int) < ((x :: l).length : Int)) = false := decide_eq_false (by omega)
        rw [if_neg h1]
        rw [hlen] at d4
        have b5 : (0 : Int) ≤ (k : Int) ∧ (k : Int) ≤ ((x :: l).length : Int) := by omega
        rw [hlen] at b5
        have b6 : ((x :: l).take k).length + 3 ≤ 9223372036854775807 := by rw [List.length_take]; omega
        simp (config := {contextual := true, implicitDefEqProofs := false, maxSteps := 4000000}) only [go_sem, ↓reduceIte, Bool.false_eq_true, Nat.reduceEqDiff, Nat.reduceAdd, Int.reduceLE, Int.reduceLT, Int.reduceEq, Int.reduceToNat, Int.toNat_natCast, Int.cast_ofNat_Int, Int.natCast_one, Nat.reduceMod, Nat.reduceDiv, UInt8.reduceToNat, Nat.reduceLT, hlen, d1, b2, b3, d2, List.drop_succ_cons, List.drop_zero, k1, d3, d4, b5, b6]
        refine loop19 false ((x :: l).take k ++ zero3) (by rw [List.all_append, pt]; rfl) (by rw [List.length_append, List.length_take]; simp only [zero3, List.length_cons, List.length_nil]; omega) _ _ _ rfl rfl rfl rfl ?_ ?_
        · intro e' ha h2 h3
          unfold readB; rw [ha]
          simp (config := {contextual := true, implicitDefEqProofs := false, maxSteps := 4000000}) only [go_sem, ↓reduceIte, Bool.false_eq_true, Nat.reduceEqDiff, Nat.reduceAdd, Int.reduceLE, Int.reduceLT, Int.reduceEq, Int.reduceToNat, Int.toNat_natCast, Int.cast_ofNat_Int, Int.natCast_one, Nat.reduceMod, Nat.reduceDiv, UInt8.reduceToNat, Nat.reduceLT, h2, h3]
        · intro m e' ha h9 h5
          have hm := acc_le _ 0 m (by omega) ha
          have wn := acc_wrap m hm
          unfold readB; rw [ha]
          simp (config := {contextual := true, implicitDefEqProofs := false, maxSteps := 4000000}) only [go_sem, ↓reduceIte, Bool.false_eq_true, Nat.reduceEqDiff, Nat.reduceAdd, Int.reduceLE, Int.reduceLT, Int.reduceEq, Int.reduceToNat, Int.toNat_natCast, Int.cast_ofNat_Int, Int.natCast_one, Nat.reduceMod, Nat.reduceDiv, UInt8.reduceToNat, Nat.reduceLT, h9, h5, wn]
      case pos =>
        have d4 : decide ((k : Int) < ((x :: l).length : Int)) = true := decide_eq_true (by omega)
        rw [hlen] at d4
        rw [if_pos h1]
        have b5 : (0 : Int) ≤ (k : Int) := by omega
        have b6 : (k : Int) < ((x :: l).length : Int) := by omega
        rw [hlen] at b6
        have b7 : (0 : Int) ≤ ((k + 1 : Nat) : Int) ∧ ((k + 1 : Nat) : Int) ≤ ((x :: l).length : Int) := by omega
        rw [hlen] at b7
        have hdl : ((x :: l).drop (k + 1)).length = (x :: l).length - (k + 1) := List.length_drop
        have k2 := fun st K => c40 ((x :: l).drop (k + 1)) (by omega) st K
        obtain ⟨m, hm⟩ : ∃ m, pref ((x :: l).drop (k + 1)) = m := ⟨_, rfl⟩
        have hml := pref_le ((x :: l).drop (k + 1))
        have hda := drop_allD (b := x :: l) (k := k + 1)
        rw [hm] at k2 hml hda ⊢
        rw [List.drop_succ_cons] at k2
        obtain ⟨c, hc⟩ : ∃ c, (x :: l).getD k 0 = c := ⟨_, rfl⟩
        rw [hc]
        by_cases h2 : c = 46
        case neg =>
          have d5 : decide (((c.toNat : Nat) : Int) ≠ 46) = true := by
            simp only [decide_eq_true_eq]; intro h; exact h2 (byte_eq (n := 46) h)
          rw [if_pos (.inl h2)]
          simp (config := {contextual := true, implicitDefEqProofs := false, maxSteps := 4000000}) only [go_sem, ↓reduceIte, Bool.false_eq_true, Nat.reduceEqDiff, Nat.reduceAdd, Int.reduceLE, Int.reduceLT, Int.reduceEq, Int.reduceToNat, Int.toNat_natCast, Int.cast_ofNat_Int, Int.natCast_one, Nat.reduceMod, Nat.reduceDiv, UInt8.reduceToNat, Nat.reduceLT, hlen, d1, b2, b3, d2, List.drop_succ_cons, List.drop_zero, k1, d3, d4, w1, b5, b6, b7, k2, hc, d5]
        have d5 : decide (((c.toNat : Nat) : Int) ≠ 46) = false := by rw [h2]; rfl
        by_cases h3 : m < 1
        case pos =>
          have d6 : decide ((m : Int) < 1) = true := decide_eq_true (by omega)
          rw [if_pos (.inr (.inl h3))]
          simp (config := {contextual := true, implicitDefEqProofs := false, maxSteps := 4000000}) only [go_sem, ↓reduceIte, Bool.false_eq_true, Nat.reduceEqDiff, Nat.reduceAdd, Int.reduceLE, Int.reduceLT, Int.reduceEq, Int.reduceToNat, Int.toNat_natCast, Int.cast_ofNat_Int, Int.natCast_one, Nat.reduceMod, Nat.reduceDiv, UInt8.reduceToNat, Nat.reduceLT, hlen, d1, b2, b3, d2, List.drop_succ_cons, List.drop_zero, k1, d3, d4, w1, b5, b6, b7, k2, hc, d5, d6]
        have d6 : decide ((m : Int) < 1) = false := decide_eq_false (by omega)
        by_cases h4 : 3 < m
        case pos =>
          have d7 : decide (3 < (m : Int)) = true := decide_eq_true (by omega)
          rw [if_pos (.inr (.inr (.inl h4)))]
          simp (config := {contextual := true, implicitDefEqProofs := false, maxSteps := 4000000}) only [go_sem, ↓reduceIte, Bool.false_eq_true, Nat.reduceEqDiff, Nat.reduceAdd, Int.reduceLE, Int.reduceLT, Int.reduceEq, Int.reduceToNat, Int.toNat_natCast, Int.cast_ofNat_Int, Int.natCast_one, Nat.reduceMod, Nat.reduceDiv, UInt8.reduceToNat, Nat.reduceLT, hlen, d1, b2, b3, d2, List.drop_succ_cons, List.drop_zero, k1, d3, d4, w1, b5, b6, b7, k2, hc, d5, d6, d7]
        have d7 : decide (3 < (m : Int)) = false := decide_eq_false (by omega)
        have w2 : IntKind.i64.wrap (((k + 1 : Nat) : Int) + (m : Int)) = ((k + (1 + m) : Nat) : Int) := by rw [wrap_i64 (by omega) (by omega)]; omega
        by_cases h5 : k + 1 + m = (x :: l).length
        case neg =>
          have d8 : decide (((k + (1 + m) : Nat) : Int) ≠ ((x :: l).length : Int)) = true := decide_eq_true (by omega)
          rw [hlen] at d8
          rw [if_pos (.inr (.inr (.inr h5)))]
          simp (config := {contextual := true, implicitDefEqProofs := false, maxSteps := 4000000}) only [go_sem, ↓reduceIte, Bool.false_eq_true, Nat.reduceEqDiff, Nat.reduceAdd, Int.reduceLE, Int.reduceLT, Int.reduceEq, Int.reduceToNat, Int.toNat_natCast, Int.cast_ofNat_Int, Int.natCast_one, Nat.reduceMod, Nat.reduceDiv, UInt8.reduceToNat, Nat.reduceLT, hlen, d1, b2, b3, d2, List.drop_succ_cons, List.drop_zero, k1, d3, d4, w1, b5, b6, b7, k2, hc, d5, d6, d7, w2, d8]
        have d8 : decide (((k + (1 + m) : Nat) : Int) ≠ ((x :: l).length : Int)) = false := decide_eq_false (by omega)
        rw [hlen] at d8
        have hnot : ¬ (c ≠ 46 ∨ m < 1 ∨ 3 < m ∨ k + 1 + m ≠ (x :: l).length) := by
          rintro (h | h | h | h)
          · exact h h2
          all_goals omega
        rw [if_neg hnot]
        have da := hda (by omega)
        have r1 : ((x :: l).drop (k + 1)).length + 2 ≤ 9223372036854775807 := by omega
        have r2 : (0 : Int) ≤ 3 ∧ (3 : Int) ≤ (((x :: l).drop (k + 1) ++ [48, 48]).length : Int) := by rw [List.length_append]; simp only [List.length_cons, List.length_nil]; omega
        have r3 : ((x :: l).take k).length + (((x :: l).drop (k + 1) ++ [48, 48]).take 3).length ≤ 9223372036854775807 := by rw [List.length_take, List.length_take]; omega
        have r4 : (0 : Int) ≤ (k : Int) ∧ (k : Int) ≤ ((x :: l).length : Int) := by omega
        rw [hlen] at r4
        have tl : (((x :: l).take k) ++ (((x :: l).drop (k + 1) ++ [48, 48]).take 3)).all isD = true := by rw [List.all_append, pt, takeapp_allD da (by decide)]; rfl
        have tl2 : (((x :: l).take k) ++ (((x :: l).drop (k + 1) ++ [48, 48]).take 3)).length ≤ 1000 := by rw [List.length_append, List.length_take, List.length_take]; omega
        rw [List.drop_succ_cons] at r1
        rw [List.drop_succ_cons] at r2
        rw [List.drop_succ_cons] at r3
        simp (config := {contextual := true, implicitDefEqProofs := false, maxSteps := 4000000}) only [go_sem, ↓reduceIte, Bool.false_eq_true, Nat.reduceEqDiff, Nat.reduceAdd, Int.reduceLE, Int.reduceLT, Int.reduceEq, Int.reduceToNat, Int.toNat_natCast, Int.cast_ofNat_Int, Int.natCast_one, Nat.reduceMod, Nat.reduceDiv, UInt8.reduceToNat, Nat.reduceLT, hlen, d1, b2, b3, d2, List.drop_succ_cons, List.drop_zero, k1, d3, d4, w1, b5, b6, b7, k2, hc, d5, d6, d7, w2, d8, r1, r2, r3, r4]
        refine loop19 false _ tl tl2 _ _ _ rfl rfl rfl rfl ?_ ?_
        · intro e' ha h2 h3
          unfold readB; rw [ha]
          simp (config := {contextual := true, implicitDefEqProofs := false, maxSteps := 4000000}) only [go_sem, ↓reduceIte, Bool.false_eq_true, Nat.reduceEqDiff, Nat.reduceAdd, Int.reduceLE, Int.reduceLT, Int.reduceEq, Int.reduceToNat, Int.toNat_natCast, Int.cast_ofNat_Int, Int.natCast_one, Nat.reduceMod, Nat.reduceDiv, UInt8.reduceToNat, Nat.reduceLT, h2, h3]
        · intro m e' ha h9 h5
          have hm := acc_le _ 0 m (by omega) ha
          have wn := acc_wrap m hm
          unfold readB; rw [ha]
          simp (config := {contextual := true, implicitDefEqProofs := false, maxSteps := 4000000}) only [go_sem, ↓reduceIte, Bool.false_eq_true, Nat.reduceEqDiff, Nat.reduceAdd, Int.reduceLE, Int.reduceLT, Int.reduceEq, Int.reduceToNat, Int.toNat_natCast, Int.cast_ofNat_Int, Int.natCast_one, Nat.reduceMod, Nat.reduceDiv, UInt8.reduceToNat, Nat.reduceLT, h9, h5, wn]
end T01

/- Text, of the program and of the reference. -/
namespace T01
open Go Fw Go.Proofs
set_option maxRecDepth 100000
set_option maxHeartbeats 4000000
set_option linter.unusedSimpArgs false
set_option linter.unusedVariables false
theorem trimR_pos (p : UInt8 → Bool) (a : List UInt8) (h : trimR p a ≠ []) : a ≠ [] := by intro e; subst e; exact h rfl
theorem l21 (st : St) (Q : Sig → FE → St → Prop) : ∀ (n : Nat) (a : List UInt8) (e : FE), a.length = n → a.length ≤ 1000 → trimR is0 a ≠ [] → e 4 = .str a → (∀ e', e' 4 = .str (trimR is0 a) → Q (.exit 0) e' st) → WLoop cx ir21L0 e st Q
  | 0, a, e, hn, hl, hne, h4, hQ => absurd (List.length_eq_zero_iff.1 hn) (trimR_pos _ _ hne)
  | n + 1, a, e, hn, hl, hne, h4, hQ => by
    refine WLoop.rnd (c := _) ir21L0.eq_1 ?_
    obtain ⟨b, x, rfl⟩ : ∃ b x, a = b ++ [x] := by
      rcases List.eq_nil_or_concat a with rfl | ⟨b, x, rfl⟩
      · simp at hn
      · exact ⟨b, x, by simp⟩
    have hlen : (b ++ [x]).length = b.length + 1 := by simp
    have w1 := wrap_pred (i := b.length) (by rw [hlen] at hl; omega)
    have b1 : (0 : Int) ≤ (b.length : Int) := by omega
    have b2 : (b.length : Int) < ((b.length + 1 : Nat) : Int) := by omega
    have b3 : (b.length : Int) ≤ ((b.length + 1 : Nat) : Int) := by omega
    rw [trimR_snoc] at hQ hne
    by_cases hx : x = 48
    · have d2 : decide (((x.toNat : Nat) : Int) = 48) = true := by rw [hx]; rfl
      have hi : is0 x = true := by rw [hx]; rfl
      rw [if_pos hi] at hQ hne
      simp (config := {contextual := true, implicitDefEqProofs := false, maxSteps := 4000000}) only [go_sem, ↓reduceIte, Bool.false_eq_true, Nat.reduceEqDiff, Nat.reduceAdd, Int.reduceLE, Int.reduceLT, Int.reduceEq, Int.reduceToNat, Int.toNat_natCast, Int.cast_ofNat_Int, Int.natCast_one, Nat.reduceMod, Nat.reduceDiv, UInt8.reduceToNat, Nat.reduceLT, h4, hlen, w1, b1, b2, b3, last_at, d2, take_last]
      exact l21 st Q n b _ (by rw [hlen] at hn; omega) (by rw [hlen] at hl; omega) hne rfl hQ
    · have d2 : decide (((x.toNat : Nat) : Int) = 48) = false := by
        simp only [decide_eq_false_iff_not]; intro h; exact hx (byte_eq (n := 48) h)
      have hi : ¬ is0 x = true := by unfold is0; simpa using hx
      rw [if_neg hi] at hQ
      simp (config := {contextual := true, implicitDefEqProofs := false, maxSteps := 4000000}) only [go_sem, ↓reduceIte, Bool.false_eq_true, Nat.reduceEqDiff, Nat.reduceAdd, Int.reduceLE, Int.reduceLT, Int.reduceEq, Int.reduceToNat, Int.toNat_natCast, Int.cast_ofNat_Int, Int.natCast_one, Nat.reduceMod, Nat.reduceDiv, UInt8.reduceToNat, Nat.reduceLT, h4, hlen, w1, b1, b2, b3, last_at, d2, take_last]
      exact hQ _ h4
theorem frac_ne : ∀ f : Fin 1000, f.val ≠ 0 → fracB f.val ≠ [] := by
  intro f hf e
  have := (frac_facts f hf).2.1
  rw [e] at this; simp at this
theorem three_len : ∀ f : Fin 1000, (dec (1000 + f.val)).length = 4 := by decide +kernel
theorem c20 (n : Int) (s : St) (K : AV → St → Prop) : CallW cx 20 [.int .i64 n] s K = K (.str (textB (clampI n))) s := by
  refine CallW.eq (CallW.fn' (fn := ir20) rfl rfl (by kernel_rfl) ir20.eq_1 ?_) K
  have a1 := clamp_lo n
  have a2 := clamp_hi n
  have k1 := fun st K => c15 n st K
  generalize clampI n = c at *
  have k2 := fun st K => c25 c (by omega) (by omega) st K
  unfold textB
  obtain ⟨a, ha⟩ : ∃ a, c.natAbs = a := ⟨_, rfl⟩
  rw [ha] at k2 ⊢
  have q1 : evBin .quo (.int .u64 (a : Int)) (.int .u64 1000) = some (.int .u64 ((a / 1000 : Nat) : Int)) := quo64' a 1000 (by omega) (by decide)
  have q2 : evBin .rem (.int .u64 (a : Int)) (.int .u64 1000) = some (.int .u64 ((a % 1000 : Nat) : Int)) := rem64' a 1000 (by decide)
  have k3 := fun st K => c41 (a / 1000) (by omega) st K
  have hq := dec_length (a / 1000) (by omega)
  obtain ⟨f, hf⟩ : ∃ f, a % 1000 = f := ⟨_, rfl⟩
  have hf2 : f < 1000 := by omega
  rw [hf] at q2 ⊢
  obtain ⟨q, hqq⟩ : ∃ q, a / 1000 = q := ⟨_, rfl⟩
  rw [hqq] at q1 k3 hq ⊢
  have nS : ∀ x : List UInt8, x.length ≤ 50 → (1 + x.length ≤ 9223372036854775807) = True := fun x hx => by simp; omega
  by_cases h0 : f = 0
  · have d1 : decide ((0 : Int) < (f : Int)) = false := decide_eq_false (by omega)
    rw [if_pos h0, List.append_nil]
    by_cases hc : c < 0
    · have d2 : decide (c < 0) = true := decide_eq_true hc
      rw [if_pos hc]
      have g1 : 1 + (dec q).length ≤ 9223372036854775807 := by omega
      simp (config := {contextual := true, implicitDefEqProofs := false, maxSteps := 4000000}) only [go_sem, ↓reduceIte, Bool.false_eq_true, Nat.reduceEqDiff, Nat.reduceAdd, Int.reduceLE, Int.reduceLT, Int.reduceEq, Int.reduceToNat, Int.toNat_natCast, Int.cast_ofNat_Int, Int.natCast_one, Nat.reduceMod, Nat.reduceDiv, UInt8.reduceToNat, Nat.reduceLT, k1, k2, q1, q2, k3, d1, d2, g1]
    · have d2 : decide (c < 0) = false := decide_eq_false hc
      rw [if_neg hc]
      simp (config := {contextual := true, implicitDefEqProofs := false, maxSteps := 4000000}) only [go_sem, ↓reduceIte, Bool.false_eq_true, Nat.reduceEqDiff, Nat.reduceAdd, Int.reduceLE, Int.reduceLT, Int.reduceEq, Int.reduceToNat, Int.toNat_natCast, Int.cast_ofNat_Int, Int.natCast_one, Nat.reduceMod, Nat.reduceDiv, UInt8.reduceToNat, Nat.reduceLT, k1, k2, q1, q2, k3, d1, d2]
  · have d1 : decide ((0 : Int) < (f : Int)) = true := decide_eq_true (by omega)
    rw [if_neg h0]
    have w1 : IntKind.u64.wrap (1000 + (f : Int)) = ((1000 + f : Nat) : Int) := by rw [wrap_u64]; omega
    have k4 := fun st K => c41 (1000 + f) (by omega) st K
    have h4 := three_len ⟨f, hf2⟩
    simp only at h4
    have b1 : (1 : Int) ≤ ((dec (1000 + f)).length : Int) := by omega
    have e1 : (dec (1000 + f)).drop 1 = three f := rfl
    have h3 : (three f).length ≤ 20 := by rw [← e1, List.length_drop]; omega
    have k5 := fun st K => c42 (three f) (by omega) 48 (by decide) st K
    rw [show trimR (fun b => decide (b = 48)) (three f) = fracB f from rfl] at k5
    have h5 : (fracB f).length ≤ 20 := Nat.le_trans (trimR_le _ _) h3
    have g1 : 1 + (fracB f).length ≤ 9223372036854775807 := by omega
    have g2 : (dec q).length + ((fracB f).length + 1) ≤ 9223372036854775807 := by omega
    have g3 : 1 + (dec q ++ 46 :: fracB f).length ≤ 9223372036854775807 := by rw [List.length_append, List.length_cons]; omega
    by_cases hc : c < 0
    · have d2 : decide (c < 0) = true := decide_eq_true hc
      rw [if_pos hc]
      simp (config := {contextual := true, implicitDefEqProofs := false, maxSteps := 4000000}) only [go_sem, ↓reduceIte, Bool.false_eq_true, Nat.reduceEqDiff, Nat.reduceAdd, Int.reduceLE, Int.reduceLT, Int.reduceEq, Int.reduceToNat, Int.toNat_natCast, Int.cast_ofNat_Int, Int.natCast_one, Nat.reduceMod, Nat.reduceDiv, UInt8.reduceToNat, Nat.reduceLT, k1, k2, q1, q2, k3, d1, d2, w1, k4, b1, e1, k5, g1, g2, g3]
    · have d2 : decide (c < 0) = false := decide_eq_false hc
      rw [if_neg hc]
      simp (config := {contextual := true, implicitDefEqProofs := false, maxSteps := 4000000}) only [go_sem, ↓reduceIte, Bool.false_eq_true, Nat.reduceEqDiff, Nat.reduceAdd, Int.reduceLE, Int.reduceLT, Int.reduceEq, Int.reduceToNat, Int.toNat_natCast, Int.cast_ofNat_Int, Int.natCast_one, Nat.reduceMod, Nat.reduceDiv, UInt8.reduceToNat, Nat.reduceLT, k1, k2, q1, q2, k3, d1, d2, w1, k4, b1, e1, k5, g1, g2, g3]
theorem quoI (a b : Nat) (ha : a ≤ 1000000000000000) (hb : 0 < b) : evBin .quo (.int .i64 (a : Int)) (.int .i64 (b : Int)) = some (.int .i64 ((a / b : Nat) : Int)) := by
  rw [bin_quo, if_neg (by omega)]
  have : ((a : Int).tdiv (b : Int)) = ((a / b : Nat) : Int) := rfl
  have h2 : a / b ≤ a := Nat.div_le_self _ _
  rw [this]
  generalize a / b = q at *
  rw [wrap_i64 (by omega) (by omega)]
theorem remI (a b : Nat) (hb : 0 < b) : evBin .rem (.int .i64 (a : Int)) (.int .i64 (b : Int)) = some (.int .i64 ((a % b : Nat) : Int)) := by
  rw [bin_rem, if_neg (by omega)]; rfl
theorem c21 (n : Int) (s : St) (K : AV → St → Prop) : CallW cx 21 [.int .i64 n] s K = K (.str (textB (clampI n))) s := by
  refine CallW.eq (CallW.fn' (fn := ir21) rfl rfl (by kernel_rfl) ir21.eq_1 ?_) K
  have a1 := clamp_lo n
  have a2 := clamp_hi n
  have k1 := fun st K => c30 n st K
  generalize clampI n = c at *
  unfold textB
  obtain ⟨a, ha⟩ : ∃ a, c.natAbs = a := ⟨_, rfl⟩
  rw [ha]
  have q1 : evBin .quo (.int .i64 (a : Int)) (.int .i64 1000) = some (.int .i64 ((a / 1000 : Nat) : Int)) := quoI a 1000 (by omega) (by decide)
  have q2 : evBin .rem (.int .i64 (a : Int)) (.int .i64 1000) = some (.int .i64 ((a % 1000 : Nat) : Int)) := remI a 1000 (by decide)
  have k3 := fun st K => c43 (a / 1000) (by omega) st K
  have hq := dec_length (a / 1000) (by omega)
  obtain ⟨f, hf⟩ : ∃ f, a % 1000 = f := ⟨_, rfl⟩
  have hf2 : f < 1000 := by omega
  rw [hf] at q2 ⊢
  obtain ⟨q, hqq⟩ : ∃ q, a / 1000 = q := ⟨_, rfl⟩
  rw [hqq] at q1 k3 hq ⊢
  by_cases h0 : f = 0
  · have d1 : decide ((f : Int) = 0) = true := decide_eq_true (by omega)
    rw [if_pos h0, List.append_nil]
    by_cases hc : c < 0
    · have d2 : decide (c < 0) = true := decide_eq_true hc
      have w0 : IntKind.i64.wrap (0 - c) = (a : Int) := by rw [wrap_i64 (by omega) (by omega)]; omega
      rw [if_pos hc]
      have g1 : 1 + (dec q).length ≤ 9223372036854775807 := by omega
      simp (config := {contextual := true, implicitDefEqProofs := false, maxSteps := 4000000}) only [go_sem, ↓reduceIte, Bool.false_eq_true, Nat.reduceEqDiff, Nat.reduceAdd, Int.reduceLE, Int.reduceLT, Int.reduceEq, Int.reduceToNat, Int.toNat_natCast, Int.cast_ofNat_Int, Int.natCast_one, Nat.reduceMod, Nat.reduceDiv, UInt8.reduceToNat, Nat.reduceLT, k1, q1, q2, k3, d1, d2, g1, w0]
    · have d2 : decide (c < 0) = false := decide_eq_false hc
      have hca : c = (a : Int) := by omega
      subst hca
      rw [if_neg hc]
      have g1 : (dec q).length ≤ 9223372036854775807 := by omega
      simp (config := {contextual := true, implicitDefEqProofs := false, maxSteps := 4000000}) only [go_sem, ↓reduceIte, Bool.false_eq_true, Nat.reduceEqDiff, Nat.reduceAdd, Int.reduceLE, Int.reduceLT, Int.reduceEq, Int.reduceToNat, Int.toNat_natCast, Int.cast_ofNat_Int, Int.natCast_one, Nat.reduceMod, Nat.reduceDiv, UInt8.reduceToNat, Nat.reduceLT, k1, q1, q2, k3, d1, d2, g1]
  · have d1 : decide ((f : Int) = 0) = false := decide_eq_false (by omega)
    rw [if_neg h0]
    have w1 : IntKind.i64.wrap (1000 + (f : Int)) = ((1000 + f : Nat) : Int) := by rw [wrap_i64 (by omega) (by omega)]; rfl
    have k4 := fun st K => c43 (1000 + f) (by omega) st K
    have h4 := three_len ⟨f, hf2⟩
    simp only at h4
    have b1 : (1 : Int) ≤ ((dec (1000 + f)).length : Int) := by omega
    have e1 : (dec (1000 + f)).drop 1 = three f := rfl
    have h3 : (three f).length ≤ 20 := by rw [← e1, List.length_drop]; omega
    have h5 : (fracB f).length ≤ 20 := Nat.le_trans (trimR_le _ _) h3
    have hne := frac_ne ⟨f, hf2⟩ h0
    by_cases hc : c < 0
    · have d2 : decide (c < 0) = true := decide_eq_true hc
      have w0 : IntKind.i64.wrap (0 - c) = (a : Int) := by rw [wrap_i64 (by omega) (by omega)]; omega
      rw [if_pos hc]
      have g1 : 1 + (dec q).length ≤ 9223372036854775807 := by omega
      simp (config := {contextual := true, implicitDefEqProofs := false, maxSteps := 4000000}) only [go_sem, ↓reduceIte, Bool.false_eq_true, Nat.reduceEqDiff, Nat.reduceAdd, Int.reduceLE, Int.reduceLT, Int.reduceEq, Int.reduceToNat, Int.toNat_natCast, Int.cast_ofNat_Int, Int.natCast_one, Nat.reduceMod, Nat.reduceDiv, UInt8.reduceToNat, Nat.reduceLT, k1, q1, q2, k3, d1, d2, g1, w0, w1, k4, b1, e1]
      refine WLoop.keep (l21 _ _ _ (three f) _ rfl (by omega) hne rfl ?_)
      intro e' h4 hk
      have j3 := hk 3 (by decide +kernel)
      simp only [upd, ↓reduceIte, Nat.reduceEqDiff] at j3
      have g2 : (dec q).length + 1 + 1 ≤ 9223372036854775807 := by omega
      have g3 : (dec q ++ [46]).length + (1 + (fracB f).length) ≤ 9223372036854775807 := by rw [List.length_append, List.length_cons, List.length_nil]; omega
      rw [show trimR is0 (three f) = fracB f from rfl] at h4
      simp (config := {contextual := true, implicitDefEqProofs := false, maxSteps := 4000000}) only [go_sem, ↓reduceIte, Bool.false_eq_true, Nat.reduceEqDiff, Nat.reduceAdd, Int.reduceLE, Int.reduceLT, Int.reduceEq, Int.reduceToNat, Int.toNat_natCast, Int.cast_ofNat_Int, Int.natCast_one, Nat.reduceMod, Nat.reduceDiv, UInt8.reduceToNat, Nat.reduceLT, j3, h4, g2, g3, List.append_assoc]
    · have d2 : decide (c < 0) = false := decide_eq_false hc
      have hca : c = (a : Int) := by omega
      subst hca
      rw [if_neg hc]
      have g1 : (dec q).length ≤ 9223372036854775807 := by omega
      simp (config := {contextual := true, implicitDefEqProofs := false, maxSteps := 4000000}) only [go_sem, ↓reduceIte, Bool.false_eq_true, Nat.reduceEqDiff, Nat.reduceAdd, Int.reduceLE, Int.reduceLT, Int.reduceEq, Int.reduceToNat, Int.toNat_natCast, Int.cast_ofNat_Int, Int.natCast_one, Nat.reduceMod, Nat.reduceDiv, UInt8.reduceToNat, Nat.reduceLT, k1, q1, q2, k3, d1, d2, g1, w1, k4, b1, e1]
      refine WLoop.keep (l21 _ _ _ (three f) _ rfl (by omega) hne rfl ?_)
      intro e' h4 hk
      have j3 := hk 3 (by decide +kernel)
      simp only [upd, ↓reduceIte, Nat.reduceEqDiff] at j3
      have g2 : (dec q).length + 1 ≤ 9223372036854775807 := by omega
      have g3 : (dec q ++ [46]).length + (fracB f).length ≤ 9223372036854775807 := by rw [List.length_append, List.length_cons, List.length_nil]; omega
      rw [show trimR is0 (three f) = fracB f from rfl] at h4
      simp (config := {contextual := true, implicitDefEqProofs := false, maxSteps := 4000000}) only [go_sem, ↓reduceIte, Bool.false_eq_true, Nat.reduceEqDiff, Nat.reduceAdd, Int.reduceLE, Int.reduceLT, Int.reduceEq, Int.reduceToNat, Int.toNat_natCast, Int.cast_ofNat_Int, Int.natCast_one, Nat.reduceMod, Nat.reduceDiv, UInt8.reduceToNat, Nat.reduceLT, j3, h4, g2, g3, List.append_assoc]
end T01

/- Round, of the program and of the reference; FixedTexts answers true. -/
namespace T01
open Go Fw Go.Proofs
set_option maxRecDepth 100000
set_option maxHeartbeats 4000000
set_option linter.unusedSimpArgs false
set_option linter.unusedVariables false
def unitOf (d : Int) : Nat := if d = 0 then 1000 else if d = 1 then 100 else if d = 2 then 10 else 1
def roundI (c : Int) (d : Int) : Int := clampI (sgn (decide (c < 0)) ((c.natAbs + unitOf d / 2) / unitOf d * unitOf d))
theorem c16z (n d : Int) (h : d < 0 ∨ 3 < d) (s : St) (K : AV → St → Prop) : CallW cx 16 [.int .i64 n, .int .i64 d] s K = K (.tuple [.int .i64 0, .int .i64 1]) s := by
  refine CallW.eq (CallW.fn' (fn := ir16) rfl rfl (by kernel_rfl) ir16.eq_1 ?_) K
  by_cases h1 : d < 0
  · simp (config := {contextual := true, implicitDefEqProofs := false, maxSteps := 4000000}) only [go_sem, ↓reduceIte, Bool.false_eq_true, Nat.reduceEqDiff, Nat.reduceAdd, Int.reduceLE, Int.reduceLT, Int.reduceEq, Int.reduceToNat, Int.toNat_natCast, Int.cast_ofNat_Int, Int.natCast_one, Nat.reduceMod, Nat.reduceDiv, UInt8.reduceToNat, Nat.reduceLT, decide_eq_true h1]
  · have h2 : 3 < d := by omega
    simp (config := {contextual := true, implicitDefEqProofs := false, maxSteps := 4000000}) only [go_sem, ↓reduceIte, Bool.false_eq_true, Nat.reduceEqDiff, Nat.reduceAdd, Int.reduceLE, Int.reduceLT, Int.reduceEq, Int.reduceToNat, Int.toNat_natCast, Int.cast_ofNat_Int, Int.natCast_one, Nat.reduceMod, Nat.reduceDiv, UInt8.reduceToNat, Nat.reduceLT, decide_eq_false h1, decide_eq_true h2]
theorem c17z (n d : Int) (h : d < 0 ∨ 3 < d) (s : St) (K : AV → St → Prop) : CallW cx 17 [.int .i64 n, .int .i64 d] s K = K (.tuple [.int .i64 0, .int .i64 1]) s := by
  refine CallW.eq (CallW.fn' (fn := ir17) rfl rfl (by kernel_rfl) ir17.eq_1 ?_) K
  by_cases h1 : d < 0
  · simp (config := {contextual := true, implicitDefEqProofs := false, maxSteps := 4000000}) only [go_sem, ↓reduceIte, Bool.false_eq_true, Nat.reduceEqDiff, Nat.reduceAdd, Int.reduceLE, Int.reduceLT, Int.reduceEq, Int.reduceToNat, Int.toNat_natCast, Int.cast_ofNat_Int, Int.natCast_one, Nat.reduceMod, Nat.reduceDiv, UInt8.reduceToNat, Nat.reduceLT, decide_eq_true h1]
  · have h2 : 3 < d := by omega
    simp (config := {contextual := true, implicitDefEqProofs := false, maxSteps := 4000000}) only [go_sem, ↓reduceIte, Bool.false_eq_true, Nat.reduceEqDiff, Nat.reduceAdd, Int.reduceLE, Int.reduceLT, Int.reduceEq, Int.reduceToNat, Int.toNat_natCast, Int.cast_ofNat_Int, Int.natCast_one, Nat.reduceMod, Nat.reduceDiv, UInt8.reduceToNat, Nat.reduceLT, decide_eq_false h1, decide_eq_true h2]
theorem c16_0 (n : Int) (s : St) (K : AV → St → Prop) : CallW cx 16 [.int .i64 n, .int .i64 0] s K = K (.tuple [.int .i64 (roundI (clampI n) 0), .int .i64 0]) s := by
  refine CallW.eq (CallW.fn' (fn := ir16) rfl rfl (by kernel_rfl) ir16.eq_1 ?_) K
  have a1 := clamp_lo n
  have a2 := clamp_hi n
  have k1 := fun st K => c15 n st K
  have kc := fun m st K => c15 m st K
  generalize clampI n = c at *
  have k2 := fun st K => c25 c (by omega) (by omega) st K
  unfold roundI
  rw [show unitOf 0 = 1000 from rfl]
  obtain ⟨a, ha⟩ : ∃ a, c.natAbs = a := ⟨_, rfl⟩
  rw [ha] at k2 ⊢
  have ha2 : a ≤ 1000000000000 := by omega
  clear ha a1 a2
  have w1 : IntKind.i64.wrap (a : Int) = (a : Int) := wrap_i64 (by omega) (by omega)
  have q1 : evBin .quo (.int .i64 (a : Int)) (.int .i64 1000) = some (.int .i64 ((a / 1000 : Nat) : Int)) := quoI a 1000 (by omega) (by decide)
  have q2 : evBin .rem (.int .i64 (a : Int)) (.int .i64 1000) = some (.int .i64 ((a % 1000 : Nat) : Int)) := remI a 1000 (by decide)
  have e1 : 1000 ≤ 2 * (a % 1000) → (a + 1000 / 2) / 1000 = a / 1000 + 1 := by omega
  have e2 : ¬ 1000 ≤ 2 * (a % 1000) → (a + 1000 / 2) / 1000 = a / 1000 := by omega
  obtain ⟨q, hq⟩ : ∃ q, a / 1000 = q := ⟨_, rfl⟩
  obtain ⟨r, hr⟩ : ∃ r, a % 1000 = r := ⟨_, rfl⟩
  have hq2 : q ≤ 1000000000000 / 1000 := by omega
  have hr2 : r < 1000 := by omega
  rw [hq] at q1 e1 e2
  rw [hr] at q2 e1 e2
  clear hq hr ha2
  simp only [Nat.reduceDiv] at hq2
  have w2 : IntKind.i64.wrap (2 * (r : Int)) = ((2 * r : Nat) : Int) := by clear w1 q1 q2 e1 e2; rw [wrap_i64 (by omega) (by omega)]; omega
  have w3 : IntKind.i64.wrap ((q : Int) + 1) = ((q + 1 : Nat) : Int) := by clear w1 q1 q2 e1 e2 w2; rw [wrap_i64 (by omega) (by omega)]; omega
  have w5 : ∀ m : Nat, m ≤ q + 1 → IntKind.i64.wrap ((m : Int) * 1000) = ((m * 1000 : Nat) : Int) := by clear w1 q1 q2 e1 e2 w2 w3; intro m hm; rw [wrap_i64 (by omega) (by omega)]; omega
  have w6 : ∀ m : Nat, m ≤ q + 1 → IntKind.i64.wrap (-(m : Int) * 1000) = -((m * 1000 : Nat) : Int) := by clear w1 q1 q2 e1 e2 w2 w3 w5; intro m hm; rw [wrap_i64 (by omega) (by omega)]; omega
  have w4 : ∀ m : Nat, m ≤ q + 1 → IntKind.i64.wrap (0 - (m : Int)) = -(m : Int) := by clear w1 q1 q2 e1 e2 w2 w3 w5 w6; intro m hm; rw [wrap_i64 (by omega) (by omega)]; omega
  have u0 : evBin .quo (.int .i64 1000) (.int .i64 10) = some (.int .i64 100) := rfl
  have u1 : evBin .quo (.int .i64 100) (.int .i64 10) = some (.int .i64 10) := rfl
  have u2 : evBin .quo (.int .i64 10) (.int .i64 10) = some (.int .i64 1) := rfl
  have v0 : IntKind.i64.wrap (0 + 1) = 1 := rfl
  have v1 : IntKind.i64.wrap (1 + 1) = 2 := rfl
  have v2 : IntKind.i64.wrap (2 + 1) = 3 := rfl
  simp (config := {contextual := true, implicitDefEqProofs := false, maxSteps := 4000000}) only [go_sem, ↓reduceIte, Bool.false_eq_true, Nat.reduceEqDiff, Nat.reduceAdd, Int.reduceLE, Int.reduceLT, Int.reduceEq, Int.reduceToNat, Int.toNat_natCast, Int.cast_ofNat_Int, Int.natCast_one, Nat.reduceMod, Nat.reduceDiv, UInt8.reduceToNat, Nat.reduceLT]
  refine WLoop.rndB (c := _) ir16L0.eq_1 ?_
  by_cases h : 1000 ≤ 2 * r
  · have d1 : decide ((1000 : Int) ≤ ((2 * r : Nat) : Int)) = true := decide_eq_true (by omega)
    rw [e1 h]
    have x1 := w5 (q + 1) (Nat.le_refl _)
    have x2 := w6 (q + 1) (Nat.le_refl _)
    have x3 := w4 (q + 1) (Nat.le_refl _)
    clear w4 w5 w6 e1 e2
    cases hc : decide (c < 0)
    · simp (config := {contextual := true, implicitDefEqProofs := false, maxSteps := 4000000}) only [go_sem, ↓reduceIte, Bool.false_eq_true, Nat.reduceEqDiff, Nat.reduceAdd, Int.reduceLE, Int.reduceLT, Int.reduceEq, Int.reduceToNat, Int.toNat_natCast, Int.cast_ofNat_Int, Int.natCast_one, Nat.reduceMod, Nat.reduceDiv, UInt8.reduceToNat, Nat.reduceLT, k1, k2, kc, w1, q1, q2, w2, w3, u0, u1, u2, d1, hc, x1, v0, v1, v2, sgn]
    · simp (config := {contextual := true, implicitDefEqProofs := false, maxSteps := 4000000}) only [go_sem, ↓reduceIte, Bool.false_eq_true, Nat.reduceEqDiff, Nat.reduceAdd, Int.reduceLE, Int.reduceLT, Int.reduceEq, Int.reduceToNat, Int.toNat_natCast, Int.cast_ofNat_Int, Int.natCast_one, Nat.reduceMod, Nat.reduceDiv, UInt8.reduceToNat, Nat.reduceLT, k1, k2, kc, w1, q1, q2, w2, w3, u0, u1, u2, d1, hc, x2, x3, v0, v1, v2, sgn]
  · have d1 : decide ((1000 : Int) ≤ ((2 * r : Nat) : Int)) = false := decide_eq_false (by omega)
    rw [e2 h]
    have x1 := w5 q (by omega)
    have x2 := w6 q (by omega)
    have x3 := w4 q (by omega)
    clear w4 w5 w6 e1 e2
    cases hc : decide (c < 0)
    · simp (config := {contextual := true, implicitDefEqProofs := false, maxSteps := 4000000}) only [go_sem, ↓reduceIte, Bool.false_eq_true, Nat.reduceEqDiff, Nat.reduceAdd, Int.reduceLE, Int.reduceLT, Int.reduceEq, Int.reduceToNat, Int.toNat_natCast, Int.cast_ofNat_Int, Int.natCast_one, Nat.reduceMod, Nat.reduceDiv, UInt8.reduceToNat, Nat.reduceLT, k1, k2, kc, w1, q1, q2, w2, w3, u0, u1, u2, d1, hc, x1, v0, v1, v2, sgn]
    · simp (config := {contextual := true, implicitDefEqProofs := false, maxSteps := 4000000}) only [go_sem, ↓reduceIte, Bool.false_eq_true, Nat.reduceEqDiff, Nat.reduceAdd, Int.reduceLE, Int.reduceLT, Int.reduceEq, Int.reduceToNat, Int.toNat_natCast, Int.cast_ofNat_Int, Int.natCast_one, Nat.reduceMod, Nat.reduceDiv, UInt8.reduceToNat, Nat.reduceLT, k1, k2, kc, w1, q1, q2, w2, w3, u0, u1, u2, d1, hc, x2, x3, v0, v1, v2, sgn]
theorem c17_0 (n : Int) (s : St) (K : AV → St → Prop) : CallW cx 17 [.int .i64 n, .int .i64 0] s K = K (.tuple [.int .i64 (roundI (clampI n) 0), .int .i64 0]) s := by
  refine CallW.eq (CallW.fn' (fn := ir17) rfl rfl (by kernel_rfl) ir17.eq_1 ?_) K
  have a1 := clamp_lo n
  have a2 := clamp_hi n
  have k1 := fun st K => c30 n st K
  have kc := fun m st K => c30 m st K
  generalize clampI n = c at *
  unfold roundI
  rw [show unitOf 0 = 1000 from rfl]
  obtain ⟨a, ha⟩ : ∃ a, c.natAbs = a := ⟨_, rfl⟩
  rw [ha]
  have u0 : IntKind.i64.wrap (1 * 10) = 10 := rfl
  have u1 : IntKind.i64.wrap (10 * 10) = 100 := rfl
  have u2 : IntKind.i64.wrap (100 * 10) = 1000 := rfl
  have v0 : IntKind.i64.wrap (0 + 1) = 1 := rfl
  have v1 : IntKind.i64.wrap (1 + 1) = 2 := rfl
  have v2 : IntKind.i64.wrap (2 + 1) = 3 := rfl
  have q0 : evBin .quo (.int .i64 1000) (.int .i64 2) = some (.int .i64 500) := rfl
  have w1 : IntKind.i64.wrap ((a : Int) + 500) = ((a + 500 : Nat) : Int) := by rw [wrap_i64 (by omega) (by omega)]; omega
  have q1 : evBin .quo (.int .i64 ((a + 500 : Nat) : Int)) (.int .i64 1000) = some (.int .i64 (((a + 500) / 1000 : Nat) : Int)) := quoI (a + 500) 1000 (by omega) (by decide)
  have w2 : IntKind.i64.wrap ((((a + 500) / 1000 : Nat) : Int) * 1000) = (((a + 500) / 1000 * 1000 : Nat) : Int) := by rw [wrap_i64 (by omega) (by omega)]; omega
  rw [show (1000 : Nat) / 2 = 500 from rfl]
  simp (config := {contextual := true, implicitDefEqProofs := false, maxSteps := 4000000}) only [go_sem, ↓reduceIte, Bool.false_eq_true, Nat.reduceEqDiff, Nat.reduceAdd, Int.reduceLE, Int.reduceLT, Int.reduceEq, Int.reduceToNat, Int.toNat_natCast, Int.cast_ofNat_Int, Int.natCast_one, Nat.reduceMod, Nat.reduceDiv, UInt8.reduceToNat, Nat.reduceLT]
  refine WLoop.rndB (c := _) ir17L0.eq_1 ?_
  simp (config := {contextual := true, implicitDefEqProofs := false, maxSteps := 4000000}) only [go_sem, ↓reduceIte, Bool.false_eq_true, Nat.reduceEqDiff, Nat.reduceAdd, Int.reduceLE, Int.reduceLT, Int.reduceEq, Int.reduceToNat, Int.toNat_natCast, Int.cast_ofNat_Int, Int.natCast_one, Nat.reduceMod, Nat.reduceDiv, UInt8.reduceToNat, Nat.reduceLT, u0, u1, u2, v0, v1, v2]
  refine WLoop.rndB (c := _) ir17L0.eq_1 ?_
  simp (config := {contextual := true, implicitDefEqProofs := false, maxSteps := 4000000}) only [go_sem, ↓reduceIte, Bool.false_eq_true, Nat.reduceEqDiff, Nat.reduceAdd, Int.reduceLE, Int.reduceLT, Int.reduceEq, Int.reduceToNat, Int.toNat_natCast, Int.cast_ofNat_Int, Int.natCast_one, Nat.reduceMod, Nat.reduceDiv, UInt8.reduceToNat, Nat.reduceLT, u0, u1, u2, v0, v1, v2]
  refine WLoop.rndB (c := _) ir17L0.eq_1 ?_
  simp (config := {contextual := true, implicitDefEqProofs := false, maxSteps := 4000000}) only [go_sem, ↓reduceIte, Bool.false_eq_true, Nat.reduceEqDiff, Nat.reduceAdd, Int.reduceLE, Int.reduceLT, Int.reduceEq, Int.reduceToNat, Int.toNat_natCast, Int.cast_ofNat_Int, Int.natCast_one, Nat.reduceMod, Nat.reduceDiv, UInt8.reduceToNat, Nat.reduceLT, u0, u1, u2, v0, v1, v2]
  refine WLoop.rndB (c := _) ir17L0.eq_1 ?_
  by_cases hc : c < 0
  · have d2 : decide (c < 0) = true := decide_eq_true hc
    have w0 : IntKind.i64.wrap (0 - c) = (a : Int) := by rw [wrap_i64 (by omega) (by omega)]; omega
    have w3 : IntKind.i64.wrap (0 - (((a + 500) / 1000 * 1000 : Nat) : Int)) = -(((a + 500) / 1000 * 1000 : Nat) : Int) := by rw [wrap_i64 (by omega) (by omega)]; omega
    have e : clampI (-(((a + 500) / 1000 * 1000 : Nat) : Int)) = -(((a + 500) / 1000 * 1000 : Nat) : Int) := clamp_id (by omega) (by omega)
    simp (config := {contextual := true, implicitDefEqProofs := false, maxSteps := 4000000}) only [go_sem, ↓reduceIte, Bool.false_eq_true, Nat.reduceEqDiff, Nat.reduceAdd, Int.reduceLE, Int.reduceLT, Int.reduceEq, Int.reduceToNat, Int.toNat_natCast, Int.cast_ofNat_Int, Int.natCast_one, Nat.reduceMod, Nat.reduceDiv, UInt8.reduceToNat, Nat.reduceLT, k1, u0, u1, u2, v0, v1, v2, q0, d2, w0, w1, q1, w2, w3, sgn, e]
  · have d2 : decide (c < 0) = false := decide_eq_false hc
    have hca : c = (a : Int) := by omega
    subst hca
    simp (config := {contextual := true, implicitDefEqProofs := false, maxSteps := 4000000}) only [go_sem, ↓reduceIte, Bool.false_eq_true, Nat.reduceEqDiff, Nat.reduceAdd, Int.reduceLE, Int.reduceLT, Int.reduceEq, Int.reduceToNat, Int.toNat_natCast, Int.cast_ofNat_Int, Int.natCast_one, Nat.reduceMod, Nat.reduceDiv, UInt8.reduceToNat, Nat.reduceLT, k1, kc, u0, u1, u2, v0, v1, v2, q0, d2, w1, q1, w2, sgn]
theorem c16_1 (n : Int) (s : St) (K : AV → St → Prop) : CallW cx 16 [.int .i64 n, .int .i64 1] s K = K (.tuple [.int .i64 (roundI (clampI n) 1), .int .i64 0]) s := by
  refine CallW.eq (CallW.fn' (fn := ir16) rfl rfl (by kernel_rfl) ir16.eq_1 ?_) K
  have a1 := clamp_lo n
  have a2 := clamp_hi n
  have k1 := fun st K => c15 n st K
  have kc := fun m st K => c15 m st K
  generalize clampI n = c at *
  have k2 := fun st K => c25 c (by omega) (by omega) st K
  unfold roundI
  rw [show unitOf 1 = 100 from rfl]
  obtain ⟨a, ha⟩ : ∃ a, c.natAbs = a := ⟨_, rfl⟩
  rw [ha] at k2 ⊢
  have ha2 : a ≤ 1000000000000 := by omega
  clear ha a1 a2
  have w1 : IntKind.i64.wrap (a : Int) = (a : Int) := wrap_i64 (by omega) (by omega)
  have q1 : evBin .quo (.int .i64 (a : Int)) (.int .i64 100) = some (.int .i64 ((a / 100 : Nat) : Int)) := quoI a 100 (by omega) (by decide)
  have q2 : evBin .rem (.int .i64 (a : Int)) (.int .i64 100) = some (.int .i64 ((a % 100 : Nat) : Int)) := remI a 100 (by decide)
  have e1 : 100 ≤ 2 * (a % 100) → (a + 100 / 2) / 100 = a / 100 + 1 := by omega
  have e2 : ¬ 100 ≤ 2 * (a % 100) → (a + 100 / 2) / 100 = a / 100 := by omega
  obtain ⟨q, hq⟩ : ∃ q, a / 100 = q := ⟨_, rfl⟩
  obtain ⟨r, hr⟩ : ∃ r, a % 100 = r := ⟨_, rfl⟩
  have hq2 : q ≤ 1000000000000 / 100 := by omega
  have hr2 : r < 100 := by omega
  rw [hq] at q1 e1 e2
  rw [hr] at q2 e1 e2
  clear hq hr ha2
  simp only [Nat.reduceDiv] at hq2
  have w2 : IntKind.i64.wrap (2 * (r : Int)) = ((2 * r : Nat) : Int) := by clear w1 q1 q2 e1 e2; rw [wrap_i64 (by omega) (by omega)]; omega
  have w3 : IntKind.i64.wrap ((q : Int) + 1) = ((q + 1 : Nat) : Int) := by clear w1 q1 q2 e1 e2 w2; rw [wrap_i64 (by omega) (by omega)]; omega
  have w5 : ∀ m : Nat, m ≤ q + 1 → IntKind.i64.wrap ((m : Int) * 100) = ((m * 100 : Nat) : Int) := by clear w1 q1 q2 e1 e2 w2 w3; intro m hm; rw [wrap_i64 (by omega) (by omega)]; omega
  have w6 : ∀ m : Nat, m ≤ q + 1 → IntKind.i64.wrap (-(m : Int) * 100) = -((m * 100 : Nat) : Int) := by clear w1 q1 q2 e1 e2 w2 w3 w5; intro m hm; rw [wrap_i64 (by omega) (by omega)]; omega
  have w4 : ∀ m : Nat, m ≤ q + 1 → IntKind.i64.wrap (0 - (m : Int)) = -(m : Int) := by clear w1 q1 q2 e1 e2 w2 w3 w5 w6; intro m hm; rw [wrap_i64 (by omega) (by omega)]; omega
  have u0 : evBin .quo (.int .i64 1000) (.int .i64 10) = some (.int .i64 100) := rfl
  have u1 : evBin .quo (.int .i64 100) (.int .i64 10) = some (.int .i64 10) := rfl
  have u2 : evBin .quo (.int .i64 10) (.int .i64 10) = some (.int .i64 1) := rfl
  have v0 : IntKind.i64.wrap (0 + 1) = 1 := rfl
  have v1 : IntKind.i64.wrap (1 + 1) = 2 := rfl
  have v2 : IntKind.i64.wrap (2 + 1) = 3 := rfl
  simp (config := {contextual := true, implicitDefEqProofs := false, maxSteps := 4000000}) only [go_sem, ↓reduceIte, Bool.false_eq_true, Nat.reduceEqDiff, Nat.reduceAdd, Int.reduceLE, Int.reduceLT, Int.reduceEq, Int.reduceToNat, Int.toNat_natCast, Int.cast_ofNat_Int, Int.natCast_one, Nat.reduceMod, Nat.reduceDiv, UInt8.reduceToNat, Nat.reduceLT]
  refine WLoop.rndB (c := _) ir16L0.eq_1 ?_
  simp (config := {contextual := true, implicitDefEqProofs := false, maxSteps := 4000000}) only [go_sem, ↓reduceIte, Bool.false_eq_true, Nat.reduceEqDiff, Nat.reduceAdd, Int.reduceLE, Int.reduceLT, Int.reduceEq, Int.reduceToNat, Int.toNat_natCast, Int.cast_ofNat_Int, Int.natCast_one, Nat.reduceMod, Nat.reduceDiv, UInt8.reduceToNat, Nat.reduceLT, u0, u1, u2, v0, v1, v2]
  refine WLoop.rndB (c := _) ir16L0.eq_1 ?_
  by_cases h : 100 ≤ 2 * r
  · have d1 : decide ((100 : Int) ≤ ((2 * r : Nat) : Int)) = true := decide_eq_true (by omega)
    rw [e1 h]
    have x1 := w5 (q + 1) (Nat.le_refl _)
    have x2 := w6 (q + 1) (Nat.le_refl _)
    have x3 := w4 (q + 1) (Nat.le_refl _)
    clear w4 w5 w6 e1 e2
    cases hc : decide (c < 0)
    · simp (config := {contextual := true, implicitDefEqProofs := false, maxSteps := 4000000}) only [go_sem, ↓reduceIte, Bool.false_eq_true, Nat.reduceEqDiff, Nat.reduceAdd, Int.reduceLE, Int.reduceLT, Int.reduceEq, Int.reduceToNat, Int.toNat_natCast, Int.cast_ofNat_Int, Int.natCast_one, Nat.reduceMod, Nat.reduceDiv, UInt8.reduceToNat, Nat.reduceLT, k1, k2, kc, w1, q1, q2, w2, w3, u0, u1, u2, d1, hc, x1, v0, v1, v2, sgn]
    · simp (config := {contextual := true, implicitDefEqProofs := false, maxSteps := 4000000}) only [go_sem, ↓reduceIte, Bool.false_eq_true, Nat.reduceEqDiff, Nat.reduceAdd, Int.reduceLE, Int.reduceLT, Int.reduceEq, Int.reduceToNat, Int.toNat_natCast, Int.cast_ofNat_Int, Int.natCast_one, Nat.reduceMod, Nat.reduceDiv, UInt8.reduceToNat, Nat.reduceLT, k1, k2, kc, w1, q1, q2, w2, w3, u0, u1, u2, d1, hc, x2, x3, v0, v1, v2, sgn]
  · have d1 : decide ((100 : Int) ≤ ((2 * r : Nat) : Int)) = false := decide_eq_false (by omega)
    rw [e2 h]
    have x1 := w5 q (by omega)
    have x2 := w6 q (by omega)
    have x3 := w4 q (by omega)
    clear w4 w5 w6 e1 e2
    cases hc : decide (c < 0)
    · simp (config := {contextual := true, implicitDefEqProofs := false, maxSteps := 4000000}) only [go_sem, ↓reduceIte, Bool.false_eq_true, Nat.reduceEqDiff, Nat.reduceAdd, Int.reduceLE, Int.reduceLT, Int.reduceEq, Int.reduceToNat, Int.toNat_natCast, Int.cast_ofNat_Int, Int.natCast_one, Nat.reduceMod, Nat.reduceDiv, UInt8.reduceToNat, Nat.reduceLT, k1, k2, kc, w1, q1, q2, w2, w3, u0, u1, u2, d1, hc, x1, v0, v1, v2, sgn]
    · simp (config := {contextual := true, implicitDefEqProofs := false, maxSteps := 4000000}) only [go_sem, ↓reduceIte, Bool.false_eq_true, Nat.reduceEqDiff, Nat.reduceAdd, Int.reduceLE, Int.reduceLT, Int.reduceEq, Int.reduceToNat, Int.toNat_natCast, Int.cast_ofNat_Int, Int.natCast_one, Nat.reduceMod, Nat.reduceDiv, UInt8.reduceToNat, Nat.reduceLT, k1, k2, kc, w1, q1, q2, w2, w3, u0, u1, u2, d1, hc, x2, x3, v0, v1, v2, sgn]
theorem c17_1 (n : Int) (s : St) (K : AV → St → Prop) : CallW cx 17 [.int .i64 n, .int .i64 1] s K = K (.tuple [.int .i64 (roundI (clampI n) 1), .int .i64 0]) s := by
  refine CallW.eq (CallW.fn' (fn := ir17) rfl rfl (by kernel_rfl) ir17.eq_1 ?_) K
  have a1 := clamp_lo n
  have a2 := clamp_hi n
  have k1 := fun st K => c30 n st K
  have kc := fun m st K => c30 m st K
  generalize clampI n = c at *
  unfold roundI
  rw [show unitOf 1 = 100 from rfl]
  obtain ⟨a, ha⟩ : ∃ a, c.natAbs = a := ⟨_, rfl⟩
  rw [ha]
  have u0 : IntKind.i64.wrap (1 * 10) = 10 := rfl
  have u1 : IntKind.i64.wrap (10 * 10) = 100 := rfl
  have u2 : IntKind.i64.wrap (100 * 10) = 1000 := rfl
  have v0 : IntKind.i64.wrap (0 + 1) = 1 := rfl
  have v1 : IntKind.i64.wrap (1 + 1) = 2 := rfl
  have v2 : IntKind.i64.wrap (2 + 1) = 3 := rfl
  have q0 : evBin .quo (.int .i64 100) (.int .i64 2) = some (.int .i64 50) := rfl
  have w1 : IntKind.i64.wrap ((a : Int) + 50) = ((a + 50 : Nat) : Int) := by rw [wrap_i64 (by omega) (by omega)]; omega
  have q1 : evBin .quo (.int .i64 ((a + 50 : Nat) : Int)) (.int .i64 100) = some (.int .i64 (((a + 50) / 100 : Nat) : Int)) := quoI (a + 50) 100 (by omega) (by decide)
  have w2 : IntKind.i64.wrap ((((a + 50) / 100 : Nat) : Int) * 100) = (((a + 50) / 100 * 100 : Nat) : Int) := by rw [wrap_i64 (by omega) (by omega)]; omega
  rw [show (100 : Nat) / 2 = 50 from rfl]
  simp (config := {contextual := true, implicitDefEqProofs := false, maxSteps := 4000000}) only [go_sem, ↓reduceIte, Bool.false_eq_true, Nat.reduceEqDiff, Nat.reduceAdd, Int.reduceLE, Int.reduceLT, Int.reduceEq, Int.reduceToNat, Int.toNat_natCast, Int.cast_ofNat_Int, Int.natCast_one, Nat.reduceMod, Nat.reduceDiv, UInt8.reduceToNat, Nat.reduceLT]
  refine WLoop.rndB (c := _) ir17L0.eq_1 ?_
  simp (config := {contextual := true, implicitDefEqProofs := false, maxSteps := 4000000}) only [go_sem, ↓reduceIte, Bool.false_eq_true, Nat.reduceEqDiff, Nat.reduceAdd, Int.reduceLE, Int.reduceLT, Int.reduceEq, Int.reduceToNat, Int.toNat_natCast, Int.cast_ofNat_Int, Int.natCast_one, Nat.reduceMod, Nat.reduceDiv, UInt8.reduceToNat, Nat.reduceLT, u0, u1, u2, v0, v1, v2]
  refine WLoop.rndB (c := _) ir17L0.eq_1 ?_
  simp (config := {contextual := true, implicitDefEqProofs := false, maxSteps := 4000000}) only [go_sem, ↓reduceIte, Bool.false_eq_true, Nat.reduceEqDiff, Nat.reduceAdd, Int.reduceLE, Int.reduceLT, Int.reduceEq, Int.reduceToNat, Int.toNat_natCast, Int.cast_ofNat_Int, Int.natCast_one, Nat.reduceMod, Nat.reduceDiv, UInt8.reduceToNat, Nat.reduceLT, u0, u1, u2, v0, v1, v2]
  refine WLoop.rndB (c := _) ir17L0.eq_1 ?_
  by_cases hc : c < 0
  · have d2 : decide (c < 0) = true := decide_eq_true hc
    have w0 : IntKind.i64.wrap (0 - c) = (a : Int) := by rw [wrap_i64 (by omega) (by omega)]; omega
    have w3 : IntKind.i64.wrap (0 - (((a + 50) / 100 * 100 : Nat) : Int)) = -(((a + 50) / 100 * 100 : Nat) : Int) := by rw [wrap_i64 (by omega) (by omega)]; omega
    have e : clampI (-(((a + 50) / 100 * 100 : Nat) : Int)) = -(((a + 50) / 100 * 100 : Nat) : Int) := clamp_id (by omega) (by omega)
    simp (config := {contextual := true, implicitDefEqProofs := false, maxSteps := 4000000}) only [go_sem, ↓reduceIte, Bool.false_eq_true, Nat.reduceEqDiff, Nat.reduceAdd, Int.reduceLE, Int.reduceLT, Int.reduceEq, Int.reduceToNat, Int.toNat_natCast, Int.cast_ofNat_Int, Int.natCast_one, Nat.reduceMod, Nat.reduceDiv, UInt8.reduceToNat, Nat.reduceLT, k1, u0, u1, u2, v0, v1, v2, q0, d2, w0, w1, q1, w2, w3, sgn, e]
  · have d2 : decide (c < 0) = false := decide_eq_false hc
    have hca : c = (a : Int) := by omega
    subst hca
    simp (config := {contextual := true, implicitDefEqProofs := false, maxSteps := 4000000}) only [go_sem, ↓reduceIte, Bool.false_eq_true, Nat.reduceEqDiff, Nat.reduceAdd, Int.reduceLE, Int.reduceLT, Int.reduceEq, Int.reduceToNat, Int.toNat_natCast, Int.cast_ofNat_Int, Int.natCast_one, Nat.reduceMod, Nat.reduceDiv, UInt8.reduceToNat, Nat.reduceLT, k1, kc, u0, u1, u2, v0, v1, v2, q0, d2, w1, q1, w2, sgn]
theorem c16_2 (n : Int) (s : St) (K : AV → St → Prop) : CallW cx 16 [.int .i64 n, .int .i64 2] s K = K (.tuple [.int .i64 (roundI (clampI n) 2), .int .i64 0]) s := by
  refine CallW.eq (CallW.fn' (fn := ir16) rfl rfl (by kernel_rfl) ir16.eq_1 ?_) K
  have a1 := clamp_lo n
  have a2 := clamp_hi n
  have k1 := fun st K => c15 n st K
  have kc := fun m st K => c15 m st K
  generalize clampI n = c at *
  have k2 := fun st K => c25 c (by omega) (by omega) st K
  unfold roundI
  rw [show unitOf 2 = 10 from rfl]
  obtain ⟨a, ha⟩ : ∃ a, c.natAbs = a := ⟨_, rfl⟩
  rw [ha] at k2 ⊢
  have ha2 : a ≤ 1000000000000 := by omega
  clear ha a1 a2
  have w1 : IntKind.i64.wrap (a : Int) = (a : Int) := wrap_i64 (by omega) (by omega)
  have q1 : evBin .quo (.int .i64 (a : Int)) (.int .i64 10) = some (.int .i64 ((a / 10 : Nat) : Int)) := quoI a 10 (by omega) (by decide)
  have q2 : evBin .rem (.int .i64 (a : Int)) (.int .i64 10) = some (.int .i64 ((a % 10 : Nat) : Int)) := remI a 10 (by decide)
  have e1 : 10 ≤ 2 * (a % 10) → (a + 10 / 2) / 10 = a / 10 + 1 := by omega
  have e2 : ¬ 10 ≤ 2 * (a % 10) → (a + 10 / 2) / 10 = a / 10 := by omega
  obtain ⟨q, hq⟩ : ∃ q, a / 10 = q := ⟨_, rfl⟩
  obtain ⟨r, hr⟩ : ∃ r, a % 10 = r := ⟨_, rfl⟩
  have hq2 : q ≤ 1000000000000 / 10 := by omega
  have hr2 : r < 10 := by omega
  rw [hq] at q1 e1 e2
  rw [hr] at q2 e1 e2
  clear hq hr ha2
  simp only [Nat.reduceDiv] at hq2
  have w2 : IntKind.i64.wrap (2 * (r : Int)) = ((2 * r : Nat) : Int) := by clear w1 q1 q2 e1 e2; rw [wrap_i64 (by omega) (by omega)]; omega
  have w3 : IntKind.i64.wrap ((q : Int) + 1) = ((q + 1 : Nat) : Int) := by clear w1 q1 q2 e1 e2 w2; rw [wrap_i64 (by omega) (by omega)]; omega
  have w5 : ∀ m : Nat, m ≤ q + 1 → IntKind.i64.wrap ((m : Int) * 10) = ((m * 10 : Nat) : Int) := by clear w1 q1 q2 e1 e2 w2 w3; intro m hm; rw [wrap_i64 (by omega) (by omega)]; omega
  have w6 : ∀ m : Nat, m ≤ q + 1 → IntKind.i64.wrap (-(m : Int) * 10) = -((m * 10 : Nat) : Int) := by clear w1 q1 q2 e1 e2 w2 w3 w5; intro m hm; rw [wrap_i64 (by omega) (by omega)]; omega
  have w4 : ∀ m : Nat, m ≤ q + 1 → IntKind.i64.wrap (0 - (m : Int)) = -(m : Int) := by clear w1 q1 q2 e1 e2 w2 w3 w5 w6; intro m hm; rw [wrap_i64 (by omega) (by omega)]; omega
  have u0 : evBin .quo (.int .i64 1000) (.int .i64 10) = some (.int .i64 100) := rfl
  have u1 : evBin .quo (.int .i64 100) (.int .i64 10) = some (.int .i64 10) := rfl
  have u2 : evBin .quo (.int .i64 10) (.int .i64 10) = some (.int .i64 1) := rfl
  have v0 : IntKind.i64.wrap (0 + 1) = 1 := rfl
  have v1 : IntKind.i64.wrap (1 + 1) = 2 := rfl
  have v2 : IntKind.i64.wrap (2 + 1) = 3 := rfl
  simp (config := {contextual := true, implicitDefEqProofs := false, maxSteps := 4000000}) only [go_sem, ↓reduceIte, Bool.false_eq_true, Nat.reduceEqDiff, Nat.reduceAdd, Int.reduceLE, Int.reduceLT, Int.reduceEq, Int.reduceToNat, Int.toNat_natCast, Int.cast_ofNat_Int, Int.natCast_one, Nat.reduceMod, Nat.reduceDiv, UInt8.reduceToNat, Nat.reduceLT]
  refine WLoop.rndB (c := _) ir16L0.eq_1 ?_
  simp (config := {contextual := true, implicitDefEqProofs := false, maxSteps := 4000000}) only [go_sem, ↓reduceIte, Bool.false_eq_true, Nat.reduceEqDiff, Nat.reduceAdd, Int.reduceLE, Int.reduceLT, Int.reduceEq, Int.reduceToNat, Int.toNat_natCast, Int.cast_ofNat_Int, Int.natCast_one, Nat.reduceMod, Nat.reduceDiv, UInt8.reduceToNat, Nat.reduceLT, u0, u1, u2, v0, v1, v2]
  refine WLoop.rndB (c := _) ir16L0.eq_1 ?_
  simp (config := {contextual := true, implicitDefEqProofs := false, maxSteps := 4000000}) only [go_sem, ↓reduceIte, Bool.false_eq_true, Nat.reduceEqDiff, Nat.reduceAdd, Int.reduceLE, Int.reduceLT, Int.reduceEq, Int.reduceToNat, Int.toNat_natCast, Int.cast_ofNat_Int, Int.natCast_one, Nat.reduceMod, Nat.reduceDiv, UInt8.reduceToNat, Nat.reduceLT, u0, u1, u2, v0, v1, v2]
  refine WLoop.rndB (c := _) ir16L0.eq_1 ?_
  by_cases h : 10 ≤ 2 * r
  · have d1 : decide ((10 : Int) ≤ ((2 * r : Nat) : Int)) = true := decide_eq_true (by omega)
    rw [e1 h]
    have x1 := w5 (q + 1) (Nat.le_refl _)
    have x2 := w6 (q + 1) (Nat.le_refl _)
    have x3 := w4 (q + 1) (Nat.le_refl _)
    clear w4 w5 w6 e1 e2
    cases hc : decide (c < 0)
    · simp (config := {contextual := true, implicitDefEqProofs := false, maxSteps := 4000000}) only [go_sem, ↓reduceIte, Bool.false_eq_true, Nat.reduceEqDiff, Nat.reduceAdd, Int.reduceLE, Int.reduceLT, Int.reduceEq, Int.reduceToNat, Int.toNat_natCast, Int.cast_ofNat_Int, Int.natCast_one, Nat.reduceMod, Nat.reduceDiv, UInt8.reduceToNat, Nat.reduceLT, k1, k2, kc, w1, q1, q2, w2, w3, u0, u1, u2, d1, hc, x1, v0, v1, v2, sgn]
    · simp (config := {contextual := true, implicitDefEqProofs := false, maxSteps := 4000000}) only [go_sem, ↓reduceIte, Bool.false_eq_true, Nat.reduceEqDiff, Nat.reduceAdd, Int.reduceLE, Int.reduceLT, Int.reduceEq, Int.reduceToNat, Int.toNat_natCast, Int.cast_ofNat_Int, Int.natCast_one, Nat.reduceMod, Nat.reduceDiv, UInt8.reduceToNat, Nat.reduceLT, k1, k2, kc, w1, q1, q2, w2, w3, u0, u1, u2, d1, hc, x2, x3, v0, v1, v2, sgn]
  · have d1 : decide ((10 : Int) ≤ ((2 * r : Nat) : Int)) = false := decide_eq_false (by omega)
    rw [e2 h]
    have x1 := w5 q (by omega)
    have x2 := w6 q (by omega)
    have x3 := w4 q (by omega)
    clear w4 w5 w6 e1 e2
    cases hc : decide (c < 0)
    · simp (config := {contextual := true, implicitDefEqProofs := false, maxSteps := 4000000}) only [go_sem, ↓reduceIte, Bool.false_eq_true, Nat.reduceEqDiff, Nat.reduceAdd, Int.reduceLE, Int.reduceLT, Int.reduceEq, Int.reduceToNat, Int.toNat_natCast, Int.cast_ofNat_Int, Int.natCast_one, Nat.reduceMod, Nat.reduceDiv, UInt8.reduceToNat, Nat.reduceLT, k1, k2, kc, w1, q1, q2, w2, w3, u0, u1, u2, d1, hc, x1, v0, v1, v2, sgn]
    · simp (config := {contextual := true, implicitDefEqProofs := false, maxSteps := 4000000}) only [go_sem, ↓reduceIte, Bool.false_eq_true, Nat.reduceEqDiff, Nat.reduceAdd, Int.reduceLE, Int.reduceLT, Int.reduceEq, Int.reduceToNat, Int.toNat_natCast, Int.cast_ofNat_Int, Int.natCast_one, Nat.reduceMod, Nat.reduceDiv, UInt8.reduceToNat, Nat.reduceLT, k1, k2, kc, w1, q1, q2, w2, w3, u0, u1, u2, d1, hc, x2, x3, v0, v1, v2, sgn]
theorem c17_2 (n : Int) (s : St) (K : AV → St → Prop) : CallW cx 17 [.int .i64 n, .int .i64 2] s K = K (.tuple [.int .i64 (roundI (clampI n) 2), .int .i64 0]) s := by
  refine CallW.eq (CallW.fn' (fn := ir17) rfl rfl (by kernel_rfl) ir17.eq_1 ?_) K
  have a1 := clamp_lo n
  have a2 := clamp_hi n
  have k1 := fun st K => c30 n st K
  have kc := fun m st K => c30 m st K
  generalize clampI n = c at *
  unfold roundI
  rw [show unitOf 2 = 10 from rfl]
  obtain ⟨a, ha⟩ : ∃ a, c.natAbs = a := ⟨_, rfl⟩
  rw [ha]
  have u0 : IntKind.i64.wrap (1 * 10) = 10 := rfl
  have u1 : IntKind.i64.wrap (10 * 10) = 100 := rfl
  have u2 : IntKind.i64.wrap (100 * 10) = 1000 := rfl
  have v0 : IntKind.i64.wrap (0 + 1) = 1 := rfl
  have v1 : IntKind.i64.wrap (1 + 1) = 2 := rfl
  have v2 : IntKind.i64.wrap (2 + 1) = 3 := rfl
  have q0 : evBin .quo (.int .i64 10) (.int .i64 2) = some (.int .i64 5) := rfl
  have w1 : IntKind.i64.wrap ((a : Int) + 5) = ((a + 5 : Nat) : Int) := by rw [wrap_i64 (by omega) (by omega)]; omega
  have q1 : evBin .quo (.int .i64 ((a + 5 : Nat) : Int)) (.int .i64 10) = some (.int .i64 (((a + 5) / 10 : Nat) : Int)) := quoI (a + 5) 10 (by omega) (by decide)
  have w2 : IntKind.i64.wrap ((((a + 5) / 10 : Nat) : Int) * 10) = (((a + 5) / 10 * 10 : Nat) : Int) := by rw [wrap_i64 (by omega) (by omega)]; omega
  rw [show (10 : Nat) / 2 = 5 from rfl]
  simp (config := {contextual := true, implicitDefEqProofs := false, maxSteps := 4000000}) only [go_sem, ↓reduceIte, Bool.false_eq_true, Nat.reduceEqDiff, Nat.reduceAdd, Int.reduceLE, Int.reduceLT, Int.reduceEq, Int.reduceToNat, Int.toNat_natCast, Int.cast_ofNat_Int, Int.natCast_one, Nat.reduceMod, Nat.reduceDiv, UInt8.reduceToNat, Nat.reduceLT]
  refine WLoop.rndB (c := _) ir17L0.eq_1 ?_
  simp (config := {contextual := true, implicitDefEqProofs := false, maxSteps := 4000000}) only [go_sem, ↓reduceIte, Bool.false_eq_true, Nat.reduceEqDiff, Nat.reduceAdd, Int.reduceLE, Int.reduceLT, Int.reduceEq, Int.reduceToNat, Int.toNat_natCast, Int.cast_ofNat_Int, Int.natCast_one, Nat.reduceMod, Nat.reduceDiv, UInt8.reduceToNat, Nat.reduceLT, u0, u1, u2, v0, v1, v2]
  refine WLoop.rndB (c := _) ir17L0.eq_1 ?_
  by_cases hc : c < 0
  · have d2 : decide (c < 0) = true := decide_eq_true hc
    have w0 : IntKind.i64.wrap (0 - c) = (a : Int) := by rw [wrap_i64 (by omega) (by omega)]; omega
    have w3 : IntKind.i64.wrap (0 - (((a + 5) / 10 * 10 : Nat) : Int)) = -(((a + 5) / 10 * 10 : Nat) : Int) := by rw [wrap_i64 (by omega) (by omega)]; omega
    have e : clampI (-(((a + 5) / 10 * 10 : Nat) : Int)) = -(((a + 5) / 10 * 10 : Nat) : Int) := clamp_id (by omega) (by omega)
    simp (config := {contextual := true, implicitDefEqProofs := false, maxSteps := 4000000}) only [go_sem, ↓reduceIte, Bool.false_eq_true, Nat.reduceEqDiff, Nat.reduceAdd, Int.reduceLE, Int.reduceLT, Int.reduceEq, Int.reduceToNat, Int.toNat_natCast, Int.cast_ofNat_Int, Int.natCast_one, Nat.reduceMod, Nat.reduceDiv, UInt8.reduceToNat, Nat.reduceLT, k1, u0, u1, u2, v0, v1, v2, q0, d2, w0, w1, q1, w2, w3, sgn, e]
  · have d2 : decide (c < 0) = false := decide_eq_false hc
    have hca : c = (a : Int) := by omega
    subst hca
    simp (config := {contextual := true, implicitDefEqProofs := false, maxSteps := 4000000}) only [go_sem, ↓reduceIte, Bool.false_eq_true, Nat.reduceEqDiff, Nat.reduceAdd, Int.reduceLE, Int.reduceLT, Int.reduceEq, Int.reduceToNat, Int.toNat_natCast, Int.cast_ofNat_Int, Int.natCast_one, Nat.reduceMod, Nat.reduceDiv, UInt8.reduceToNat, Nat.reduceLT, k1, kc, u0, u1, u2, v0, v1, v2, q0, d2, w1, q1, w2, sgn]
theorem c16_3 (n : Int) (s : St) (K : AV → St → Prop) : CallW cx 16 [.int .i64 n, .int .i64 3] s K = K (.tuple [.int .i64 (roundI (clampI n) 3), .int .i64 0]) s := by
  refine CallW.eq (CallW.fn' (fn := ir16) rfl rfl (by kernel_rfl) ir16.eq_1 ?_) K
  have a1 := clamp_lo n
  have a2 := clamp_hi n
  have k1 := fun st K => c15 n st K
  have kc := fun m st K => c15 m st K
  generalize clampI n = c at *
  have k2 := fun st K => c25 c (by omega) (by omega) st K
  unfold roundI
  rw [show unitOf 3 = 1 from rfl]
  obtain ⟨a, ha⟩ : ∃ a, c.natAbs = a := ⟨_, rfl⟩
  rw [ha] at k2 ⊢
  have ha2 : a ≤ 1000000000000 := by omega
  clear ha a1 a2
  have w1 : IntKind.i64.wrap (a : Int) = (a : Int) := wrap_i64 (by omega) (by omega)
  have q1 : evBin .quo (.int .i64 (a : Int)) (.int .i64 1) = some (.int .i64 ((a / 1 : Nat) : Int)) := quoI a 1 (by omega) (by decide)
  have q2 : evBin .rem (.int .i64 (a : Int)) (.int .i64 1) = some (.int .i64 ((a % 1 : Nat) : Int)) := remI a 1 (by decide)
  have e1 : 1 ≤ 2 * (a % 1) → (a + 1 / 2) / 1 = a / 1 + 1 := by omega
  have e2 : ¬ 1 ≤ 2 * (a % 1) → (a + 1 / 2) / 1 = a / 1 := by omega
  obtain ⟨q, hq⟩ : ∃ q, a / 1 = q := ⟨_, rfl⟩
  obtain ⟨r, hr⟩ : ∃ r, a % 1 = r := ⟨_, rfl⟩
  have hq2 : q ≤ 1000000000000 / 1 := by omega
  have hr2 : r < 1 := by omega
  rw [hq] at q1 e1 e2
  rw [hr] at q2 e1 e2
  clear hq hr ha2
  simp only [Nat.reduceDiv] at hq2
  have w2 : IntKind.i64.wrap (2 * (r : Int)) = ((2 * r : Nat) : Int) := by clear w1 q1 q2 e1 e2; rw [wrap_i64 (by omega) (by omega)]; omega
  have w3 : IntKind.i64.wrap ((q : Int) + 1) = ((q + 1 : Nat) : Int) := by clear w1 q1 q2 e1 e2 w2; rw [wrap_i64 (by omega) (by omega)]; omega
  have w5 : ∀ m : Nat, m ≤ q + 1 → IntKind.i64.wrap ((m : Int) * 1) = ((m * 1 : Nat) : Int) := by clear w1 q1 q2 e1 e2 w2 w3; intro m hm; rw [wrap_i64 (by omega) (by omega)]; omega
  have w6 : ∀ m : Nat, m ≤ q + 1 → IntKind.i64.wrap (-(m : Int) * 1) = -((m * 1 : Nat) : Int) := by clear w1 q1 q2 e1 e2 w2 w3 w5; intro m hm; rw [wrap_i64 (by omega) (by omega)]; omega
  have w4 : ∀ m : Nat, m ≤ q + 1 → IntKind.i64.wrap (0 - (m : Int)) = -(m : Int) := by clear w1 q1 q2 e1 e2 w2 w3 w5 w6; intro m hm; rw [wrap_i64 (by omega) (by omega)]; omega
  have u0 : evBin .quo (.int .i64 1000) (.int .i64 10) = some (.int .i64 100) := rfl
  have u1 : evBin .quo (.int .i64 100) (.int .i64 10) = some (.int .i64 10) := rfl
  have u2 : evBin .quo (.int .i64 10) (.int .i64 10) = some (.int .i64 1) := rfl
  have v0 : IntKind.i64.wrap (0 + 1) = 1 := rfl
  have v1 : IntKind.i64.wrap (1 + 1) = 2 := rfl
  have v2 : IntKind.i64.wrap (2 + 1) = 3 := rfl
  simp (config := {contextual := true, implicitDefEqProofs := false, maxSteps := 4000000}) only [go_sem, ↓reduceIte, Bool.false_eq_true, Nat.reduceEqDiff, Nat.reduceAdd, Int.reduceLE, Int.reduceLT, Int.reduceEq, Int.reduceToNat, Int.toNat_natCast, Int.cast_ofNat_Int, Int.natCast_one, Nat.reduceMod, Nat.reduceDiv, UInt8.reduceToNat, Nat.reduceLT]
  refine WLoop.rndB (c := _) ir16L0.eq_1 ?_
  simp (config := {contextual := true, implicitDefEqProofs := false, maxSteps := 4000000}) only [go_sem, ↓reduceIte, Bool.false_eq_true, Nat.reduceEqDiff, Nat.reduceAdd, Int.reduceLE, Int.reduceLT, Int.reduceEq, Int.reduceToNat, Int.toNat_natCast, Int.cast_ofNat_Int, Int.natCast_one, Nat.reduceMod, Nat.reduceDiv, UInt8.reduceToNat, Nat.reduceLT, u0, u1, u2, v0, v1, v2]
  refine WLoop.rndB (c := _) ir16L0.eq_1 ?_
  simp (config := {contextual := true, implicitDefEqProofs := false, maxSteps := 4000000}) only [go_sem, ↓reduceIte, Bool.false_eq_true, Nat.reduceEqDiff, Nat.reduceAdd, Int.reduceLE, Int.reduceLT, Int.reduceEq, Int.reduceToNat, Int.toNat_natCast, Int.cast_ofNat_Int, Int.natCast_one, Nat.reduceMod, Nat.reduceDiv, UInt8.reduceToNat, Nat.reduceLT, u0, u1, u2, v0, v1, v2]
  refine WLoop.rndB (c := _) ir16L0.eq_1 ?_
  simp (config := {contextual := true, implicitDefEqProofs := false, maxSteps := 4000000}) only [go_sem, ↓reduceIte, Bool.false_eq_true, Nat.reduceEqDiff, Nat.reduceAdd, Int.reduceLE, Int.reduceLT, Int.reduceEq, Int.reduceToNat, Int.toNat_natCast, Int.cast_ofNat_Int, Int.natCast_one, Nat.reduceMod, Nat.reduceDiv, UInt8.reduceToNat, Nat.reduceLT, u0, u1, u2, v0, v1, v2]
  refine WLoop.rndB (c := _) ir16L0.eq_1 ?_
  by_cases h : 1 ≤ 2 * r
  · have d1 : decide ((1 : Int) ≤ ((2 * r : Nat) : Int)) = true := decide_eq_true (by omega)
    rw [e1 h]
    have x1 := w5 (q + 1) (Nat.le_refl _)
    have x2 := w6 (q + 1) (Nat.le_refl _)
    have x3 := w4 (q + 1) (Nat.le_refl _)
    clear w4 w5 w6 e1 e2
    cases hc : decide (c < 0)
    · simp (config := {contextual := true, implicitDefEqProofs := false, maxSteps := 4000000}) only [go_sem, ↓reduceIte, Bool.false_eq_true, Nat.reduceEqDiff, Nat.reduceAdd, Int.reduceLE, Int.reduceLT, Int.reduceEq, Int.reduceToNat, Int.toNat_natCast, Int.cast_ofNat_Int, Int.natCast_one, Nat.reduceMod, Nat.reduceDiv, UInt8.reduceToNat, Nat.reduceLT, k1, k2, kc, w1, q1, q2, w2, w3, u0, u1, u2, d1, hc, x1, v0, v1, v2, sgn]
    · simp (config := {contextual := true, implicitDefEqProofs := false, maxSteps := 4000000}) only [go_sem, ↓reduceIte, Bool.false_eq_true, Nat.reduceEqDiff, Nat.reduceAdd, Int.reduceLE, Int.reduceLT, Int.reduceEq, Int.reduceToNat, Int.toNat_natCast, Int.cast_ofNat_Int, Int.natCast_one, Nat.reduceMod, Nat.reduceDiv, UInt8.reduceToNat, Nat.reduceLT, k1, k2, kc, w1, q1, q2, w2, w3, u0, u1, u2, d1, hc, x2, x3, v0, v1, v2, sgn]
  · have d1 : decide ((1 : Int) ≤ ((2 * r : Nat) : Int)) = false := decide_eq_false (by omega)
    rw [e2 h]
    have x1 := w5 q (by omega)
    have x2 := w6 q (by omega)
    have x3 := w4 q (by omega)
    clear w4 w5 w6 e1 e2
    cases hc : decide (c < 0)
    · simp (config := {contextual := true, implicitDefEqProofs := false, maxSteps := 4000000}) only [go_sem, ↓reduceIte, Bool.false_eq_true, Nat.reduceEqDiff, Nat.reduceAdd, Int.reduceLE, Int.reduceLT, Int.reduceEq, Int.reduceToNat, Int.toNat_natCast, Int.cast_ofNat_Int, Int.natCast_one, Nat.reduceMod, Nat.reduceDiv, UInt8.reduceToNat, Nat.reduceLT, k1, k2, kc, w1, q1, q2, w2, w3, u0, u1, u2, d1, hc, x1, v0, v1, v2, sgn]
    · simp (config := {contextual := true, implicitDefEqProofs := false, maxSteps := 4000000}) only [go_sem, ↓reduceIte, Bool.false_eq_true, Nat.reduceEqDiff, Nat.reduceAdd, Int.reduceLE, Int.reduceLT, Int.reduceEq, Int.reduceToNat, Int.toNat_natCast, Int.cast_ofNat_Int, Int.natCast_one, Nat.reduceMod, Nat.reduceDiv, UInt8.reduceToNat, Nat.reduceLT, k1, k2, kc, w1, q1, q2, w2, w3, u0, u1, u2, d1, hc, x2, x3, v0, v1, v2, sgn]
theorem c17_3 (n : Int) (s : St) (K : AV → St → Prop) : CallW cx 17 [.int .i64 n, .int .i64 3] s K = K (.tuple [.int .i64 (roundI (clampI n) 3), .int .i64 0]) s := by
  refine CallW.eq (CallW.fn' (fn := ir17) rfl rfl (by kernel_rfl) ir17.eq_1 ?_) K
  have a1 := clamp_lo n
  have a2 := clamp_hi n
  have k1 := fun st K => c30 n st K
  have kc := fun m st K => c30 m st K
  generalize clampI n = c at *
  unfold roundI
  rw [show unitOf 3 = 1 from rfl]
  obtain ⟨a, ha⟩ : ∃ a, c.natAbs = a := ⟨_, rfl⟩
  rw [ha]
  have u0 : IntKind.i64.wrap (1 * 10) = 10 := rfl
  have u1 : IntKind.i64.wrap (10 * 10) = 100 := rfl
  have u2 : IntKind.i64.wrap (100 * 10) = 1000 := rfl
  have v0 : IntKind.i64.wrap (0 + 1) = 1 := rfl
  have v1 : IntKind.i64.wrap (1 + 1) = 2 := rfl
  have v2 : IntKind.i64.wrap (2 + 1) = 3 := rfl
  have q0 : evBin .quo (.int .i64 1) (.int .i64 2) = some (.int .i64 0) := rfl
  have w1 : IntKind.i64.wrap ((a : Int) + 0) = ((a : Nat) : Int) := by rw [wrap_i64 (by omega) (by omega)]; omega
  have q1 : evBin .quo (.int .i64 ((a : Nat) : Int)) (.int .i64 1) = some (.int .i64 ((a / 1 : Nat) : Int)) := quoI a 1 (by omega) (by decide)
  have w2 : IntKind.i64.wrap (((a / 1 : Nat) : Int) * 1) = ((a / 1 : Nat) : Int) := by rw [wrap_i64 (by omega) (by omega)]; omega
  rw [show (1 : Nat) / 2 = 0 from rfl]
  simp (config := {contextual := true, implicitDefEqProofs := false, maxSteps := 4000000}) only [go_sem, ↓reduceIte, Bool.false_eq_true, Nat.reduceEqDiff, Nat.reduceAdd, Int.reduceLE, Int.reduceLT, Int.reduceEq, Int.reduceToNat, Int.toNat_natCast, Int.cast_ofNat_Int, Int.natCast_one, Nat.reduceMod, Nat.reduceDiv, UInt8.reduceToNat, Nat.reduceLT]
  refine WLoop.rndB (c := _) ir17L0.eq_1 ?_
  by_cases hc : c < 0
  · have d2 : decide (c < 0) = true := decide_eq_true hc
    have w0 : IntKind.i64.wrap (0 - c) = (a : Int) := by rw [wrap_i64 (by omega) (by omega)]; omega
    have w3 : IntKind.i64.wrap (0 - ((a / 1 : Nat) : Int)) = -((a / 1 : Nat) : Int) := by rw [wrap_i64 (by omega) (by omega)]; omega
    have e : clampI (-((a / 1 : Nat) : Int)) = -((a / 1 : Nat) : Int) := clamp_id (by omega) (by omega)
    simp (config := {contextual := true, implicitDefEqProofs := false, maxSteps := 4000000}) only [go_sem, ↓reduceIte, Bool.false_eq_true, Nat.reduceEqDiff, Nat.reduceAdd, Int.reduceLE, Int.reduceLT, Int.reduceEq, Int.reduceToNat, Int.toNat_natCast, Int.cast_ofNat_Int, Int.natCast_one, Nat.reduceMod, Nat.reduceDiv, UInt8.reduceToNat, Nat.reduceLT, k1, u0, u1, u2, v0, v1, v2, q0, d2, w0, w1, q1, w2, w3, sgn, e]
  · have d2 : decide (c < 0) = false := decide_eq_false hc
    have hca : c = (a : Int) := by omega
    subst hca
    simp (config := {contextual := true, implicitDefEqProofs := false, maxSteps := 4000000}) only [go_sem, ↓reduceIte, Bool.false_eq_true, Nat.reduceEqDiff, Nat.reduceAdd, Int.reduceLE, Int.reduceLT, Int.reduceEq, Int.reduceToNat, Int.toNat_natCast, Int.cast_ofNat_Int, Int.natCast_one, Nat.reduceMod, Nat.reduceDiv, UInt8.reduceToNat, Nat.reduceLT, k1, kc, u0, u1, u2, v0, v1, v2, q0, d2, w1, q1, w2, sgn]

theorem law6 (n d : Int) (s : List UInt8) : CallW cx 6 [.int .i64 n, .int .i64 d, .str s] { heap := [], next := 0, low := 0 } fun v _ => v = .bool true := by
  refine CallW.fn' (fn := ir6) rfl rfl (by kernel_rfl) ir6.eq_1 ?_
  by_cases hl : 100 < s.length
  · have d1 : decide ((100 : Int) < (s.length : Int)) = true := decide_eq_true (by omega)
    simp (config := {contextual := true, implicitDefEqProofs := false, maxSteps := 4000000}) only [go_sem, ↓reduceIte, Bool.false_eq_true, Nat.reduceEqDiff, Nat.reduceAdd, Int.reduceLE, Int.reduceLT, Int.reduceEq, Int.reduceToNat, Int.toNat_natCast, Int.cast_ofNat_Int, Int.natCast_one, Nat.reduceMod, Nat.reduceDiv, UInt8.reduceToNat, Nat.reduceLT, c7z, d1]
  have d1 : decide ((100 : Int) < (s.length : Int)) = false := decide_eq_false (by omega)
  have p1 := fun h l K => c18 s (by omega) h l K
  have p2 := fun st K => c19 s (by omega) st K
  have hT : (textB (clampI n)).length ≤ 200 := by
    unfold textB
    have h1 := dec_length ((clampI n).natAbs / 1000) (by have := clamp_lo n; have := clamp_hi n; omega)
    rw [List.length_append, List.length_append]
    have h2 : (if clampI n < 0 then [(45 : UInt8)] else []).length ≤ 1 := by split <;> simp
    have h3 : (if (clampI n).natAbs % 1000 = 0 then [] else 46 :: fracB ((clampI n).natAbs % 1000)).length ≤ 4 := by
      split
      · simp
      · rename_i h; have := (frac_facts ⟨(clampI n).natAbs % 1000, by omega⟩ h).2.2.1
        simp only [List.length_cons]; simp only at this; omega
    omega
  have p3 := fun h l K => c18 (textB (clampI n)) hT h l K
  have e3 := parse_text (clampI n) (clamp_lo n) (clamp_hi n)
  rw [e3] at p3
  have z : ∀ x : Int, decide (x = x) = true := fun x => by simp
  by_cases h0 : d < 0 ∨ 3 < d
  · have r1 := fun st K => c16z n d h0 st K
    have r2 := fun st K => c17z n d h0 st K
    simp (config := {contextual := true, implicitDefEqProofs := false, maxSteps := 4000000}) only [go_sem, ↓reduceIte, Bool.false_eq_true, Nat.reduceEqDiff, Nat.reduceAdd, Int.reduceLE, Int.reduceLT, Int.reduceEq, Int.reduceToNat, Int.toNat_natCast, Int.cast_ofNat_Int, Int.natCast_one, Nat.reduceMod, Nat.reduceDiv, UInt8.reduceToNat, Nat.reduceLT, c7z, d1, r1, r2, p1, p2, c20, c21, p3, c15, z]
  · rcases (by omega : d = 0 ∨ d = 1 ∨ d = 2 ∨ d = 3) with rfl | rfl | rfl | rfl
    · simp (config := {contextual := true, implicitDefEqProofs := false, maxSteps := 4000000}) only [go_sem, ↓reduceIte, Bool.false_eq_true, Nat.reduceEqDiff, Nat.reduceAdd, Int.reduceLE, Int.reduceLT, Int.reduceEq, Int.reduceToNat, Int.toNat_natCast, Int.cast_ofNat_Int, Int.natCast_one, Nat.reduceMod, Nat.reduceDiv, UInt8.reduceToNat, Nat.reduceLT, c7z, d1, c16_0, c17_0, p1, p2, c20, c21, p3, c15, z]
    · simp (config := {contextual := true, implicitDefEqProofs := false, maxSteps := 4000000}) only [go_sem, ↓reduceIte, Bool.false_eq_true, Nat.reduceEqDiff, Nat.reduceAdd, Int.reduceLE, Int.reduceLT, Int.reduceEq, Int.reduceToNat, Int.toNat_natCast, Int.cast_ofNat_Int, Int.natCast_one, Nat.reduceMod, Nat.reduceDiv, UInt8.reduceToNat, Nat.reduceLT, c7z, d1, c16_1, c17_1, p1, p2, c20, c21, p3, c15, z]
    · simp (config := {contextual := true, implicitDefEqProofs := false, maxSteps := 4000000}) only [go_sem, ↓reduceIte, Bool.false_eq_true, Nat.reduceEqDiff, Nat.reduceAdd, Int.reduceLE, Int.reduceLT, Int.reduceEq, Int.reduceToNat, Int.toNat_natCast, Int.cast_ofNat_Int, Int.natCast_one, Nat.reduceMod, Nat.reduceDiv, UInt8.reduceToNat, Nat.reduceLT, c7z, d1, c16_2, c17_2, p1, p2, c20, c21, p3, c15, z]
    · simp (config := {contextual := true, implicitDefEqProofs := false, maxSteps := 4000000}) only [go_sem, ↓reduceIte, Bool.false_eq_true, Nat.reduceEqDiff, Nat.reduceAdd, Int.reduceLE, Int.reduceLT, Int.reduceEq, Int.reduceToNat, Int.toNat_natCast, Int.cast_ofNat_Int, Int.natCast_one, Nat.reduceMod, Nat.reduceDiv, UInt8.reduceToNat, Nat.reduceLT, c7z, d1, c16_3, c17_3, p1, p2, c20, c21, p3, c15, z]
theorem hlaw6 (as0 : List AV) (h : TyArgs Tryd.prog Tryd.f6.params.toList as0) : ∃ k s', callF cx k 6 as0 st0 = some (.bool true, s') := by
  obtain ⟨a1, r1, rfl, h1, a2, r2, rfl, h2, a3, r3, rfl, h3, h6⟩ : ∃ a1 r1, as0 = a1 :: r1 ∧ TyArg Tryd.prog 2 a1 ∧ ∃ a2 r2, r1 = a2 :: r2 ∧ TyArg Tryd.prog 3 a2 ∧ ∃ a3 r3, r2 = a3 :: r3 ∧ TyArg Tryd.prog 9 a3 ∧ r3 = [] := h
  subst h6
  obtain ⟨x, rfl, _⟩ := TyArg_int Tryd.underlying2 h1
  obtain ⟨d, rfl, _⟩ := TyArg_int Tryd.underlying3 h2
  obtain ⟨s, rfl, _⟩ := TyArg_string Tryd.underlying9 h3
  obtain ⟨k', v, s', h9, rfl⟩ := law6 x d s
  exact ⟨k', s', h9⟩
end T01
