/- Parts of the proof, one behind the other. -/
import Derived.Test.YteaoeaapmjeciaaGreatDoorK38a
import Derived.Test.YteaoeaapmjeciaaGreatDoorFwX
import Derived.Test.YteaoeaapmjeciaaGreatDoorFwG
set_option linter.unusedSimpArgs false
set_option linter.unusedVariables false

/- Lines as a tree, and how they lie in the machine's cells. -/
namespace T18
open Go Fw Go.Proofs
set_option maxRecDepth 100000
set_option linter.unusedSimpArgs false
set_option linter.unusedVariables false
inductive Line where
  | mk (tn : TN) (toks : List Tok) (head : Bool) (kn : TN) (kids : List Line) (pos : Int)
def Line.tn : Line → TN | .mk b _ _ _ _ _ => b
def Line.toks : Line → List Tok | .mk _ t _ _ _ _ => t
def Line.head : Line → Bool | .mk _ _ h _ _ _ => h
def Line.kn : Line → TN | .mk _ _ _ b _ _ => b
def Line.kids : Line → List Line | .mk _ _ _ _ k _ => k
def Line.pos : Line → Int | .mk _ _ _ _ _ p => p
mutual
def encL : Line → List AV
  | .mk tn ts h kn k p => [slt tn ts.length (encTs ts), .bool h, slt kn k.length (encLs k), .int .i64 p]
def encLs : List Line → List AV
  | [] => []
  | l :: ls => encL l ++ encLs ls
end
theorem encL_eq (l : Line) : encL l = [slt l.tn l.toks.length (encTs l.toks), .bool l.head, slt l.kn l.kids.length (encLs l.kids), .int .i64 l.pos] := by
  cases l; simp only [encL, Line.tn, Line.toks, Line.head, Line.kn, Line.kids, Line.pos]
theorem encL_length (l : Line) : (encL l).length = 4 := by rw [encL_eq]; rfl
theorem sub_encLs : ∀ (ls : List Line) (i : Nat) (h : i < ls.length) (j n : Nat), j + n ≤ 4 → sub (encLs ls) (i * 4 + j) n = sub (encL ls[i]) j n
  | l :: ls, 0, h, j, n, hj => by
    simp only [encLs, Nat.zero_mul, Nat.zero_add, List.getElem_cons_zero]
    exact sub_append_left (by rw [encL_length]; exact hj)
  | l :: ls, i + 1, h, j, n, hj => by
    simp only [encLs, List.getElem_cons_succ]
    rw [show (i + 1) * 4 + j = (encL l).length + (i * 4 + j) by rw [encL_length]; omega, sub_append_right]
    exact sub_encLs ls i (by simpa using h) j n hj
theorem encLs_length : ∀ ls : List Line, (encLs ls).length = ls.length * 4
  | [] => by simp [encLs]
  | l :: ls => by simp [encLs, encL_length, encLs_length ls]; omega
theorem encLs_append : ∀ a b : List Line, encLs (a ++ b) = encLs a ++ encLs b
  | [], b => rfl
  | t :: a, b => by simp only [List.cons_append, encLs, encLs_append a b, List.append_assoc]
section
variable {ls : List Line} {i : Nat} (h : i < ls.length)
include h
theorem sub_line : sub (encLs ls) (i * 4) 4 = some [slt ls[i].tn ls[i].toks.length (encTs ls[i].toks), .bool ls[i].head, slt ls[i].kn ls[i].kids.length (encLs ls[i].kids), .int .i64 ls[i].pos] := by
  have := sub_encLs ls i h 0 4 (by omega)
  rw [Nat.add_zero] at this
  rw [this, encL_eq]; rfl
theorem sub_ltoks : sub (encLs ls) (i * 4) 1 = some [slt ls[i].tn ls[i].toks.length (encTs ls[i].toks)] := by
  have := sub_encLs ls i h 0 1 (by omega)
  rw [Nat.add_zero] at this
  rw [this, encL_eq]; rfl
theorem sub_lhead : sub (encLs ls) (i * 4 + 1) 1 = some [.bool ls[i].head] := by rw [sub_encLs ls i h 1 1 (by omega), encL_eq]; rfl
theorem sub_lkids : sub (encLs ls) (i * 4 + 2) 1 = some [slt ls[i].kn ls[i].kids.length (encLs ls[i].kids)] := by rw [sub_encLs ls i h 2 1 (by omega), encL_eq]; rfl
theorem sub_lpos : sub (encLs ls) (i * 4 + 3) 1 = some [.int .i64 ls[i].pos] := by rw [sub_encLs ls i h 3 1 (by omega), encL_eq]; rfl
end
/-- A tree of lines can be taken kid by kid. -/
theorem lines_ind {P : List Line → Prop} (h : ∀ ls, (∀ l ∈ ls, P l.kids) → P ls) : ∀ ls, P ls := by
  have key : ∀ n ls, SizeOf.sizeOf ls < n → P ls := by
    intro n
    induction n with
    | zero => intro ls h; omega
    | succ n ih =>
      intro ls hn
      refine h ls fun l hl => ih l.kids ?_
      have h1 := List.sizeOf_lt_of_mem hl
      cases l with
      | mk tn ts hd kn k p =>
        simp only [Line.kids]
        have : SizeOf.sizeOf (Line.mk tn ts hd kn k p) = 1 + SizeOf.sizeOf tn + SizeOf.sizeOf ts + SizeOf.sizeOf hd + SizeOf.sizeOf kn + SizeOf.sizeOf k + SizeOf.sizeOf p := Line.mk.sizeOf_spec tn ts hd kn k p
        omega
  exact fun ls => key (SizeOf.sizeOf ls + 1) ls (Nat.lt_succ_self _)
theorem encLs_al : ∀ ls : List Line, alAll (fun _ => false) (encLs ls) = true := by
  refine lines_ind fun ls ih => ?_
  induction ls with
  | nil => rfl
  | cons l ls ih2 =>
    have h1 := ih l (by simp)
    have h2 := ih2 fun x hx => ih x (by simp [hx])
    simp only [encLs, encL_eq, List.cons_append, List.nil_append, alAll, h2, AV.al, al_slt _ _ _ h1, al_slt _ _ _ (encTs_al _), Bool.and_self]
theorem encLs_one : ∀ ls : List Line, (encLs ls).all AV.one = true
  | [] => rfl
  | l :: ls => by simp only [encLs, encL_eq, List.cons_append, List.nil_append, List.all_cons, one_slt, encLs_one ls, one_bool, one_int, Bool.and_self]
theorem encLs_strip : ∀ ls : List Line, (encLs ls).map AV.strip = encLs ls
  | [] => rfl
  | l :: ls => by simp only [encLs, encL_eq, List.cons_append, List.nil_append, List.map_cons, strip_slt, encLs_strip ls, strip_bool, strip_int]
/- typed arguments are lines -/
end T18


/- Few lines; trees are compared. -/
namespace T18
open Go Fw Go.Proofs
set_option maxRecDepth 100000
set_option maxHeartbeats 4000000
set_option linter.unusedSimpArgs false
set_option linter.unusedVariables false
def longT (t : Tok) : Bool := decide (2000 < t.t.length)
def leftG (f : List Line → Int → Int) (z : Bool) : List Line → Int → Int
  | [], n => n
  | l :: ls, n => if n < 0 then n else if z then -1 else if 70 < l.toks.length then -1 else if l.toks.any longT then -1 else leftG f z ls (f l.kids (n - 1))
def leftD : Nat → List Line → Int → Int
  | 0 => leftG (fun _ _ => 0) true
  | d + 1 => leftG (leftD d) false
/-- Few lines, few tokens, short texts. -/
def small (ls : List Line) : Bool := decide (0 ≤ leftD 12 ls 60)
/- how many lines -/
mutual
def cntL : Line → Nat
  | .mk _ _ _ _ k _ => 1 + cntLs k
def cntLs : List Line → Nat
  | [] => 0
  | l :: ls => cntL l + cntLs ls
end
theorem cntL_eq (l : Line) : cntL l = 1 + cntLs l.kids := by cases l; simp only [cntL, Line.kids]
mutual
def fewL : Line → Prop
  | .mk _ ts _ _ k _ => ts.length ≤ 70 ∧ (∀ t ∈ ts, t.t.length ≤ 2000) ∧ fewLs k
def fewLs : List Line → Prop
  | [] => True
  | l :: ls => fewL l ∧ fewLs ls
end
theorem fewL_eq (l : Line) : fewL l = (l.toks.length ≤ 70 ∧ (∀ t ∈ l.toks, t.t.length ≤ 2000) ∧ fewLs l.kids) := by cases l; simp only [fewL, Line.toks, Line.kids]
end T18


/- Trees are compared. -/
namespace T18
open Go Fw Go.Proofs
set_option maxRecDepth 100000
set_option maxHeartbeats 4000000
set_option linter.unusedSimpArgs false
set_option linter.unusedVariables false
def sameT (p : Bool) (a b : Tok) : Bool := decide (a.k = b.k) && (decide (a.t = b.t) && (decide (a.n = b.n) && (!p || decide (a.p = b.p))))
def sameTs (p : Bool) : List Tok → List Tok → Bool
  | [], [] => true
  | a :: us, b :: vs => sameT p a b && sameTs p us vs
  | _, _ => false
theorem sameTs_len {p : Bool} : ∀ {us vs : List Tok}, us.length ≠ vs.length → sameTs p us vs = false
  | [], [], h => absurd rfl h
  | [], b :: vs, _ => rfl
  | a :: us, [], _ => rfl
  | a :: us, b :: vs, h => by
    simp only [sameTs]
    rw [sameTs_len (us := us) (vs := vs) (by simpa using h), Bool.and_false]
theorem sameTs_refl (p : Bool) : ∀ us : List Tok, sameTs p us us = true
  | [] => rfl
  | a :: us => by simp [sameTs, sameT, sameTs_refl p us]
theorem l22 (b1 b2 : TN) (p : Bool) (us vs : List Tok) (hlen : us.length = vs.length) (hl : us.length ≤ 4611686018427387904) (L : Nat) (Q : Sig → FE → St → Prop) : ∀ (n i : Nat) (e : FE) (st : St), i + n = us.length → st.low = L → L ≤ st.next → e 0 = slt b1 us.length (encTs us) → e 1 = slt b2 us.length (encTs vs) → e 2 = .bool p → e 7 = .int .i64 (i : Int) →
    (sameTs p (us.drop i) (vs.drop i) = true → ∀ e' st', st'.low = L → Q (.exit 0) e' st') → (sameTs p (us.drop i) (vs.drop i) = false → ∀ e' st', st'.low = L → e' 6 = .bool false → Q .ret e' st') → WLoop cx ir22L0 e st Q
  | 0, i, e, st, hi, hL, hLn, h0, h1, h2, h7, hA, hB => by
    refine WLoop.rnd (c := _) ir22L0.eq_1 ?_
    have hd : decide ((i : Int) < (us.length : Int)) = false := decide_eq_false (by omega)
    rw [List.drop_eq_nil_of_le (by omega), List.drop_eq_nil_of_le (by omega)] at hA
    simp (config := {contextual := true, implicitDefEqProofs := false, maxSteps := 4000000}) only [go_sem, ↓reduceIte, Bool.false_eq_true, Nat.reduceEqDiff, Nat.reduceAdd, Int.reduceLE, Int.reduceLT, Int.reduceEq, Int.reduceToNat, Int.toNat_natCast, Int.cast_ofNat_Int, Int.natCast_one, Nat.reduceMod, Nat.reduceDiv, UInt8.reduceToNat, Nat.reduceLT, h0, h1, h2, h7, hd]
    exact hA rfl _ _ hL
  | n + 1, i, e, st, hi, hL, hLn, h0, h1, h2, h7, hA, hB => by
    refine WLoop.rnd (c := _) ir22L0.eq_1 ?_
    have hd : decide ((i : Int) < (us.length : Int)) = true := decide_eq_true (by omega)
    have hin : (0 : Int) ≤ (i : Int) ∧ (i : Int) < (us.length : Int) := by omega
    have hlt : i < us.length := by omega
    have hlt2 : i < vs.length := by omega
    have hw := wrap_one (i := i) (by omega)
    rw [List.drop_eq_getElem_cons hlt, List.drop_eq_getElem_cons hlt2] at hA hB
    simp only [sameTs] at hA hB
    have hmin : min st.low st.next = st.low := by omega
    have hmin2 : min st.low (st.next + 1) = st.low := by omega
    have ih := fun e st a b c d x1 x2 x3 => l22 b1 b2 p us vs hlen hl L Q n (i + 1) e st (by omega) a b c d x1 x2 x3
    have sA := sub_tok hlt
    have sB := sub_tok hlt2
    obtain ⟨a, ha⟩ : ∃ a, us[i] = a := ⟨_, rfl⟩
    obtain ⟨b, hb⟩ : ∃ a, vs[i] = a := ⟨_, rfl⟩
    rw [ha] at sA hA hB
    rw [hb] at sB hA hB
    have hin2 : (0 : Int) ≤ (i : Int) ∧ (i : Int) < (us.length : Int) := hin
    have hminL : min (min st.low st.next) (st.next + 1) = st.low := by omega
    by_cases k1 : a.k = b.k
    case neg =>
      have hx : sameT p a b = false := by unfold sameT; rw [decide_eq_false k1]; rfl
      rw [hx, Bool.false_and] at hB
      cases p
      · simp (config := {contextual := true, implicitDefEqProofs := false, maxSteps := 4000000}) only [go_sem, ↓reduceIte, Bool.false_eq_true, Nat.reduceEqDiff, Nat.reduceAdd, Int.reduceLE, Int.reduceLT, Int.reduceEq, Int.reduceToNat, Int.toNat_natCast, Int.cast_ofNat_Int, Int.natCast_one, Nat.reduceMod, Nat.reduceDiv, UInt8.reduceToNat, Nat.reduceLT, h0, h1, h2, h7, hd, hin, hin2, sA, sB, hw, hmin, hmin2, hminL, k1]
        exact hB rfl _ _ hL rfl
      · simp (config := {contextual := true, implicitDefEqProofs := false, maxSteps := 4000000}) only [go_sem, ↓reduceIte, Bool.false_eq_true, Nat.reduceEqDiff, Nat.reduceAdd, Int.reduceLE, Int.reduceLT, Int.reduceEq, Int.reduceToNat, Int.toNat_natCast, Int.cast_ofNat_Int, Int.natCast_one, Nat.reduceMod, Nat.reduceDiv, UInt8.reduceToNat, Nat.reduceLT, h0, h1, h2, h7, hd, hin, hin2, sA, sB, hw, hmin, hmin2, hminL, k1]
        exact hB rfl _ _ hL rfl
    by_cases k2 : a.t = b.t
    case neg =>
      have hx : sameT p a b = false := by unfold sameT; rw [decide_eq_false k2, Bool.false_and, Bool.and_false]
      rw [hx, Bool.false_and] at hB
      cases p
      · simp (config := {contextual := true, implicitDefEqProofs := false, maxSteps := 4000000}) only [go_sem, ↓reduceIte, Bool.false_eq_true, Nat.reduceEqDiff, Nat.reduceAdd, Int.reduceLE, Int.reduceLT, Int.reduceEq, Int.reduceToNat, Int.toNat_natCast, Int.cast_ofNat_Int, Int.natCast_one, Nat.reduceMod, Nat.reduceDiv, UInt8.reduceToNat, Nat.reduceLT, h0, h1, h2, h7, hd, hin, hin2, sA, sB, hw, hmin, hmin2, hminL, k1, k2]
        exact hB rfl _ _ hL rfl
      · simp (config := {contextual := true, implicitDefEqProofs := false, maxSteps := 4000000}) only [go_sem, ↓reduceIte, Bool.false_eq_true, Nat.reduceEqDiff, Nat.reduceAdd, Int.reduceLE, Int.reduceLT, Int.reduceEq, Int.reduceToNat, Int.toNat_natCast, Int.cast_ofNat_Int, Int.natCast_one, Nat.reduceMod, Nat.reduceDiv, UInt8.reduceToNat, Nat.reduceLT, h0, h1, h2, h7, hd, hin, hin2, sA, sB, hw, hmin, hmin2, hminL, k1, k2]
        exact hB rfl _ _ hL rfl
    by_cases k3 : a.n = b.n
    case neg =>
      have hx : sameT p a b = false := by unfold sameT; rw [decide_eq_false k3, Bool.false_and, Bool.and_false, Bool.and_false]
      rw [hx, Bool.false_and] at hB
      cases p
      · simp (config := {contextual := true, implicitDefEqProofs := false, maxSteps := 4000000}) only [go_sem, ↓reduceIte, Bool.false_eq_true, Nat.reduceEqDiff, Nat.reduceAdd, Int.reduceLE, Int.reduceLT, Int.reduceEq, Int.reduceToNat, Int.toNat_natCast, Int.cast_ofNat_Int, Int.natCast_one, Nat.reduceMod, Nat.reduceDiv, UInt8.reduceToNat, Nat.reduceLT, h0, h1, h2, h7, hd, hin, hin2, sA, sB, hw, hmin, hmin2, hminL, k1, k2, k3]
        exact hB rfl _ _ hL rfl
      · simp (config := {contextual := true, implicitDefEqProofs := false, maxSteps := 4000000}) only [go_sem, ↓reduceIte, Bool.false_eq_true, Nat.reduceEqDiff, Nat.reduceAdd, Int.reduceLE, Int.reduceLT, Int.reduceEq, Int.reduceToNat, Int.toNat_natCast, Int.cast_ofNat_Int, Int.natCast_one, Nat.reduceMod, Nat.reduceDiv, UInt8.reduceToNat, Nat.reduceLT, h0, h1, h2, h7, hd, hin, hin2, sA, sB, hw, hmin, hmin2, hminL, k1, k2, k3]
        exact hB rfl _ _ hL rfl
    cases p with
    | false =>
      have hx : sameT false a b = true := by unfold sameT; rw [decide_eq_true k1, decide_eq_true k2, decide_eq_true k3]; rfl
      rw [hx, Bool.true_and] at hA hB
      simp (config := {contextual := true, implicitDefEqProofs := false, maxSteps := 4000000}) only [go_sem, ↓reduceIte, Bool.false_eq_true, Nat.reduceEqDiff, Nat.reduceAdd, Int.reduceLE, Int.reduceLT, Int.reduceEq, Int.reduceToNat, Int.toNat_natCast, Int.cast_ofNat_Int, Int.natCast_one, Nat.reduceMod, Nat.reduceDiv, UInt8.reduceToNat, Nat.reduceLT, h0, h1, h2, h7, hd, hin, hin2, sA, sB, hw, hmin, hmin2, hminL, k1, k2, k3]
      exact ih _ _ hL (by simp only; omega) h0 h1 h2 rfl hA hB
    | true =>
      by_cases k4 : a.p = b.p
      case neg =>
        have hx : sameT true a b = false := by unfold sameT; rw [decide_eq_false k4]; simp
        rw [hx, Bool.false_and] at hB
        simp (config := {contextual := true, implicitDefEqProofs := false, maxSteps := 4000000}) only [go_sem, ↓reduceIte, Bool.false_eq_true, Nat.reduceEqDiff, Nat.reduceAdd, Int.reduceLE, Int.reduceLT, Int.reduceEq, Int.reduceToNat, Int.toNat_natCast, Int.cast_ofNat_Int, Int.natCast_one, Nat.reduceMod, Nat.reduceDiv, UInt8.reduceToNat, Nat.reduceLT, h0, h1, h2, h7, hd, hin, hin2, sA, sB, hw, hmin, hmin2, hminL, k1, k2, k3, k4]
        exact hB rfl _ _ hL rfl
      case pos =>
        have hx : sameT true a b = true := by unfold sameT; rw [decide_eq_true k1, decide_eq_true k2, decide_eq_true k3, decide_eq_true k4]; rfl
        rw [hx, Bool.true_and] at hA hB
        simp (config := {contextual := true, implicitDefEqProofs := false, maxSteps := 4000000}) only [go_sem, ↓reduceIte, Bool.false_eq_true, Nat.reduceEqDiff, Nat.reduceAdd, Int.reduceLE, Int.reduceLT, Int.reduceEq, Int.reduceToNat, Int.toNat_natCast, Int.cast_ofNat_Int, Int.natCast_one, Nat.reduceMod, Nat.reduceDiv, UInt8.reduceToNat, Nat.reduceLT, h0, h1, h2, h7, hd, hin, hin2, sA, sB, hw, hmin, hmin2, hminL, k1, k2, k3, k4]
        exact ih _ _ hL (by simp only; omega) h0 h1 h2 rfl hA hB
theorem c22 (b1 b2 : TN) (p : Bool) (us vs : List Tok) (hl : us.length ≤ 4611686018427387904) (s : St) (K : AV → St → Prop) : CallW cx 22 [slt b1 us.length (encTs us), slt b2 vs.length (encTs vs), .bool p] s K = K (.bool (sameTs p us vs)) s := by
  refine CallW.eq (CallW.fn' (fn := ir22) rfl rfl (by kernel_rfl) ir22.eq_1 ?_) K
  by_cases hlen : us.length = vs.length
  · have hx : decide ((us.length : Int) ≠ (vs.length : Int)) = false := decide_eq_false (by omega)
    have hz : (slt b2 vs.length (encTs vs)) = slt b2 us.length (encTs vs) := by rw [hlen]
    rw [hz] at *
    rw [hlen] at hx
    simp (config := {contextual := true, implicitDefEqProofs := false, maxSteps := 4000000}) only [go_sem, ↓reduceIte, Bool.false_eq_true, Nat.reduceEqDiff, Nat.reduceAdd, Int.reduceLE, Int.reduceLT, Int.reduceEq, Int.reduceToNat, Int.toNat_natCast, Int.cast_ofNat_Int, Int.natCast_one, Nat.reduceMod, Nat.reduceDiv, UInt8.reduceToNat, Nat.reduceLT, hx, hlen]
    rw [← hlen]
    refine l22 b1 b2 p us vs hlen hl s.next _ us.length 0 _ _ (by omega) rfl (by simp only; omega) rfl rfl rfl rfl ?_ ?_
    · intro h e' st' hL
      rw [List.drop_zero, List.drop_zero] at h
      simp (config := {contextual := true, implicitDefEqProofs := false, maxSteps := 4000000}) only [go_sem, ↓reduceIte, Bool.false_eq_true, Nat.reduceEqDiff, Nat.reduceAdd, Int.reduceLE, Int.reduceLT, Int.reduceEq, Int.reduceToNat, Int.toNat_natCast, Int.cast_ofNat_Int, Int.natCast_one, Nat.reduceMod, Nat.reduceDiv, UInt8.reduceToNat, Nat.reduceLT, h, hL]
    · intro h e' st' hL h6
      rw [List.drop_zero, List.drop_zero] at h
      simp (config := {contextual := true, implicitDefEqProofs := false, maxSteps := 4000000}) only [go_sem, ↓reduceIte, Bool.false_eq_true, Nat.reduceEqDiff, Nat.reduceAdd, Int.reduceLE, Int.reduceLT, Int.reduceEq, Int.reduceToNat, Int.toNat_natCast, Int.cast_ofNat_Int, Int.natCast_one, Nat.reduceMod, Nat.reduceDiv, UInt8.reduceToNat, Nat.reduceLT, h, hL, h6]
  · have hx : decide ((us.length : Int) ≠ (vs.length : Int)) = true := decide_eq_true (by omega)
    rw [sameTs_len hlen]
    simp (config := {contextual := true, implicitDefEqProofs := false, maxSteps := 4000000}) only [go_sem, ↓reduceIte, Bool.false_eq_true, Nat.reduceEqDiff, Nat.reduceAdd, Int.reduceLE, Int.reduceLT, Int.reduceEq, Int.reduceToNat, Int.toNat_natCast, Int.cast_ofNat_Int, Int.natCast_one, Nat.reduceMod, Nat.reduceDiv, UInt8.reduceToNat, Nat.reduceLT, hx]
/- lines -/
mutual
def sameL (p : Bool) : Line → Line → Bool
  | .mk _ ts h _ k pos, l => (h == l.head) && ((!p || decide (pos = l.pos)) && (sameTs p ts l.toks && sameLs p k l.kids))
def sameLs (p : Bool) : List Line → List Line → Bool
  | [], [] => true
  | a :: us, b :: vs => sameL p a b && sameLs p us vs
  | _, _ => false
end
theorem sameL_eq (p : Bool) (a b : Line) : sameL p a b = ((a.head == b.head) && ((!p || decide (a.pos = b.pos)) && (sameTs p a.toks b.toks && sameLs p a.kids b.kids))) := by
  cases a; cases b; simp only [sameL, Line.head, Line.pos, Line.toks, Line.kids]; rfl
theorem sameLs_len {p : Bool} : ∀ {us vs : List Line}, us.length ≠ vs.length → sameLs p us vs = false
  | [], [], h => absurd rfl h
  | [], b :: vs, _ => rfl
  | a :: us, [], _ => by simp only [sameLs]
  | a :: us, b :: vs, h => by
    simp only [sameLs]
    rw [sameLs_len (us := us) (vs := vs) (by simpa using h), Bool.and_false]
theorem l7 (b1 b2 : TN) (p : Bool) (us vs : List Line) (hlen : us.length = vs.length) (hl : us.length ≤ 4611686018427387904) (hf : fewLs us)
    (hc : ∀ l ∈ us, ∀ (b : Line) (s : St) (K : AV → St → Prop), CallW cx 7 [slt l.kn l.kids.length (encLs l.kids), slt b.kn b.kids.length (encLs b.kids), .bool p] s K = K (.bool (sameLs p l.kids b.kids)) s)
    (L : Nat) (Q : Sig → FE → St → Prop) : ∀ (n i : Nat) (e : FE) (st : St), i + n = us.length → fewLs (us.drop i) → st.low = L → L ≤ st.next → e 0 = slt b1 us.length (encLs us) → e 1 = slt b2 us.length (encLs vs) → e 2 = .bool p → e 7 = .int .i64 (i : Int) →
    (sameLs p (us.drop i) (vs.drop i) = true → ∀ e' st', st'.low = L → Q (.exit 0) e' st') → (sameLs p (us.drop i) (vs.drop i) = false → ∀ e' st', st'.low = L → e' 6 = .bool false → Q .ret e' st') → WLoop cx ir7L0 e st Q
  | 0, i, e, st, hi, hfi, hL, hLn, h0, h1, h2, h7, hA, hB => by
    refine WLoop.rnd (c := _) ir7L0.eq_1 ?_
    have hd : decide ((i : Int) < (us.length : Int)) = false := decide_eq_false (by omega)
    rw [List.drop_eq_nil_of_le (by omega), List.drop_eq_nil_of_le (by omega)] at hA
    simp (config := {contextual := true, implicitDefEqProofs := false, maxSteps := 4000000}) only [go_sem, ↓reduceIte, Bool.false_eq_true, Nat.reduceEqDiff, Nat.reduceAdd, Int.reduceLE, Int.reduceLT, Int.reduceEq, Int.reduceToNat, Int.toNat_natCast, Int.cast_ofNat_Int, Int.natCast_one, Nat.reduceMod, Nat.reduceDiv, UInt8.reduceToNat, Nat.reduceLT, h0, h1, h2, h7, hd]
    exact hA (by simp only [sameLs]) _ _ hL
  | n + 1, i, e, st, hi, hfi, hL, hLn, h0, h1, h2, h7, hA, hB => by
    refine WLoop.rnd (c := _) ir7L0.eq_1 ?_
    have hd : decide ((i : Int) < (us.length : Int)) = true := decide_eq_true (by omega)
    have hin : (0 : Int) ≤ (i : Int) ∧ (i : Int) < (us.length : Int) := by omega
    have hlt : i < us.length := by omega
    have hlt2 : i < vs.length := by omega
    have hw := wrap_one (i := i) (by omega)
    rw [List.drop_eq_getElem_cons hlt] at hfi
    rw [List.drop_eq_getElem_cons hlt, List.drop_eq_getElem_cons hlt2] at hA hB
    simp only [sameLs] at hA hB
    simp only [fewLs, fewL_eq] at hfi
    have sA0 := sub_ltoks hlt
    have sA1 := sub_lhead hlt
    have sA2 := sub_lkids hlt
    have sA3 := sub_lpos hlt
    have sB0 := sub_ltoks hlt2
    have sB1 := sub_lhead hlt2
    have sB2 := sub_lkids hlt2
    have sB3 := sub_lpos hlt2
    have kk := hc us[i] (List.getElem_mem hlt) vs[i]
    have kt := fun st K => c22 us[i].tn vs[i].tn p us[i].toks vs[i].toks (by omega) st K
    obtain ⟨a, ha⟩ : ∃ a, us[i] = a := ⟨_, rfl⟩
    obtain ⟨b, hb⟩ : ∃ a, vs[i] = a := ⟨_, rfl⟩
    rw [ha] at sA0 sA1 sA2 sA3 kk kt hA hB hfi
    rw [hb] at sB0 sB1 sB2 sB3 kk kt hA hB
    rw [sameL_eq] at hA hB
    have ih := fun e x0 x1 x2 x7 => l7 b1 b2 p us vs hlen hl hf hc L Q n (i + 1) e st (by omega) hfi.2 hL hLn x0 x1 x2 x7
    by_cases k1 : a.head = b.head
    case neg =>
      have hx : (a.head == b.head) = false := by simpa using k1
      rw [hx, Bool.false_and, Bool.false_and] at hB
      simp (config := {contextual := true, implicitDefEqProofs := false, maxSteps := 4000000}) only [go_sem, ↓reduceIte, Bool.false_eq_true, Nat.reduceEqDiff, Nat.reduceAdd, Int.reduceLE, Int.reduceLT, Int.reduceEq, Int.reduceToNat, Int.toNat_natCast, Int.cast_ofNat_Int, Int.natCast_one, Nat.reduceMod, Nat.reduceDiv, UInt8.reduceToNat, Nat.reduceLT, h0, h1, h2, h7, hd, hin, sA1, sB1, hx]
      exact hB rfl _ _ hL rfl
    have hx : (a.head == b.head) = true := by simpa using k1
    rw [hx, Bool.true_and] at hA hB
    cases hpp : (!p || decide (a.pos = b.pos)) with
    | false =>
      rw [hpp, Bool.false_and, Bool.false_and] at hB
      have hp1 : p = true := by cases p <;> simp at hpp ⊢
      subst hp1
      have k2 : ¬ a.pos = b.pos := by simpa using hpp
      have d2 : decide (a.pos ≠ b.pos) = true := decide_eq_true k2
      simp (config := {contextual := true, implicitDefEqProofs := false, maxSteps := 4000000}) only [go_sem, ↓reduceIte, Bool.false_eq_true, Nat.reduceEqDiff, Nat.reduceAdd, Int.reduceLE, Int.reduceLT, Int.reduceEq, Int.reduceToNat, Int.toNat_natCast, Int.cast_ofNat_Int, Int.natCast_one, Nat.reduceMod, Nat.reduceDiv, UInt8.reduceToNat, Nat.reduceLT, h0, h1, h2, h7, hd, hin, sA1, sB1, sA3, sB3, hx, d2]
      exact hB rfl _ _ hL rfl
    | true =>
      rw [hpp, Bool.true_and] at hA hB
      have d2 : p = true → decide (a.pos ≠ b.pos) = false := by
        intro hp1; subst hp1
        have k2 : a.pos = b.pos := by simpa using hpp
        exact decide_eq_false (fun h => h k2)
      cases ht : sameTs p a.toks b.toks with
      | false =>
        rw [ht, Bool.false_and, Bool.false_and] at hB
        cases p with
        | false =>
          simp (config := {contextual := true, implicitDefEqProofs := false, maxSteps := 4000000}) only [go_sem, ↓reduceIte, Bool.false_eq_true, Nat.reduceEqDiff, Nat.reduceAdd, Int.reduceLE, Int.reduceLT, Int.reduceEq, Int.reduceToNat, Int.toNat_natCast, Int.cast_ofNat_Int, Int.natCast_one, Nat.reduceMod, Nat.reduceDiv, UInt8.reduceToNat, Nat.reduceLT, h0, h1, h2, h7, hd, hin, sA0, sB0, sA1, sB1, sA3, sB3, hx, kt, ht]
          exact hB rfl _ _ hL rfl
        | true =>
          have d2 := d2 rfl
          simp (config := {contextual := true, implicitDefEqProofs := false, maxSteps := 4000000}) only [go_sem, ↓reduceIte, Bool.false_eq_true, Nat.reduceEqDiff, Nat.reduceAdd, Int.reduceLE, Int.reduceLT, Int.reduceEq, Int.reduceToNat, Int.toNat_natCast, Int.cast_ofNat_Int, Int.natCast_one, Nat.reduceMod, Nat.reduceDiv, UInt8.reduceToNat, Nat.reduceLT, h0, h1, h2, h7, hd, hin, sA0, sB0, sA1, sB1, sA3, sB3, hx, d2, kt, ht]
          exact hB rfl _ _ hL rfl
      | true =>
        rw [ht, Bool.true_and] at hA hB
        cases hs : sameLs p a.kids b.kids with
        | false =>
          rw [hs, Bool.false_and] at hB
          cases p with
          | false =>
            simp (config := {contextual := true, implicitDefEqProofs := false, maxSteps := 4000000}) only [go_sem, ↓reduceIte, Bool.false_eq_true, Nat.reduceEqDiff, Nat.reduceAdd, Int.reduceLE, Int.reduceLT, Int.reduceEq, Int.reduceToNat, Int.toNat_natCast, Int.cast_ofNat_Int, Int.natCast_one, Nat.reduceMod, Nat.reduceDiv, UInt8.reduceToNat, Nat.reduceLT, h0, h1, h2, h7, hd, hin, sA0, sB0, sA1, sB1, sA2, sB2, sA3, sB3, hx, kt, ht, kk, hs]
            exact hB rfl _ _ hL rfl
          | true =>
            have d2 := d2 rfl
            simp (config := {contextual := true, implicitDefEqProofs := false, maxSteps := 4000000}) only [go_sem, ↓reduceIte, Bool.false_eq_true, Nat.reduceEqDiff, Nat.reduceAdd, Int.reduceLE, Int.reduceLT, Int.reduceEq, Int.reduceToNat, Int.toNat_natCast, Int.cast_ofNat_Int, Int.natCast_one, Nat.reduceMod, Nat.reduceDiv, UInt8.reduceToNat, Nat.reduceLT, h0, h1, h2, h7, hd, hin, sA0, sB0, sA1, sB1, sA2, sB2, sA3, sB3, hx, d2, kt, ht, kk, hs]
            exact hB rfl _ _ hL rfl
        | true =>
          rw [hs, Bool.true_and] at hA hB
          cases p with
          | false =>
            simp (config := {contextual := true, implicitDefEqProofs := false, maxSteps := 4000000}) only [go_sem, ↓reduceIte, Bool.false_eq_true, Nat.reduceEqDiff, Nat.reduceAdd, Int.reduceLE, Int.reduceLT, Int.reduceEq, Int.reduceToNat, Int.toNat_natCast, Int.cast_ofNat_Int, Int.natCast_one, Nat.reduceMod, Nat.reduceDiv, UInt8.reduceToNat, Nat.reduceLT, h0, h1, h2, h7, hd, hin, sA0, sB0, sA1, sB1, sA2, sB2, sA3, sB3, hx, kt, ht, kk, hs, hw]
            exact ih _ h0 h1 h2 rfl hA hB
          | true =>
            have d2 := d2 rfl
            simp (config := {contextual := true, implicitDefEqProofs := false, maxSteps := 4000000}) only [go_sem, ↓reduceIte, Bool.false_eq_true, Nat.reduceEqDiff, Nat.reduceAdd, Int.reduceLE, Int.reduceLT, Int.reduceEq, Int.reduceToNat, Int.toNat_natCast, Int.cast_ofNat_Int, Int.natCast_one, Nat.reduceMod, Nat.reduceDiv, UInt8.reduceToNat, Nat.reduceLT, h0, h1, h2, h7, hd, hin, sA0, sB0, sA1, sB1, sA2, sB2, sA3, sB3, hx, d2, kt, ht, kk, hs, hw]
            exact ih _ h0 h1 h2 rfl hA hB
theorem len_cnt : ∀ ls : List Line, ls.length ≤ cntLs ls
  | [] => Nat.le_refl _
  | l :: ls => by simp only [cntLs, cntL_eq, List.length_cons]; have := len_cnt ls; omega
theorem few_mem {ls : List Line} (h : fewLs ls) : ∀ l ∈ ls, fewL l := by
  induction ls with
  | nil => intro l hl; cases hl
  | cons a ls ih =>
    simp only [fewLs] at h
    intro l hl
    rcases List.mem_cons.1 hl with rfl | hl
    · exact h.1
    · exact ih h.2 l hl
theorem cnt_mem {ls : List Line} : ∀ l ∈ ls, cntL l ≤ cntLs ls := by
  induction ls with
  | nil => intro l hl; cases hl
  | cons a ls ih =>
    intro l hl
    simp only [cntLs]
    rcases List.mem_cons.1 hl with rfl | hl
    · omega
    · have := ih l hl; omega
theorem c7 (p : Bool) : ∀ (us : List Line), fewLs us → cntLs us ≤ 4611686018427387904 → ∀ (b1 b2 : TN) (vs : List Line) (s : St) (K : AV → St → Prop), CallW cx 7 [slt b1 us.length (encLs us), slt b2 vs.length (encLs vs), .bool p] s K = K (.bool (sameLs p us vs)) s := by
  refine lines_ind fun us ih => ?_
  intro hf hcnt b1 b2 vs s K
  have hlc := len_cnt us
  refine CallW.eq (CallW.fn' (fn := ir7) rfl rfl (by kernel_rfl) ir7.eq_1 ?_) K
  by_cases hlen : us.length = vs.length
  · have hx : decide ((vs.length : Int) ≠ (vs.length : Int)) = false := by simp
    simp (config := {contextual := true, implicitDefEqProofs := false, maxSteps := 4000000}) only [go_sem, ↓reduceIte, Bool.false_eq_true, Nat.reduceEqDiff, Nat.reduceAdd, Int.reduceLE, Int.reduceLT, Int.reduceEq, Int.reduceToNat, Int.toNat_natCast, Int.cast_ofNat_Int, Int.natCast_one, Nat.reduceMod, Nat.reduceDiv, UInt8.reduceToNat, Nat.reduceLT, hx, hlen]
    rw [← hlen]
    refine l7 b1 b2 p us vs hlen (by omega) hf (fun l hl b s K => ih l hl (by have := few_mem hf l hl; rw [fewL_eq] at this; exact this.2.2) (by have := cnt_mem l hl; rw [cntL_eq] at this; omega) l.kn b.kn b.kids s K) s.next _ us.length 0 _ _ (by omega) (by rw [List.drop_zero]; exact hf) rfl (by simp only; omega) rfl rfl rfl rfl ?_ ?_
    · intro h e' st' hL
      rw [List.drop_zero, List.drop_zero] at h
      simp (config := {contextual := true, implicitDefEqProofs := false, maxSteps := 4000000}) only [go_sem, ↓reduceIte, Bool.false_eq_true, Nat.reduceEqDiff, Nat.reduceAdd, Int.reduceLE, Int.reduceLT, Int.reduceEq, Int.reduceToNat, Int.toNat_natCast, Int.cast_ofNat_Int, Int.natCast_one, Nat.reduceMod, Nat.reduceDiv, UInt8.reduceToNat, Nat.reduceLT, h, hL]
    · intro h e' st' hL h6
      rw [List.drop_zero, List.drop_zero] at h
      simp (config := {contextual := true, implicitDefEqProofs := false, maxSteps := 4000000}) only [go_sem, ↓reduceIte, Bool.false_eq_true, Nat.reduceEqDiff, Nat.reduceAdd, Int.reduceLE, Int.reduceLT, Int.reduceEq, Int.reduceToNat, Int.toNat_natCast, Int.cast_ofNat_Int, Int.natCast_one, Nat.reduceMod, Nat.reduceDiv, UInt8.reduceToNat, Nat.reduceLT, h, hL, h6]
  · have hx : decide ((us.length : Int) ≠ (vs.length : Int)) = true := decide_eq_true (by omega)
    rw [sameLs_len hlen]
    simp (config := {contextual := true, implicitDefEqProofs := false, maxSteps := 4000000}) only [go_sem, ↓reduceIte, Bool.false_eq_true, Nat.reduceEqDiff, Nat.reduceAdd, Int.reduceLE, Int.reduceLT, Int.reduceEq, Int.reduceToNat, Int.toNat_natCast, Int.cast_ofNat_Int, Int.natCast_one, Nat.reduceMod, Nat.reduceDiv, UInt8.reduceToNat, Nat.reduceLT, hx]
end T18


/- Flat, Locate: plain, and the program's. -/
namespace T18
open Go Fw Go.Proofs
set_option maxRecDepth 100000
set_option maxHeartbeats 4000000
set_option linter.unusedSimpArgs false
set_option linter.unusedVariables false
def encI (l : List Int) : List AV := l.map (AV.int .i64)
theorem encI_length (l : List Int) : (encI l).length = l.length := by simp [encI]
theorem encI_al : ∀ l : List Int, alAll (fun _ => false) (encI l) = true
  | [] => rfl
  | a :: l => by simp only [encI, List.map_cons, alAll, AV.al, Bool.true_and]; exact encI_al l
theorem encI_one : ∀ l : List Int, (encI l).all AV.one = true
  | [] => rfl
  | a :: l => by simp only [encI, List.map_cons, List.all_cons, AV.one, Bool.true_and]; exact encI_one l
theorem encI_strip : ∀ l : List Int, (encI l).map AV.strip = encI l
  | [] => rfl
  | a :: l => by simp only [encI, List.map_cons, AV.strip]; exact congrArg _ (encI_strip l)
theorem sub_int {l : List Int} {i : Nat} (h : i < l.length) : sub (encI l) i 1 = some [.int .i64 l[i]] := by
  rw [sub_one (by simpa [encI] using h)]; simp [encI, List.getD, h]
theorem l13 (b1 b2 : TN) (us vs : List Int) (hlen : us.length = vs.length) (hl : us.length ≤ 4611686018427387904) (st : St) (Q : Sig → FE → St → Prop) : ∀ (n i : Nat) (e : FE), i + n = us.length → e 0 = slt b1 us.length (encI us) → e 1 = slt b2 us.length (encI vs) → e 5 = .int .i64 (i : Int) →
    (us.drop i = vs.drop i → ∀ e', Q (.exit 0) e' st) → (us.drop i ≠ vs.drop i → ∀ e', e' 4 = .bool false → Q .ret e' st) → WLoop cx ir13L0 e st Q
  | 0, i, e, hi, h0, h1, h5, hA, hB => by
    refine WLoop.rnd (c := _) ir13L0.eq_1 ?_
    have hd : decide ((i : Int) < (us.length : Int)) = false := decide_eq_false (by omega)
    rw [List.drop_eq_nil_of_le (by omega), List.drop_eq_nil_of_le (by omega)] at hA
    simp (config := {contextual := true, implicitDefEqProofs := false, maxSteps := 4000000}) only [go_sem, ↓reduceIte, Bool.false_eq_true, Nat.reduceEqDiff, Nat.reduceAdd, Int.reduceLE, Int.reduceLT, Int.reduceEq, Int.reduceToNat, Int.toNat_natCast, Int.cast_ofNat_Int, Int.natCast_one, Nat.reduceMod, Nat.reduceDiv, UInt8.reduceToNat, Nat.reduceLT, h0, h1, h5, hd]
    exact hA rfl _
  | n + 1, i, e, hi, h0, h1, h5, hA, hB => by
    refine WLoop.rnd (c := _) ir13L0.eq_1 ?_
    have hd : decide ((i : Int) < (us.length : Int)) = true := decide_eq_true (by omega)
    have hin : (0 : Int) ≤ (i : Int) ∧ (i : Int) < (us.length : Int) := by omega
    have hlt : i < us.length := by omega
    have hlt2 : i < vs.length := by omega
    have hw := wrap_one (i := i) (by omega)
    have sA := sub_int hlt
    have sB := sub_int hlt2
    rw [List.drop_eq_getElem_cons hlt, List.drop_eq_getElem_cons hlt2] at hA hB
    by_cases hx : us[i] = vs[i]
    · have d1 : decide (us[i] ≠ vs[i]) = false := by simp [hx]
      simp (config := {contextual := true, implicitDefEqProofs := false, maxSteps := 4000000}) only [go_sem, ↓reduceIte, Bool.false_eq_true, Nat.reduceEqDiff, Nat.reduceAdd, Int.reduceLE, Int.reduceLT, Int.reduceEq, Int.reduceToNat, Int.toNat_natCast, Int.cast_ofNat_Int, Int.natCast_one, Nat.reduceMod, Nat.reduceDiv, UInt8.reduceToNat, Nat.reduceLT, h0, h1, h5, hd, hin, Nat_mul_one, sA, sB, hw, d1]
      exact l13 b1 b2 us vs hlen hl st Q n (i + 1) _ (by omega) h0 h1 rfl (fun h e' => hA (by rw [h, hx]) e') (fun h e' h4 => hB (fun h2 => h (by injection h2)) e' h4)
    · have d1 : decide (us[i] ≠ vs[i]) = true := by simp [hx]
      simp (config := {contextual := true, implicitDefEqProofs := false, maxSteps := 4000000}) only [go_sem, ↓reduceIte, Bool.false_eq_true, Nat.reduceEqDiff, Nat.reduceAdd, Int.reduceLE, Int.reduceLT, Int.reduceEq, Int.reduceToNat, Int.toNat_natCast, Int.cast_ofNat_Int, Int.natCast_one, Nat.reduceMod, Nat.reduceDiv, UInt8.reduceToNat, Nat.reduceLT, h0, h1, h5, hd, hin, Nat_mul_one, sA, sB, hw, d1]
      exact hB (fun h2 => hx (by injection h2)) _ rfl
theorem c13 (b1 b2 : TN) (us vs : List Int) (hl : us.length ≤ 4611686018427387904) (s : St) (K : AV → St → Prop) : CallW cx 13 [slt b1 us.length (encI us), slt b2 vs.length (encI vs)] s K = K (.bool (decide (us = vs))) s := by
  refine CallW.eq (CallW.fn' (fn := ir13) rfl rfl (by kernel_rfl) ir13.eq_1 ?_) K
  by_cases hlen : us.length = vs.length
  · have hx : decide ((vs.length : Int) ≠ (vs.length : Int)) = false := by simp
    simp (config := {contextual := true, implicitDefEqProofs := false, maxSteps := 4000000}) only [go_sem, ↓reduceIte, Bool.false_eq_true, Nat.reduceEqDiff, Nat.reduceAdd, Int.reduceLE, Int.reduceLT, Int.reduceEq, Int.reduceToNat, Int.toNat_natCast, Int.cast_ofNat_Int, Int.natCast_one, Nat.reduceMod, Nat.reduceDiv, UInt8.reduceToNat, Nat.reduceLT, hx, hlen]
    rw [← hlen]
    refine l13 b1 b2 us vs hlen hl _ _ us.length 0 _ (by omega) rfl rfl rfl ?_ ?_
    · intro h e'
      rw [List.drop_zero, List.drop_zero] at h
      have h2 : decide (us = vs) = true := decide_eq_true h
      simp (config := {contextual := true, implicitDefEqProofs := false, maxSteps := 4000000}) only [go_sem, ↓reduceIte, Bool.false_eq_true, Nat.reduceEqDiff, Nat.reduceAdd, Int.reduceLE, Int.reduceLT, Int.reduceEq, Int.reduceToNat, Int.toNat_natCast, Int.cast_ofNat_Int, Int.natCast_one, Nat.reduceMod, Nat.reduceDiv, UInt8.reduceToNat, Nat.reduceLT, h2]
    · intro h e' h4
      rw [List.drop_zero, List.drop_zero] at h
      have h2 : decide (us = vs) = false := decide_eq_false h
      simp (config := {contextual := true, implicitDefEqProofs := false, maxSteps := 4000000}) only [go_sem, ↓reduceIte, Bool.false_eq_true, Nat.reduceEqDiff, Nat.reduceAdd, Int.reduceLE, Int.reduceLT, Int.reduceEq, Int.reduceToNat, Int.toNat_natCast, Int.cast_ofNat_Int, Int.natCast_one, Nat.reduceMod, Nat.reduceDiv, UInt8.reduceToNat, Nat.reduceLT, h2, h4]
  · have hx : decide ((us.length : Int) ≠ (vs.length : Int)) = true := decide_eq_true (by omega)
    have h2 : decide (us = vs) = false := decide_eq_false (fun e => hlen (by rw [e]))
    simp (config := {contextual := true, implicitDefEqProofs := false, maxSteps := 4000000}) only [go_sem, ↓reduceIte, Bool.false_eq_true, Nat.reduceEqDiff, Nat.reduceAdd, Int.reduceLE, Int.reduceLT, Int.reduceEq, Int.reduceToNat, Int.toNat_natCast, Int.cast_ofNat_Int, Int.natCast_one, Nat.reduceMod, Nat.reduceDiv, UInt8.reduceToNat, Nat.reduceLT, hx, h2]
/- the way to a line -/
mutual
def wayL (x : Int) : Line → Option (List Int)
  | .mk _ _ _ _ k pos => if pos = x then some [] else wayLs x k 0
def wayLs (x : Int) : List Line → Nat → Option (List Int)
  | [], _ => none
  | l :: ls, i => match wayL x l with
    | some r => some ((i : Int) :: r)
    | none => wayLs x ls (i + 1)
end
theorem wayL_eq (x : Int) (l : Line) : wayL x l = if l.pos = x then some [] else wayLs x l.kids 0 := by cases l; simp only [wayL, Line.pos, Line.kids]; rfl
def wayV : Option (List Int) → List AV
  | none => [.nilslice, .bool false]
  | some r => [.slice (encI r) r.length (ow (decide (r.length = 1))), .bool true]
theorem way_len (x : Int) : ∀ (ls : List Line) (i : Nat) (r : List Int), wayLs x ls i = some r → 1 ≤ r.length ∧ r.length ≤ cntLs ls := by
  refine lines_ind fun ls ih => ?_
  induction ls with
  | nil => intro i r h; simp [wayLs] at h
  | cons l ls ih2 =>
    intro i r h
    simp only [wayLs, wayL_eq] at h
    simp only [cntLs, cntL_eq]
    by_cases hp : l.pos = x
    · rw [if_pos hp] at h
      simp only [Option.some.injEq] at h
      subst h; simp; omega
    · rw [if_neg hp] at h
      cases hk : wayLs x l.kids 0 with
      | some q =>
        rw [hk] at h
        simp only [Option.some.injEq] at h
        subst h
        have := ih l (by simp) 0 q hk
        simp; omega
      | none =>
        rw [hk] at h
        have := ih2 (fun y hy => ih y (by simp [hy])) (i + 1) r h
        omega
theorem app_full1 (st : St) (ty bytes : Nat) (a : Int) (r : List Int) (b : Bool) (h : r ≠ []) (hr : (1 + r.length) * bytes ≤ room) : appendA st ty 1 bytes (.slice [.int .i64 a] 1 .full) (.slice (encI r) r.length (ow b)) = some (.slice (encI (a :: r)) (r.length + 1) (.tok st.next (r.length + 1)), { heap := (st.next, .tok ty (r.length + 1) 1) :: st.heap, next := st.next + 1, low := st.low }) := by
  have h0 : r.length ≠ 0 := fun e => h (List.length_eq_zero_iff.1 e)
  unfold appendA
  simp only [cellsOf, AV.count, encI_length, Nat.mul_one, if_true, encI_one, Bool.true_eq_false, if_false, h0, List.length_cons, List.length_nil, Nat.zero_add, hr, encI_strip, St.new]
  rw [Nat.add_comm 1 r.length]
  rfl
theorem leave_way {s s' : St} (r : List Int) (t : Nat) (ht : s.next ≤ t) (hl : s.next ≤ s'.low) (K : AV → St → Prop) : LeaveW s s' (.tuple [.slice (encI r) r.length (.tok t r.length), .bool true]) K = K (.tuple [.slice (encI r) r.length .no, .bool true]) s := by
  rw [LeaveW_tfree (by simp [AV.free, Own.free, ht, encI_al, AV.al]) hl]; rfl
theorem leave_way1 {s s' : St} (i : Int) (hl : s.next ≤ s'.low) (K : AV → St → Prop) : LeaveW s s' (.tuple [.slice [.int .i64 i] 1 .full, .bool true]) K = K (.tuple [.slice [.int .i64 i] 1 .full, .bool true]) s := by
  rw [LeaveW_tfree (by simp [AV.free, Own.free, AV.al, alAll]) hl]; rfl
theorem wayV_some (r : List Int) : wayV (some r) = [.slice (encI r) r.length (ow (decide (r.length = 1))), .bool true] := rfl
end T18


/- Locate; ParserLocates answers true. -/
namespace T18
open Go Fw Go.Proofs
set_option maxRecDepth 100000
set_option maxHeartbeats 4000000
set_option linter.unusedSimpArgs false
set_option linter.unusedVariables false
theorem l23 (x : Int) (b : TN) (ls : List Line) (hcnt : cntLs ls ≤ 1000) (hc : ∀ l ∈ ls, ∀ (s : St) (K : AV → St → Prop), CallW cx 23 [slt l.kn l.kids.length (encLs l.kids), .int .i64 x] s K = K (.tuple (wayV (wayLs x l.kids 0))) s)
    (s0 : St) (Q : Sig → FE → St → Prop) : ∀ (n i : Nat) (e : FE) (st : St), i + n = ls.length → st.low = s0.next → s0.next ≤ st.next → e 10 = slt b ls.length (encLs ls) → e 11 = .int .i64 (ls.length : Int) → e 1 = .int .i64 x → e 12 = .int .i64 (i : Int) →
    (wayLs x (ls.drop i) i = none → ∀ e' st', st'.low = s0.next → Q (.exit 0) e' st') →
    (∀ r, wayLs x (ls.drop i) i = some r → ∀ e' st' v, (∀ K, LeaveW s0 st' (.tuple [v, .bool true]) K = K (.tuple (wayV (some r))) s0) → e' 4 = v → e' 5 = .bool true → Q .ret e' st') → WLoop cx ir23L0 e st Q
  | 0, i, e, st, hi, hL, hN, h0, h11, h1, h6, hA, hB => by
    refine WLoop.rnd (c := _) ir23L0.eq_1 ?_
    have hd : decide ((i : Int) < (ls.length : Int)) = false := decide_eq_false (by omega)
    rw [List.drop_eq_nil_of_le (by omega)] at hA
    simp (config := {contextual := true, implicitDefEqProofs := false, maxSteps := 4000000}) only [go_sem, ↓reduceIte, Bool.false_eq_true, Nat.reduceEqDiff, Nat.reduceAdd, Int.reduceLE, Int.reduceLT, Int.reduceEq, Int.reduceToNat, Int.toNat_natCast, Int.cast_ofNat_Int, Int.natCast_one, Nat.reduceMod, Nat.reduceDiv, UInt8.reduceToNat, Nat.reduceLT, h0, h11, h1, h6, hd]
    exact hA (by simp only [wayLs]) _ _ hL
  | n + 1, i, e, st, hi, hL, hN, h0, h11, h1, h6, hA, hB => by
    refine WLoop.rnd (c := _) ir23L0.eq_1 ?_
    have hlc := len_cnt ls
    have hd : decide ((i : Int) < (ls.length : Int)) = true := decide_eq_true (by omega)
    have hin : (0 : Int) ≤ (i : Int) ∧ (i : Int) < (ls.length : Int) := by omega
    have hlt : i < ls.length := by omega
    have hw := wrap_one (i := i) (by omega)
    have hmin : min st.low st.next = st.low := by omega
    rw [List.drop_eq_getElem_cons hlt] at hA hB
    simp only [wayLs, wayL_eq] at hA hB
    have s2 := sub_line hlt
    have k := hc ls[i] (List.getElem_mem hlt)
    have hcm := cnt_mem ls[i] (List.getElem_mem hlt)
    rw [cntL_eq] at hcm
    have hwl := way_len x ls[i].kids 0
    obtain ⟨a, ha⟩ : ∃ a, ls[i] = a := ⟨_, rfl⟩
    rw [ha] at hA hB s2 k hcm hwl
    by_cases hp : a.pos = x
    · have d1 : decide (a.pos = x) = true := decide_eq_true hp
      rw [if_pos hp] at hB
      simp (config := {contextual := true, implicitDefEqProofs := false, maxSteps := 4000000}) only [go_sem, ↓reduceIte, Bool.false_eq_true, Nat.reduceEqDiff, Nat.reduceAdd, Int.reduceLE, Int.reduceLT, Int.reduceEq, Int.reduceToNat, Int.toNat_natCast, Int.cast_ofNat_Int, Int.natCast_one, Nat.reduceMod, Nat.reduceDiv, UInt8.reduceToNat, Nat.reduceLT, h0, h11, h1, h6, hd, hin, s2, d1, hmin]
      exact hB [(i : Int)] rfl _ _ (.slice [.int .i64 (i : Int)] 1 .full) (fun K => leave_way1 _ (by simp only; omega) K) rfl rfl
    · have d1 : decide (a.pos = x) = false := decide_eq_false hp
      rw [if_neg hp] at hA hB
      cases hk : wayLs x a.kids 0 with
      | none =>
        rw [hk] at hA hB k
        simp only [wayV] at k
        simp (config := {contextual := true, implicitDefEqProofs := false, maxSteps := 4000000}) only [go_sem, ↓reduceIte, Bool.false_eq_true, Nat.reduceEqDiff, Nat.reduceAdd, Int.reduceLE, Int.reduceLT, Int.reduceEq, Int.reduceToNat, Int.toNat_natCast, Int.cast_ofNat_Int, Int.natCast_one, Nat.reduceMod, Nat.reduceDiv, UInt8.reduceToNat, Nat.reduceLT, h0, h11, h1, h6, hd, hin, s2, d1, hmin, k, hw]
        exact l23 x b ls hcnt hc s0 Q n (i + 1) _ _ (by omega) hL (by simp only; omega) h0 h11 h1 rfl hA hB
      | some r =>
        rw [hk] at hB k
        simp only [wayV] at k
        have hr := hwl r hk
        have happ := fun st bb => app_full1 st 3 8 (i : Int) r bb (fun e => by rw [e] at hr; simp at hr) (Nat.le_trans (show (1 + r.length) * 8 ≤ 16000 by omega) (by decide))
        simp (config := {contextual := true, implicitDefEqProofs := false, maxSteps := 4000000}) only [go_sem, ↓reduceIte, Bool.false_eq_true, Nat.reduceEqDiff, Nat.reduceAdd, Int.reduceLE, Int.reduceLT, Int.reduceEq, Int.reduceToNat, Int.toNat_natCast, Int.cast_ofNat_Int, Int.natCast_one, Nat.reduceMod, Nat.reduceDiv, UInt8.reduceToNat, Nat.reduceLT, h0, h11, h1, h6, hd, hin, s2, d1, hmin, k, happ]
        exact hB ((i : Int) :: r) rfl _ _ (.slice (encI ((i : Int) :: r)) (r.length + 1) (.tok (st.next + 1) (r.length + 1))) (fun K => by
          have hne : decide (((i : Int) :: r).length = 1) = false := decide_eq_false (by rw [List.length_cons]; omega)
          rw [wayV_some, hne]
          exact leave_way ((i : Int) :: r) (st.next + 1) (by omega) (by simp only; omega) K) rfl rfl
theorem c23 (x : Int) : ∀ (ls : List Line), cntLs ls ≤ 1000 → ∀ (b : TN) (s : St) (K : AV → St → Prop), CallW cx 23 [slt b ls.length (encLs ls), .int .i64 x] s K = K (.tuple (wayV (wayLs x ls 0))) s := by
  refine lines_ind fun ls ih => ?_
  intro hcnt b s K
  refine CallW.eq (CallW.fn' (fn := ir23) rfl rfl (by kernel_rfl) ir23.eq_1 ?_) K
  simp (config := {contextual := true, implicitDefEqProofs := false, maxSteps := 4000000}) only [go_sem, ↓reduceIte, Bool.false_eq_true, Nat.reduceEqDiff, Nat.reduceAdd, Int.reduceLE, Int.reduceLT, Int.reduceEq, Int.reduceToNat, Int.toNat_natCast, Int.cast_ofNat_Int, Int.natCast_one, Nat.reduceMod, Nat.reduceDiv, UInt8.reduceToNat, Nat.reduceLT]
  refine l23 x b ls hcnt (fun l hl s K => ih l hl (by have := cnt_mem l hl; rw [cntL_eq] at this; omega) l.kn s K) s _ ls.length 0 _ { heap := s.heap, next := s.next, low := s.next } (by omega) rfl (Nat.le_refl _) rfl rfl rfl rfl ?_ ?_
  · intro h e' st' hL
    rw [List.drop_zero] at h
    simp (config := {contextual := true, implicitDefEqProofs := false, maxSteps := 4000000}) only [go_sem, ↓reduceIte, Bool.false_eq_true, Nat.reduceEqDiff, Nat.reduceAdd, Int.reduceLE, Int.reduceLT, Int.reduceEq, Int.reduceToNat, Int.toNat_natCast, Int.cast_ofNat_Int, Int.natCast_one, Nat.reduceMod, Nat.reduceDiv, UInt8.reduceToNat, Nat.reduceLT, h, wayV, hL]
  · intro r h e' st' v hv h4 h5
    rw [List.drop_zero] at h
    simp (config := {contextual := true, implicitDefEqProofs := false, maxSteps := 4000000}) only [go_sem, ↓reduceIte, Bool.false_eq_true, Nat.reduceEqDiff, Nat.reduceAdd, Int.reduceLE, Int.reduceLT, Int.reduceEq, Int.reduceToNat, Int.toNat_natCast, Int.cast_ofNat_Int, Int.natCast_one, Nat.reduceMod, Nat.reduceDiv, UInt8.reduceToNat, Nat.reduceLT, h, h4, h5, hv]
theorem free_enc (r : List Int) (b : Bool) (L : Nat) : (AV.slice (encI r) r.length (ow b)).free L = true := by cases b <;> simp [ow, AV.free, Own.free, encI_al]
theorem dr_enc (r : List Int) (b : Bool) : (AV.slice (encI r) r.length (ow b)).dr = AV.slice (encI r) r.length (ow b) := by cases b <;> rfl
theorem leave_enc {s s' : St} (r : List Int) (b : Bool) (n : Int) (hl : s.next ≤ s'.low) (K : AV → St → Prop) : LeaveW s s' (.tuple [.slice (encI r) r.length (ow b), .int .i64 n]) K = K (.tuple [.slice (encI r) r.length (ow b), .int .i64 n]) s := by
  rw [LeaveW_tfree (by simp only [List.all_cons, List.all_nil, free_enc, Bool.and_true]; rfl) hl]
  simp only [List.map_cons, List.map_nil, dr_enc]; rfl
theorem c8 (x : Int) (ls : List Line) (hcnt : cntLs ls ≤ 1000) (b : TN) (s : St) (K : AV → St → Prop) : CallW cx 8 [slt b ls.length (encLs ls), .int .i64 x] s K =
    K (.tuple (match wayLs x ls 0 with | none => [.nilslice, .int .i64 9] | some r => [.slice (encI r) r.length (ow (decide (r.length = 1))), .int .i64 0])) s := by
  refine CallW.eq (CallW.fn' (fn := ir8) rfl rfl (by kernel_rfl) ir8.eq_1 ?_) K
  have k := c23 x ls hcnt
  cases h : wayLs x ls 0 with
  | none =>
    rw [h] at k
    simp only [wayV] at k
    simp (config := {contextual := true, implicitDefEqProofs := false, maxSteps := 4000000}) only [go_sem, ↓reduceIte, Bool.false_eq_true, Nat.reduceEqDiff, Nat.reduceAdd, Int.reduceLE, Int.reduceLT, Int.reduceEq, Int.reduceToNat, Int.toNat_natCast, Int.cast_ofNat_Int, Int.natCast_one, Nat.reduceMod, Nat.reduceDiv, UInt8.reduceToNat, Nat.reduceLT, k]
  | some r =>
    rw [h] at k
    simp only [wayV] at k
    simp (config := {contextual := true, implicitDefEqProofs := false, maxSteps := 4000000}) only [go_sem, ↓reduceIte, Bool.false_eq_true, Nat.reduceEqDiff, Nat.reduceAdd, Int.reduceLE, Int.reduceLT, Int.reduceEq, Int.reduceToNat, Int.toNat_natCast, Int.cast_ofNat_Int, Int.natCast_one, Nat.reduceMod, Nat.reduceDiv, UInt8.reduceToNat, Nat.reduceLT, k, leave_enc]
end T18


/- Flat of the reference. -/
namespace T18
open Go Fw Go.Proofs
set_option maxRecDepth 100000
set_option maxHeartbeats 4000000
set_option linter.unusedSimpArgs false
set_option linter.unusedVariables false
mutual
/-- A line and its kids, one behind the other, each without kids. -/
def flL (g : TN → List Tok → TN) : Line → List Line
  | .mk tn ts h _ k p => .mk (g tn ts) ts h (true, false) [] p :: flLs g k
def flLs (g : TN → List Tok → TN) : List Line → List Line
  | [] => []
  | l :: ls => flL g l ++ flLs g ls
end
def bare (g : TN → List Tok → TN) (l : Line) : Line := .mk (g l.tn l.toks) l.toks l.head (true, false) [] l.pos
theorem flL_eq (g : TN → List Tok → TN) (l : Line) : flL g l = bare g l :: flLs g l.kids := by cases l; simp only [flL, bare, Line.kids, Line.tn, Line.toks, Line.head, Line.pos]
mutual
def dpL (d : Int) : Line → List Int
  | .mk _ _ _ _ k _ => d :: dpLs (d + 1) k
def dpLs (d : Int) : List Line → List Int
  | [] => []
  | l :: ls => dpL d l ++ dpLs d ls
end
theorem dpL_eq (d : Int) (l : Line) : dpL d l = d :: dpLs (d + 1) l.kids := by cases l; simp only [dpL, Line.kids]
theorem flLs_len (g : TN → List Tok → TN) : ∀ ls : List Line, (flLs g ls).length = cntLs ls := by
  refine lines_ind fun ls ih => ?_
  induction ls with
  | nil => simp [flLs, cntLs]
  | cons l ls ih2 =>
    simp only [flLs, cntLs, flL_eq, cntL_eq, List.length_append, List.length_cons, ih l (by simp), ih2 fun x hx => ih x (by simp [hx])]; omega
theorem encI_append (a b : List Int) : encI (a ++ b) = encI a ++ encI b := by simp [encI]
theorem encL_bare (g : TN → List Tok → TN) (l : Line) : encL (bare g l) = [slt (g l.tn l.toks) l.toks.length (encTs l.toks), .bool l.head, .nilslice, .int .i64 l.pos] := by rw [encL_eq]; rfl
theorem one_line (st : St) (x : List AV) (h : x.length = 4) : cellsOf st 4 (.slice x 1 .full) = some x := by simp [cellsOf, h]
theorem one_int1 (st : St) (d : Int) : cellsOf st 1 (.slice [.int .i64 d] 1 .full) = some [.int .i64 d] := by simp [cellsOf]
theorem slt_of_dr {v : AV} {cs : List AV} {n t : Nat} (h : v = .slice cs n (.tok t n)) : v.dr = slt (false, false) n cs := by rw [h]; rfl
def keepT : TN → List Tok → TN := fun t _ => t
end T18


/- Flat of the program; ParserFlattens answers true. -/
namespace T18
open Go Fw Go.Proofs
set_option maxRecDepth 100000
set_option maxHeartbeats 4000000
set_option linter.unusedSimpArgs false
set_option linter.unusedVariables false
/-- What Clone makes of a slice's room. -/
def clT (b : TN) (ts : List Tok) : TN := if b.1 = true ∧ ts.length = 0 then (true, false) else if ts.length = 0 then (false, true) else (false, false)
theorem slt_isnil (b : TN) (n : Nat) (cs : List AV) : evEq .slice (slt b n cs) .nilslice = some (decide (b.1 = true ∧ n = 0)) := by
  unfold slt
  by_cases h : b.1 = true ∧ n = 0
  · rw [if_pos h, decide_eq_true h]; rfl
  · rw [if_neg h, decide_eq_false h]; rfl
theorem app_clone (st : St) (ty bytes : Nat) (b : TN) (ts : List Tok) (h : ts.length ≠ 0) (hr : ts.length * bytes ≤ room) : appendA st ty 4 bytes (.slice [] 0 .full) (slt b ts.length (encTs ts)) = some (.slice (encTs ts) ts.length (.tok st.next ts.length), { heap := (st.next, .tok ty ts.length 4) :: st.heap, next := st.next + 1, low := st.low }) := by
  have h2 : (encTs ts).length = ts.length * 4 := encTs_length ts
  unfold appendA
  rw [cellsOf_slt _ _ _ _ _ h2, count_slt]
  simp only [encTs_one, Bool.true_eq_false, if_false, List.length_nil, Nat.zero_mul, if_true, h, Nat.zero_add, hr, List.nil_append, encTs_strip, St.new]
theorem leave_cl {s s' : St} (ts : List Tok) (t : Nat) (ht : s.next ≤ t) (hl : s.next ≤ s'.low) (K : AV → St → Prop) : LeaveW s s' (.slice (encTs ts) ts.length (.tok t ts.length)) K = K (.slice (encTs ts) ts.length .no) s := by
  rw [LeaveW_free (by simp [AV.free, Own.free, ht, encTs_al]) hl (fun vs h => by cases h)]; rfl
theorem c33 (b : TN) (ts : List Tok) (hl : ts.length ≤ 1000) (s : St) (K : AV → St → Prop) : CallW cx 33 [slt b ts.length (encTs ts)] s K = K (slt (clT b ts) ts.length (encTs ts)) s := by
  refine CallW.eq (CallW.fn' (fn := ir33) rfl rfl (by kernel_rfl) ir33.eq_1 ?_) K
  by_cases h : b.1 = true ∧ ts.length = 0
  · have e1 : clT b ts = (true, false) := by unfold clT; rw [if_pos h]
    have e2 : slt (true, false) ts.length (encTs ts) = .nilslice := by unfold slt; rw [if_pos ⟨rfl, h.2⟩]
    rw [e1, e2]
    simp (config := {contextual := true, implicitDefEqProofs := false, maxSteps := 4000000}) only [go_sem, ↓reduceIte, Bool.false_eq_true, Nat.reduceEqDiff, Nat.reduceAdd, Int.reduceLE, Int.reduceLT, Int.reduceEq, Int.reduceToNat, Int.toNat_natCast, Int.cast_ofNat_Int, Int.natCast_one, Nat.reduceMod, Nat.reduceDiv, UInt8.reduceToNat, Nat.reduceLT, slt_isnil, decide_eq_true h]
  · by_cases h0 : ts.length = 0
    · have e1 : clT b ts = (false, true) := by unfold clT; rw [if_neg h, if_pos h0]
      have e3 : ts = [] := List.length_eq_zero_iff.1 h0
      have happ : ∀ st : St, appendA st 52 4 40 (.slice [] 0 .full) (slt b ts.length (encTs ts)) = some (.slice [] 0 .full, st) := by
        intro st
        unfold appendA
        rw [cellsOf_slt _ _ _ _ _ (encTs_length ts), count_slt, h0]
        simp [encTs_one]
      have hlv : ∀ (s' : St) (K : AV → St → Prop), s.next ≤ s'.low → LeaveW s s' (.slice [] 0 .full) K = K (.slice [] 0 .full) s := fun s' K hl => by
        rw [LeaveW_free rfl hl (fun vs h => by cases h)]; rfl
      rw [e1]
      simp (config := {contextual := true, implicitDefEqProofs := false, maxSteps := 4000000}) only [go_sem, ↓reduceIte, Bool.false_eq_true, Nat.reduceEqDiff, Nat.reduceAdd, Int.reduceLE, Int.reduceLT, Int.reduceEq, Int.reduceToNat, Int.toNat_natCast, Int.cast_ofNat_Int, Int.natCast_one, Nat.reduceMod, Nat.reduceDiv, UInt8.reduceToNat, Nat.reduceLT, slt_isnil, decide_eq_false h, happ, hlv]
      subst e3; rfl
    · have e1 : clT b ts = (false, false) := by unfold clT; rw [if_neg h, if_neg h0]
      have happ := fun st => app_clone st 52 40 b ts h0 (Nat.le_trans (show ts.length * 40 ≤ 100000 by omega) (by decide))
      rw [e1, slt_no]
      simp (config := {contextual := true, implicitDefEqProofs := false, maxSteps := 4000000}) only [go_sem, ↓reduceIte, Bool.false_eq_true, Nat.reduceEqDiff, Nat.reduceAdd, Int.reduceLE, Int.reduceLT, Int.reduceEq, Int.reduceToNat, Int.toNat_natCast, Int.cast_ofNat_Int, Int.natCast_one, Nat.reduceMod, Nat.reduceDiv, UInt8.reduceToNat, Nat.reduceLT, slt_isnil, decide_eq_false h, happ]
      rw [leave_cl ts s.next (Nat.le_refl _) (Nat.le_refl _)]
      exact ⟨rfl, rfl⟩
/-- The two growing slices behind the lines from some on. -/
def Done (L : Nat) (d : Int) (cs ds : List AV) (m : Nat) (ls : List Line) (st' : St) (v' w' : AV) : Prop :=
  G2 40 4 3 1 L st' v' w' (cs ++ encLs (flLs clT ls)) (m + cntLs ls) (ds ++ encI (dpLs d ls)) (m + cntLs ls)
theorem done_step {L : Nat} {d : Int} {cs ds : List AV} {m : Nat} {a : Line} {ls : List Line} {st' : St} {v' w' : AV}
    (h : Done L d (cs ++ encL (bare clT a) ++ encLs (flLs clT a.kids)) (ds ++ [.int .i64 d] ++ encI (dpLs (d + 1) a.kids)) (m + 1 + cntLs a.kids) ls st' v' w') : Done L d cs ds m (a :: ls) st' v' w' := by
  unfold Done at *
  have e2 : cs ++ encLs (flLs clT (a :: ls)) = cs ++ encL (bare clT a) ++ encLs (flLs clT a.kids) ++ encLs (flLs clT ls) := by
    simp only [flLs, flL_eq, List.cons_append, encLs, encLs_append, List.append_assoc]
  have e3 : ds ++ encI (dpLs d (a :: ls)) = ds ++ [.int .i64 d] ++ encI (dpLs (d + 1) a.kids) ++ encI (dpLs d ls) := by
    simp only [dpLs, dpL_eq, encI_append, encI, List.map_cons, List.map_append, List.append_assoc, List.cons_append, List.nil_append]
  have e4 : m + cntLs (a :: ls) = m + 1 + cntLs a.kids + cntLs ls := by simp only [cntLs, cntL_eq]; omega
  rw [e2, e3, e4]; exact h
theorem l24 (b : TN) (ls : List Line) (d : Int) (hd : 0 ≤ d) (hcd : d + cntLs ls ≤ 1000) (hf : fewLs ls) (L : Nat)
    (hc : ∀ l ∈ ls, ∀ (s : St) (K : AV → St → Prop) (v w : AV) (cs ds : List AV) (m : Nat), G2 40 4 3 1 L s v w cs m ds m → (∃ t, tokOf v = some t) → (∃ t, tokOf w = some t) → m + cntLs l.kids ≤ 1000 →
      (∀ v' w' s', Done L (d + 1) cs ds m l.kids s' v' w' → s'.low ≤ s.low → (∀ t, tokOf v = some t → tokOf v' = some t) → (∀ t, tokOf w = some t → tokOf w' = some t) → K (.tuple [v', w']) s') → CallW cx 24 [slt l.kn l.kids.length (encLs l.kids), .int .i64 (d + 1), v, w] s K)
    (Q : Sig → FE → St → Prop) : ∀ (n i : Nat) (e : FE) (st : St) (v w : AV) (cs ds : List AV) (m : Nat), i + n = ls.length → m + cntLs (ls.drop i) ≤ 1000 → fewLs (ls.drop i) → G2 40 4 3 1 L st v w cs m ds m → e 13 = slt b ls.length (encLs ls) → e 14 = .int .i64 (ls.length : Int) → e 1 = .int .i64 d → e 2 = v → e 3 = w → e 15 = .int .i64 (i : Int) →
    (∀ e' st' v' w', Done L d cs ds m (ls.drop i) st' v' w' → st'.low ≤ st.low → (n ≠ 0 → (∃ t, tokOf v' = some t) ∧ (∃ t, tokOf w' = some t) ∧ (∀ t, tokOf v = some t → st'.low ≤ t)) → (n = 0 → v' = v ∧ w' = w ∧ st' = st) → (∀ t, tokOf v = some t → tokOf v' = some t) → (∀ t, tokOf w = some t → tokOf w' = some t) → e' 2 = v' → e' 3 = w' → Q (.exit 0) e' st') → WLoop cx ir24L0 e st Q
  | 0, i, e, st, v, w, cs, ds, m, hi, hm, hfi, hG, h13, h14, h1, h2, h3, h15, hA => by
    refine WLoop.rnd (c := _) ir24L0.eq_1 ?_
    have hdd : decide ((i : Int) < (ls.length : Int)) = false := decide_eq_false (by omega)
    rw [List.drop_eq_nil_of_le (by omega)] at hA
    simp (config := {contextual := true, implicitDefEqProofs := false, maxSteps := 4000000}) only [go_sem, ↓reduceIte, Bool.false_eq_true, Nat.reduceEqDiff, Nat.reduceAdd, Int.reduceLE, Int.reduceLT, Int.reduceEq, Int.reduceToNat, Int.toNat_natCast, Int.cast_ofNat_Int, Int.natCast_one, Nat.reduceMod, Nat.reduceDiv, UInt8.reduceToNat, Nat.reduceLT, h13, h14, h1, h15, hdd]
    exact hA _ st v w (by simpa [Done, flLs, dpLs, cntLs, encLs, encI] using hG) (Nat.le_refl _) (fun h => absurd rfl h) (fun _ => ⟨rfl, rfl, rfl⟩) (fun t h => h) (fun t h => h) h2 h3
  | n + 1, i, e, st, v, w, cs, ds, m, hi, hm, hfi, hG, h13, h14, h1, h2, h3, h15, hA => by
    refine WLoop.rnd (c := _) ir24L0.eq_1 ?_
    have hlc := len_cnt ls
    have hdd : decide ((i : Int) < (ls.length : Int)) = true := decide_eq_true (by omega)
    have hin : (0 : Int) ≤ (i : Int) ∧ (i : Int) < (ls.length : Int) := by omega
    have hlt : i < ls.length := by omega
    have hw := wrap_one (i := i) (by omega)
    have hw2 : IntKind.i64.wrap (d + 1) = d + 1 := wrap_i64 (by omega) (by omega)
    have hmin : min st.low st.next = st.low := by have := hG.lown; omega
    have sl := sub_line hlt
    have k := hc ls[i] (List.getElem_mem hlt)
    rw [List.drop_eq_getElem_cons hlt] at hA hm hfi
    obtain ⟨a, ha⟩ : ∃ a, ls[i] = a := ⟨_, rfl⟩
    rw [ha] at hA hm sl k hfi
    simp only [cntLs, cntL_eq] at hm
    simp only [fewLs, fewL_eq] at hfi
    have kc := fun st K => c33 a.tn a.toks (by omega) st K
    have hG1 := hG.alloc (.cells (some 40) [slt (clT a.tn a.toks) a.toks.length (encTs a.toks), .bool a.head, .nilslice, .int .i64 a.pos])
    obtain ⟨v1, st1, ap1, G1, lw1, lt1, ps1, tk1, nx1⟩ := hG1.app1 (bytes := 64) (k := 1) (y := .slice [slt (clT a.tn a.toks) a.toks.length (encTs a.toks), .bool a.head, .nilslice, .int .i64 a.pos] 1 .full) (new := encL (bare clT a)) (by rw [encL_bare]; exact one_line _ _ rfl) rfl (by rw [encL_bare]; simp only [List.all_cons, one_slt, one_bool, one_nilslice, one_int, List.all_nil, Bool.and_self]) (by rw [encL_length]) (Nat.le_trans (show (m + 1) * 64 ≤ 100000 by omega) (by decide))
    obtain ⟨w1, st2, ap2, G2', lw2, lt2, ps2, tk2, nx2⟩ := G1.app2 (bytes := 8) (k := 1) (y := .slice [.int .i64 d] 1 .full) (new := [.int .i64 d]) (one_int1 _ _) rfl rfl rfl (Nat.le_trans (show (m + 1) * 8 ≤ 100000 by omega) (by decide))
    simp (config := {contextual := true, implicitDefEqProofs := false, maxSteps := 4000000}) only [go_sem, ↓reduceIte, Bool.false_eq_true, Nat.reduceEqDiff, Nat.reduceAdd, Int.reduceLE, Int.reduceLT, Int.reduceEq, Int.reduceToNat, Int.toNat_natCast, Int.cast_ofNat_Int, Int.natCast_one, Nat.reduceMod, Nat.reduceDiv, UInt8.reduceToNat, Nat.reduceLT, h13, h14, h1, h2, h3, h15, hdd, hin, sl, hmin, hw2, kc, ap1, ap2]
    rw [encL_bare] at G2'
    simp only [List.map_cons, List.map_nil, strip_slt, strip_bool, strip_int, strip_nilslice] at G2'
    rw [← encL_bare] at G2'
    refine k st2 _ v1 w1 _ _ (m + 1) G2' (tk1 (by decide)) (tk2 (by decide)) (by omega) ?_
    intro v3 w3 s3 hD3 hlow3 hpv hpw
    simp (config := {contextual := true, implicitDefEqProofs := false, maxSteps := 4000000}) only [go_sem, ↓reduceIte, Bool.false_eq_true, Nat.reduceEqDiff, Nat.reduceAdd, Int.reduceLE, Int.reduceLT, Int.reduceEq, Int.reduceToNat, Int.toNat_natCast, Int.cast_ofNat_Int, Int.natCast_one, Nat.reduceMod, Nat.reduceDiv, UInt8.reduceToNat, Nat.reduceLT, hw]
    refine l24 b ls d hd hcd hf L hc Q n (i + 1) _ s3 v3 w3 _ _ (m + 1 + cntLs a.kids) (by omega) (by omega) hfi.2 hD3 h13 h14 h1 rfl rfl rfl ?_
    intro e' st' v' w' hG' hlow' ht' hz' hpv' hpw' h2' h3'
    simp only at lw1
    refine hA e' st' v' w' (done_step hG') (by omega) (fun _ => ?_) (fun h => by omega) (fun t h => hpv' t (hpv t (ps1 t h))) (fun t h => hpw' t (hpw t (ps2 t h))) h2' h3'
    obtain ⟨t1, ht1⟩ := tk1 (by decide)
    obtain ⟨t2, ht2⟩ := tk2 (by decide)
    refine ⟨⟨t1, hpv' t1 (hpv t1 ht1)⟩, ⟨t2, hpw' t2 (hpw t2 ht2)⟩, fun t h => ?_⟩
    have := lt1 (by decide) t h
    omega
theorem c24 (L : Nat) : ∀ (ls : List Line), fewLs ls → ∀ (d : Int), 0 ≤ d → d + cntLs ls ≤ 1000 → ∀ (b : TN) (s : St) (K : AV → St → Prop) (v w : AV) (cs ds : List AV) (m : Nat), G2 40 4 3 1 L s v w cs m ds m → (∃ t, tokOf v = some t) → (∃ t, tokOf w = some t) → m + cntLs ls ≤ 1000 →
      (∀ v' w' s', Done L d cs ds m ls s' v' w' → s'.low ≤ s.low → (∀ t, tokOf v = some t → tokOf v' = some t) → (∀ t, tokOf w = some t → tokOf w' = some t) → K (.tuple [v', w']) s') → CallW cx 24 [slt b ls.length (encLs ls), .int .i64 d, v, w] s K := by
  refine lines_ind fun ls ih => ?_
  intro hf d hd hcd b s K v w cs ds m hG hv hw hm hK
  obtain ⟨t, ht⟩ := hv
  obtain ⟨u, hu⟩ := hw
  have htn := hG.a.tok_lt ht
  have hun := hG.b.tok_lt hu
  refine CallW.fn' (fn := ir24) rfl rfl (by kernel_rfl) ir24.eq_1 ?_
  simp (config := {contextual := true, implicitDefEqProofs := false, maxSteps := 4000000}) only [go_sem, ↓reduceIte, Bool.false_eq_true, Nat.reduceEqDiff, Nat.reduceAdd, Int.reduceLE, Int.reduceLT, Int.reduceEq, Int.reduceToNat, Int.toNat_natCast, Int.cast_ofNat_Int, Int.natCast_one, Nat.reduceMod, Nat.reduceDiv, UInt8.reduceToNat, Nat.reduceLT]
  refine l24 b ls d hd hcd hf L (fun l hl s K v w cs ds m hG hv hw hm hK => ih l hl (by have := few_mem hf l hl; rw [fewL_eq] at this; exact this.2.2) (d + 1) (by omega) (by have := cnt_mem l hl; rw [cntL_eq] at this; omega) l.kn s K v w cs ds m hG hv hw hm hK)
    _ ls.length 0 _ { heap := s.heap, next := s.next, low := s.next } v w cs ds m (by omega) (by simpa using hm) (by simpa using hf) (hG.lowered (Nat.le_trans hG.low hG.lown) (Nat.le_refl _)) rfl rfl rfl rfl rfl rfl ?_
  intro e' st' v' w' hD hlow hT hz hpv hpw h2 h3
  rw [List.drop_zero] at hD
  have e1 := tok_shape hD.a (hpv t ht)
  have e2 := tok_shape hD.b (hpw u hu)
  by_cases hls : ls = []
  · subst hls
    obtain ⟨rfl, rfl, rfl⟩ := hz rfl
    have hlv : ∀ K : AV → St → Prop, LeaveW s { heap := s.heap, next := s.next, low := s.next } (.tuple [v', w']) K = K (.tuple [v', w']) s ∨ LeaveW s { heap := s.heap, next := s.next, low := s.next } (.tuple [v', w']) K = K (.tuple [v', w']) { heap := s.heap, next := s.next, low := min s.low s.next } := by
      intro K
      have hd2 : (AV.tuple [v', w']).drop2 s.next = .tuple [v', w'] := by
        rw [e1, e2]; simp [AV.drop2, AV.drop1, AV.drop0, htn, hun]
      by_cases hh : (AV.tuple [v', w']).al (below s.next) = true
      · left; simp only [LeaveW, leave, hd2, hh, Nat.le_refl, and_self, if_true]
      · right
        have hh' : (AV.tuple [v', w']).al (below s.next) = false := by simpa using hh
        simp only [LeaveW, leave, hd2, hh', Bool.false_eq_true, and_false, if_false]
    have hmin : min s.low s.next = s.low := by have := hG.lown; omega
    simp (config := {contextual := true, implicitDefEqProofs := false, maxSteps := 4000000}) only [go_sem, ↓reduceIte, Bool.false_eq_true, Nat.reduceEqDiff, Nat.reduceAdd, Int.reduceLE, Int.reduceLT, Int.reduceEq, Int.reduceToNat, Int.toNat_natCast, Int.cast_ofNat_Int, Int.natCast_one, Nat.reduceMod, Nat.reduceDiv, UInt8.reduceToNat, Nat.reduceLT, h2, h3]
    rcases hlv K with h | h
    · rw [h]; exact hK v' w' s (G2.lowered hD hG.low hG.lown) (Nat.le_refl _) hpv hpw
    · rw [h, hmin]; exact hK v' w' s (G2.lowered hD hG.low hG.lown) (Nat.le_refl _) hpv hpw
  · have hlt := (hT (fun h => hls (List.length_eq_zero_iff.1 h))).2.2 t ht
    have hlv := LeaveW_pair (s := s) (s' := st') (cs := cs ++ encLs (flLs clT ls)) (ds := ds ++ encI (dpLs d ls)) (n := m + cntLs ls) (m := m + cntLs ls) (t := t) (u := u) (by omega)
    rw [← e1, ← e2] at hlv
    simp (config := {contextual := true, implicitDefEqProofs := false, maxSteps := 4000000}) only [go_sem, ↓reduceIte, Bool.false_eq_true, Nat.reduceEqDiff, Nat.reduceAdd, Int.reduceLE, Int.reduceLT, Int.reduceEq, Int.reduceToNat, Int.toNat_natCast, Int.cast_ofNat_Int, Int.natCast_one, Nat.reduceMod, Nat.reduceDiv, UInt8.reduceToNat, Nat.reduceLT, h2, h3, hlv]
    refine hK v' w' _ ?_ (by simp only; omega) hpv hpw
    exact G2.lowered hD (by have := hD.low; have := hG.low; omega) (by have := hD.lown; omega)
theorem c24n (ls : List Line) (hf : fewLs ls) (hcnt : cntLs ls ≤ 900) (b : TN) (s : St) (K : AV → St → Prop) : CallW cx 24 [slt b ls.length (encLs ls), .int .i64 0, .nilslice, .nilslice] s K =
    K (.tuple [slt (true, false) (cntLs ls) (encLs (flLs clT ls)), slt (true, false) (cntLs ls) (encI (dpLs 0 ls))]) s := by
  refine CallW.eq (CallW.fn' (fn := ir24) rfl rfl (by kernel_rfl) ir24.eq_1 ?_) K
  simp (config := {contextual := true, implicitDefEqProofs := false, maxSteps := 4000000}) only [go_sem, ↓reduceIte, Bool.false_eq_true, Nat.reduceEqDiff, Nat.reduceAdd, Int.reduceLE, Int.reduceLT, Int.reduceEq, Int.reduceToNat, Int.toNat_natCast, Int.cast_ofNat_Int, Int.natCast_one, Nat.reduceMod, Nat.reduceDiv, UInt8.reduceToNat, Nat.reduceLT]
  refine l24 b ls 0 (by decide) (by omega) hf s.next (fun l hl s' K v w cs ds m hG hv hw hm hK => c24 s.next l.kids (by have := few_mem hf l hl; rw [fewL_eq] at this; exact this.2.2) (0 + 1) (by decide) (by have := cnt_mem l hl; rw [cntL_eq] at this; omega) l.kn s' K v w cs ds m hG hv hw hm hK)
    _ ls.length 0 _ { heap := s.heap, next := s.next, low := s.next } .nilslice .nilslice [] [] 0 (by omega) (by simp; omega) (by simpa using hf) ⟨Gr.nil, Gr.nil, fun t h => (by cases h), fun t h => (by cases h), fun t h => (by cases h), Nat.le_refl _, Nat.le_refl _⟩ rfl rfl rfl rfl rfl rfl ?_
  intro e' st' v' w' hD hlow hT hz hpv hpw h2 h3
  rw [List.drop_zero] at hD
  unfold Done at hD
  rw [List.nil_append, List.nil_append, Nat.zero_add] at hD
  have hf1 := hD.a.free hD.la (encLs_al _)
  have hf2 := hD.b.free hD.lb (encI_al _)
  have hlv : ∀ K : AV → St → Prop, LeaveW s st' (.tuple [v', w']) K = K (.tuple [v'.dr, w'.dr]) s := fun K => LeaveW_tfree (by simp [hf1, hf2]) hD.low K
  by_cases hls : ls = []
  · subst hls
    obtain ⟨rfl, rfl, _⟩ := hz rfl
    simp (config := {contextual := true, implicitDefEqProofs := false, maxSteps := 4000000}) only [go_sem, ↓reduceIte, Bool.false_eq_true, Nat.reduceEqDiff, Nat.reduceAdd, Int.reduceLE, Int.reduceLT, Int.reduceEq, Int.reduceToNat, Int.toNat_natCast, Int.cast_ofNat_Int, Int.natCast_one, Nat.reduceMod, Nat.reduceDiv, UInt8.reduceToNat, Nat.reduceLT, h2, h3, hlv]
    rfl
  · have hlen : cntLs ls ≠ 0 := by
      have := len_cnt ls
      have h0 : ls.length ≠ 0 := fun h => hls (List.length_eq_zero_iff.1 h)
      omega
    obtain ⟨⟨t, h8⟩, ⟨u, h9⟩, _⟩ := hT (fun h => hls (List.length_eq_zero_iff.1 h))
    have e1 := slt_of_dr (tok_shape hD.a h8)
    have e2 := slt_of_dr (tok_shape hD.b h9)
    have e3 : ∀ cs : List AV, slt (true, false) (cntLs ls) cs = slt (false, false) (cntLs ls) cs := fun cs => by unfold slt; rw [if_neg (fun h => hlen h.2), if_neg (fun h => by cases h.1)]
    rw [e3, e3]
    simp (config := {contextual := true, implicitDefEqProofs := false, maxSteps := 4000000}) only [go_sem, ↓reduceIte, Bool.false_eq_true, Nat.reduceEqDiff, Nat.reduceAdd, Int.reduceLE, Int.reduceLT, Int.reduceEq, Int.reduceToNat, Int.toNat_natCast, Int.cast_ofNat_Int, Int.natCast_one, Nat.reduceMod, Nat.reduceDiv, UInt8.reduceToNat, Nat.reduceLT, h2, h3, hlv, e1, e2]
theorem free_slt (b : TN) (n : Nat) (cs : List AV) (h : alAll (fun _ => false) cs = true) (L : Nat) : (slt b n cs).free L = true := by
  unfold slt ow; split
  · rfl
  · split <;> simp [AV.free, Own.free, h]
theorem dr_slt (b : TN) (n : Nat) (cs : List AV) : (slt b n cs).dr = slt b n cs := by
  unfold slt ow; split
  · rfl
  · split <;> rfl
theorem leave_two {s s' : St} (a b : TN) (n m : Nat) (cs ds : List AV) (h1 : alAll (fun _ => false) cs = true) (h2 : alAll (fun _ => false) ds = true) (hl : s.next ≤ s'.low) (K : AV → St → Prop) : LeaveW s s' (.tuple [slt a n cs, slt b m ds]) K = K (.tuple [slt a n cs, slt b m ds]) s := by
  rw [LeaveW_tfree (by simp only [List.all_cons, List.all_nil, free_slt _ _ _ h1, free_slt _ _ _ h2, Bool.and_self]) hl]
  simp only [List.map_cons, List.map_nil, dr_slt]
theorem c9 (ls : List Line) (hf : fewLs ls) (hcnt : cntLs ls ≤ 900) (b : TN) (s : St) (K : AV → St → Prop) : CallW cx 9 [slt b ls.length (encLs ls)] s K =
    K (.tuple [slt (true, false) (cntLs ls) (encLs (flLs clT ls)), slt (true, false) (cntLs ls) (encI (dpLs 0 ls))]) s := by
  refine CallW.eq (CallW.fn' (fn := ir9) rfl rfl (by kernel_rfl) ir9.eq_1 ?_) K
  have k := fun st K => c24n ls hf hcnt b st K
  have hl := fun s s' hl K => leave_two (s := s) (s' := s') (true, false) (true, false) (cntLs ls) (cntLs ls) (encLs (flLs clT ls)) (encI (dpLs 0 ls)) (encLs_al _) (encI_al _) hl K
  simp (config := {contextual := true, implicitDefEqProofs := false, maxSteps := 4000000}) only [go_sem, ↓reduceIte, Bool.false_eq_true, Nat.reduceEqDiff, Nat.reduceAdd, Int.reduceLE, Int.reduceLT, Int.reduceEq, Int.reduceToNat, Int.toNat_natCast, Int.cast_ofNat_Int, Int.natCast_one, Nat.reduceMod, Nat.reduceDiv, UInt8.reduceToNat, Nat.reduceLT, k, hl]
end T18


/- Lines. -/
namespace T18
open Go Fw Go.Proofs
set_option maxRecDepth 100000
set_option maxHeartbeats 4000000
set_option linter.unusedSimpArgs false
set_option linter.unusedVariables false
/-- Without an empty part at the end. -/
def trimE : List (List UInt8) → List (List UInt8)
  | [] => []
  | [x] => if x = [] then [] else [x]
  | x :: y :: r => x :: trimE (y :: r)
def linesB (a : List UInt8) : List (List UInt8) := trimE (splitB 10 a)
theorem trimE_take : ∀ (l : List (List UInt8)) (i : List (List UInt8)) (z : List UInt8), l = i ++ [z] → trimE l = if z = [] then i else l
  | [], i, z, h => by simp at h
  | [x], i, z, h => by
    have : i = [] ∧ x = z := by
      cases i with
      | nil => simpa using h
      | cons a i => simp at h
    obtain ⟨rfl, rfl⟩ := this
    simp only [trimE]
  | x :: y :: r, i, z, h => by
    cases i with
    | nil => simp at h
    | cons a i =>
      simp only [List.cons_append, List.cons.injEq] at h
      simp only [trimE]
      rw [trimE_take (y :: r) i z h.2]
      split
      · rw [h.1]
      · rfl
theorem lines_le (a : List UInt8) : (linesB a).length ≤ a.length + 1 := by
  have h1 := splitB_len 10 a
  have h2 : a.count 10 ≤ a.length := List.count_le_length
  have h3 : ∀ l : List (List UInt8), (trimE l).length ≤ l.length := by
    intro l
    cases hl : l with
    | nil => simp [trimE]
    | cons x xs =>
      obtain ⟨i, z, hz⟩ : ∃ i z, l = i ++ [z] := by
        rcases List.eq_nil_or_concat l with h | ⟨i, z, h⟩
        · rw [hl] at h; cases h
        · exact ⟨i, z, by simpa using h⟩
      rw [← hl, trimE_take l i z hz]
      split
      · rw [hz]; simp
      · exact Nat.le_refl _
  unfold linesB
  have := h3 (splitB 10 a)
  omega
theorem str_at {l : List (List UInt8)} {i : Nat} (h : i < l.length) : sub (encS l) i 1 = some [.str l[i]] := by
  rw [sub_one (by simpa [encS] using h)]; simp [encS, List.getD, h]
theorem c14 (a : List UInt8) (h : a.length ≤ 65536) (s : St) (K : AV → St → Prop) : CallW cx 14 [.str a] s K =
    K (.tuple [.mslice s.next 0 (linesB a).length (some (a.count 10 + 1)), .int .i64 0]) { heap := (s.next, .cells none (encS (splitB 10 a))) :: s.heap, next := s.next + 1, low := min s.low s.next } := by
  refine CallW.eq (CallW.fn' (fn := ir14) rfl rfl (by kernel_rfl) ir14.eq_1 ?_) K
  have d1 : decide ((65536 : Int) < (a.length : Int)) = false := decide_eq_false (by omega)
  have k := fun st K => c25 a 10 (by omega) st K
  have hlen := splitB_len 10 a
  have hcl : a.count 10 ≤ a.length := List.count_le_length
  obtain ⟨i, z, hz⟩ : ∃ i z, splitB 10 a = i ++ [z] := by
    rcases List.eq_nil_or_concat (splitB 10 a) with h | ⟨i, z, h⟩
    · exact absurd h (splitB_ne 10 a)
    · exact ⟨i, z, by simpa using h⟩
  have hil : i.length = a.count 10 := by
    have := congrArg List.length hz
    rw [hlen, List.length_append, List.length_cons, List.length_nil] at this; omega
  have w1 : IntKind.i64.wrap (((a.count 10 + 1 : Nat) : Int) - 1) = (a.count 10 : Int) := by rw [wrap_i64 (by omega) (by omega)]; omega
  have b1 : (0 : Int) ≤ (a.count 10 : Int) ∧ (a.count 10 : Int) < ((a.count 10 + 1 : Nat) : Int) := by omega
  have hs : sub (encS (splitB 10 a)) (a.count 10) 1 = some [.str z] := by
    rw [str_at (by rw [hlen]; omega)]
    have : (splitB 10 a)[a.count 10]'(by rw [hlen]; omega) = z := by
      have h2 : (splitB 10 a)[a.count 10]? = some z := by rw [hz, ← hil]; simp
      have h3 := List.getElem?_eq_getElem (l := splitB 10 a) (i := a.count 10) (by rw [hlen]; omega)
      rw [h2] at h3; exact (Option.some.inj h3).symm
    rw [this]
  have ht := trimE_take (splitB 10 a) i z hz
  have hlv : ∀ (n : Nat) (s' : St) (K : AV → St → Prop), LeaveW s s' (.tuple [.mslice s.next 0 n (some (a.count 10 + 1)), .int .i64 0]) K = K (.tuple [.mslice s.next 0 n (some (a.count 10 + 1)), .int .i64 0]) { heap := s'.heap, next := s'.next, low := min s.low s'.low } := fun n s' K => LeaveW_new rfl (by simp [AV.al, alAll, below]) K
  by_cases hzz : z = []
  · have d2 : decide (z = []) = true := decide_eq_true hzz
    have hl2 : (linesB a).length = a.count 10 := by unfold linesB; rw [ht, if_pos hzz, hil]
    have sl : sliceA 1 (.mslice s.next 0 (a.count 10 + 1) (some (a.count 10 + 1))) none (some (.int .i64 (a.count 10 : Int))) none = some (.mslice s.next 0 (a.count 10) (some (a.count 10 + 1))) := by
      simp only [sliceA, bounds]
      rw [if_pos ⟨by omega, by omega⟩]
      simp
    rw [hl2]
    simp (config := {contextual := true, implicitDefEqProofs := false, maxSteps := 4000000}) only [go_sem, ↓reduceIte, Bool.false_eq_true, Nat.reduceEqDiff, Nat.reduceAdd, Int.reduceLE, Int.reduceLT, Int.reduceEq, Int.reduceToNat, Int.toNat_natCast, Int.cast_ofNat_Int, Int.natCast_one, Nat.reduceMod, Nat.reduceDiv, UInt8.reduceToNat, Nat.reduceLT, d1, k, w1, b1, Nat_mul_one, hs, d2, sl, hlv]
  · have d2 : decide (z = []) = false := decide_eq_false hzz
    have hl2 : (linesB a).length = a.count 10 + 1 := by unfold linesB; rw [ht, if_neg hzz, hlen]
    rw [hl2]
    simp (config := {contextual := true, implicitDefEqProofs := false, maxSteps := 4000000}) only [go_sem, ↓reduceIte, Bool.false_eq_true, Nat.reduceEqDiff, Nat.reduceAdd, Int.reduceLE, Int.reduceLT, Int.reduceEq, Int.reduceToNat, Int.toNat_natCast, Int.cast_ofNat_Int, Int.natCast_one, Nat.reduceMod, Nat.reduceDiv, UInt8.reduceToNat, Nat.reduceLT, d1, k, w1, b1, Nat_mul_one, hs, d2, hlv]
end T18
