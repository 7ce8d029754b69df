/- Parts of the proof, one behind the other. -/
import Derived.Test.YtljlkedecdgimaaDoorK07a
import Derived.Test.YtljlkedecdgimaaDoorK07aw
import Derived.Test.YtljlkedecdgimaaDoorFwX
import Derived.Test.YtljlkedecdgimaaDoorFwG
set_option linter.unusedSimpArgs false
set_option linter.unusedVariables false
/- Lines, of the program and of the reference; LexerLines answers true. -/
namespace T07
open Go Fw Go.Proofs
set_option maxRecDepth 100000
set_option maxHeartbeats 4000000
set_option linter.unusedSimpArgs false
set_option linter.unusedVariables false
/-- Without an empty part at the end. -/
def trimE : List (List UInt8) → List (List UInt8)
  | [] => []
  | [x] => if x = [] then [] else [x]
  | x :: y :: r => x :: trimE (y :: r)
def linesB (a : List UInt8) : List (List UInt8) := trimE (splitB 10 a)
def refG : List UInt8 → List UInt8 → List (List UInt8)
  | cur, [] => if cur = [] then [] else [cur]
  | cur, b :: l => if b = 10 then cur :: refG [] l else refG (cur ++ [b]) l
theorem refG_eq : ∀ (l cur x : List UInt8) (xs : List (List UInt8)), splitB 10 l = x :: xs → refG cur l = trimE ((cur ++ x) :: xs)
  | [], cur, x, xs, h => by
    simp only [splitB, List.cons.injEq] at h
    obtain ⟨rfl, rfl⟩ := h
    simp only [refG, trimE, List.append_nil]
  | b :: l, cur, x, xs, h => by
    simp only [splitB] at h
    simp only [refG]
    by_cases hb : b = 10
    · rw [if_pos hb] at h ⊢
      simp only [List.cons.injEq] at h
      obtain ⟨rfl, rfl⟩ := h
      cases hs : splitB 10 l with
      | nil => exact absurd hs (splitB_ne 10 l)
      | cons y ys =>
        rw [refG_eq l [] y ys hs, List.append_nil, List.nil_append]
        rfl
    · rw [if_neg hb] at h ⊢
      cases hs : splitB 10 l with
      | nil => exact absurd hs (splitB_ne 10 l)
      | cons y ys =>
        rw [hs] at h
        simp only [List.cons.injEq] at h
        obtain ⟨rfl, rfl⟩ := h
        rw [refG_eq l (cur ++ [b]) y ys hs]
        simp
theorem refG_lines (a : List UInt8) : refG [] a = linesB a := by
  unfold linesB
  cases hs : splitB 10 a with
  | nil => exact absurd hs (splitB_ne 10 a)
  | cons y ys => rw [refG_eq a [] y ys hs, List.nil_append]
theorem trimE_take : ∀ (l : List (List UInt8)) (i : List (List UInt8)) (z : List UInt8), l = i ++ [z] → trimE l = if z = [] then i else l
  | [], i, z, h => by simp at h
  | [x], i, z, h => by
    have : i = [] ∧ x = z := by
      cases i with
      | nil => simpa using h
      | cons a i => simp at h
    obtain ⟨rfl, rfl⟩ := this
    simp only [trimE]
  | x :: y :: r, i, z, h => by
    cases i with
    | nil => simp at h
    | cons a i =>
      simp only [List.cons_append, List.cons.injEq] at h
      simp only [trimE]
      rw [trimE_take (y :: r) i z h.2]
      split
      · rw [h.1]
      · rfl
theorem lines_le (a : List UInt8) : (linesB a).length ≤ a.length + 1 := by
  have h1 := splitB_len 10 a
  have h2 : a.count 10 ≤ a.length := List.count_le_length
  have h3 : ∀ l : List (List UInt8), (trimE l).length ≤ l.length := by
    intro l
    cases hl : l with
    | nil => simp [trimE]
    | cons x xs =>
      obtain ⟨i, z, hz⟩ : ∃ i z, l = i ++ [z] := by
        rcases List.eq_nil_or_concat l with h | ⟨i, z, h⟩
        · rw [hl] at h; cases h
        · exact ⟨i, z, by simpa using h⟩
      rw [← hl, trimE_take l i z hz]
      split
      · rw [hz]; simp
      · exact Nat.le_refl _
  unfold linesB
  have := h3 (splitB 10 a)
  omega
theorem c12z (a : List UInt8) (h : 65536 < a.length) (s : St) (K : AV → St → Prop) : CallW cx 12 [.str a] s K = K (.tuple [.nilslice, .int .i64 7]) s := by
  refine CallW.eq (CallW.fn' (fn := ir12) rfl rfl (by kernel_rfl) ir12.eq_1 ?_) K
  have d1 : decide ((65536 : Int) < (a.length : Int)) = true := decide_eq_true (by omega)
  simp (config := {contextual := true, implicitDefEqProofs := false, maxSteps := 4000000}) only [go_sem, ↓reduceIte, Bool.false_eq_true, Nat.reduceEqDiff, Nat.reduceAdd, Int.reduceLE, Int.reduceLT, Int.reduceEq, Int.reduceToNat, Int.toNat_natCast, Int.cast_ofNat_Int, Int.natCast_one, Nat.reduceMod, Nat.reduceDiv, UInt8.reduceToNat, Nat.reduceLT, d1]
theorem str_at {l : List (List UInt8)} {i : Nat} (h : i < l.length) : sub (encS l) i 1 = some [.str l[i]] := by
  rw [sub_one (by simpa [encS] using h)]; simp [encS, List.getD, h]
theorem c12 (a : List UInt8) (h : a.length ≤ 65536) (s : St) (K : AV → St → Prop) : CallW cx 12 [.str a] s K =
    K (.tuple [.mslice s.next 0 (linesB a).length (some (a.count 10 + 1)), .int .i64 0]) { heap := (s.next, .cells none (encS (splitB 10 a))) :: s.heap, next := s.next + 1, low := min s.low s.next } := by
  refine CallW.eq (CallW.fn' (fn := ir12) rfl rfl (by kernel_rfl) ir12.eq_1 ?_) K
  have d1 : decide ((65536 : Int) < (a.length : Int)) = false := decide_eq_false (by omega)
  have k := fun st K => c23 a 10 (by omega) st K
  have hlen := splitB_len 10 a
  have hcl : a.count 10 ≤ a.length := List.count_le_length
  obtain ⟨i, z, hz⟩ : ∃ i z, splitB 10 a = i ++ [z] := by
    rcases List.eq_nil_or_concat (splitB 10 a) with h | ⟨i, z, h⟩
    · exact absurd h (splitB_ne 10 a)
    · exact ⟨i, z, by simpa using h⟩
  have hil : i.length = a.count 10 := by
    have := congrArg List.length hz
    rw [hlen, List.length_append, List.length_cons, List.length_nil] at this; omega
  have w1 : IntKind.i64.wrap (((a.count 10 + 1 : Nat) : Int) - 1) = (a.count 10 : Int) := by rw [wrap_i64 (by omega) (by omega)]; omega
  have b1 : (0 : Int) ≤ (a.count 10 : Int) ∧ (a.count 10 : Int) < ((a.count 10 + 1 : Nat) : Int) := by omega
  have hs : sub (encS (splitB 10 a)) (a.count 10) 1 = some [.str z] := by
    rw [str_at (by rw [hlen]; omega)]
    have : (splitB 10 a)[a.count 10]'(by rw [hlen]; omega) = z := by
      have h2 : (splitB 10 a)[a.count 10]? = some z := by rw [hz, ← hil]; simp
      have h3 := List.getElem?_eq_getElem (l := splitB 10 a) (i := a.count 10) (by rw [hlen]; omega)
      rw [h2] at h3; exact (Option.some.inj h3).symm
    rw [this]
  have ht := trimE_take (splitB 10 a) i z hz
  have hlv : ∀ (n : Nat) (s' : St) (K : AV → St → Prop), LeaveW s s' (.tuple [.mslice s.next 0 n (some (a.count 10 + 1)), .int .i64 0]) K = K (.tuple [.mslice s.next 0 n (some (a.count 10 + 1)), .int .i64 0]) { heap := s'.heap, next := s'.next, low := min s.low s'.low } := fun n s' K => LeaveW_new rfl (by simp [AV.al, alAll, below]) K
  by_cases hzz : z = []
  · have d2 : decide (z = []) = true := decide_eq_true hzz
    have hl2 : (linesB a).length = a.count 10 := by unfold linesB; rw [ht, if_pos hzz, hil]
    have sl : sliceA 1 (.mslice s.next 0 (a.count 10 + 1) (some (a.count 10 + 1))) none (some (.int .i64 (a.count 10 : Int))) none = some (.mslice s.next 0 (a.count 10) (some (a.count 10 + 1))) := by
      simp only [sliceA, bounds]
      rw [if_pos ⟨by omega, by omega⟩]
      simp
    rw [hl2]
    simp (config := {contextual := true, implicitDefEqProofs := false, maxSteps := 4000000}) only [go_sem, ↓reduceIte, Bool.false_eq_true, Nat.reduceEqDiff, Nat.reduceAdd, Int.reduceLE, Int.reduceLT, Int.reduceEq, Int.reduceToNat, Int.toNat_natCast, Int.cast_ofNat_Int, Int.natCast_one, Nat.reduceMod, Nat.reduceDiv, UInt8.reduceToNat, Nat.reduceLT, d1, k, w1, b1, Nat_mul_one, hs, d2, sl, hlv]
  · have d2 : decide (z = []) = false := decide_eq_false hzz
    have hl2 : (linesB a).length = a.count 10 + 1 := by unfold linesB; rw [ht, if_neg hzz, hlen]
    rw [hl2]
    simp (config := {contextual := true, implicitDefEqProofs := false, maxSteps := 4000000}) only [go_sem, ↓reduceIte, Bool.false_eq_true, Nat.reduceEqDiff, Nat.reduceAdd, Int.reduceLE, Int.reduceLT, Int.reduceEq, Int.reduceToNat, Int.toNat_natCast, Int.cast_ofNat_Int, Int.natCast_one, Nat.reduceMod, Nat.reduceDiv, UInt8.reduceToNat, Nat.reduceLT, d1, k, w1, b1, Nat_mul_one, hs, d2, hlv]
/- the reference -/
theorem c13z (a : List UInt8) (h : 65536 < a.length) (s : St) (K : AV → St → Prop) : CallW cx 13 [.str a] s K = K (.tuple [.nilslice, .int .i64 7]) s := by
  refine CallW.eq (CallW.fn' (fn := ir13) rfl rfl (by kernel_rfl) ir13.eq_1 ?_) K
  have d1 : decide ((65536 : Int) < (a.length : Int)) = true := decide_eq_true (by omega)
  simp (config := {contextual := true, implicitDefEqProofs := false, maxSteps := 4000000}) only [go_sem, ↓reduceIte, Bool.false_eq_true, Nat.reduceEqDiff, Nat.reduceAdd, Int.reduceLE, Int.reduceLT, Int.reduceEq, Int.reduceToNat, Int.toNat_natCast, Int.cast_ofNat_Int, Int.natCast_one, Nat.reduceMod, Nat.reduceDiv, UInt8.reduceToNat, Nat.reduceLT, d1]
theorem cut_snoc (a : List UInt8) (p i : Nat) (h : p ≤ i) (hi : i < a.length) : cut a (p : Int) ((i + 1 : Nat) : Int) = cut a (p : Int) (i : Int) ++ [a.getD i 0] := by
  simp only [cut, Int.toNat_natCast]
  rw [show i + 1 - p = (i - p) + 1 by omega, List.take_add_one, List.getElem?_drop, show p + (i - p) = i by omega, List.getElem?_eq_getElem hi]
  simp [List.getD, hi]
theorem cut_same (a : List UInt8) (p : Nat) : cut a (p : Int) (p : Int) = [] := by simp [cut]
theorem encS_al : ∀ l : List (List UInt8), alAll (fun _ => false) (encS l) = true
  | [] => rfl
  | a :: l => by simp only [encS, List.map_cons, alAll, AV.al, Bool.true_and]; exact encS_al l
theorem one_str1 (st : St) (d : List UInt8) : cellsOf st 1 (.slice [.str d] 1 .full) = some [.str d] := by simp [cellsOf]
theorem encS_snoc (l : List (List UInt8)) (x : List UInt8) : encS l ++ [AV.str x] = encS (l ++ [x]) := by simp [encS]
theorem l13 (a : List UInt8) (hl : a.length ≤ 65536) (L : Nat) (Q : Sig → FE → St → Prop) : ∀ (n i p : Nat) (ds : List (List UInt8)) (e : FE) (st : St) (v : AV), i + n = a.length → p ≤ i → ds.length ≤ i → G2 9 1 0 0 L st v .nilslice (encS ds) ds.length [] 0 → e 0 = .str a → e 4 = v → e 5 = .int .i64 (p : Int) → e 6 = .int .i64 (i : Int) →
    (∀ e' st' v' (p' : Nat) (ds' : List (List UInt8)), G2 9 1 0 0 L st' v' .nilslice (encS ds') ds'.length [] 0 → (ds' ≠ [] → ∃ t, tokOf v' = some t) → (ds' = [] → v' = .slice [] 0 .full) → p' ≤ a.length → ds'.length ≤ a.length → ds ++ refG (cut a (p : Int) (i : Int)) (a.drop i) = ds' ++ (if p' < a.length then [a.drop p'] else []) → e' 0 = .str a → e' 4 = v' → e' 5 = .int .i64 (p' : Int) → Q (.exit 0) e' st') →
    (ds ≠ [] → ∃ t, tokOf v = some t) → (ds = [] → v = .slice [] 0 .full) → WLoop cx ir13L0 e st Q
  | 0, i, p, ds, e, st, v, hi, hp, hdi, hG, h0, h4, h5, h6, hQ, ht, hf => by
    refine WLoop.rnd (c := _) ir13L0.eq_1 ?_
    have hd : decide ((i : Int) < (a.length : Int)) = false := decide_eq_false (by omega)
    simp (config := {contextual := true, implicitDefEqProofs := false, maxSteps := 4000000}) only [go_sem, ↓reduceIte, Bool.false_eq_true, Nat.reduceEqDiff, Nat.reduceAdd, Int.reduceLE, Int.reduceLT, Int.reduceEq, Int.reduceToNat, Int.toNat_natCast, Int.cast_ofNat_Int, Int.natCast_one, Nat.reduceMod, Nat.reduceDiv, UInt8.reduceToNat, Nat.reduceLT, h0, h4, h5, h6, hd]
    refine hQ _ st v p ds hG ht hf (by omega) (by omega) ?_ h0 h4 h5
    have hia : i = a.length := by omega
    rw [List.drop_eq_nil_of_le (by omega)]
    simp only [refG]
    congr 1
    have hc : cut a (p : Int) (i : Int) = a.drop p := by
      simp only [cut, Int.toNat_natCast]; rw [List.take_of_length_le (by rw [List.length_drop]; omega)]
    rw [hc]
    by_cases hpa : p < a.length
    · rw [if_pos hpa, if_neg (fun h => by have := congrArg List.length h; rw [List.length_drop, List.length_nil] at this; omega)]
    · rw [if_neg hpa, if_pos (List.drop_eq_nil_of_le (by omega))]
  | n + 1, i, p, ds, e, st, v, hi, hp, hdi, hG, h0, h4, h5, h6, hQ, ht, hf => by
    refine WLoop.rnd (c := _) ir13L0.eq_1 ?_
    have hd : decide ((i : Int) < (a.length : Int)) = true := decide_eq_true (by omega)
    have hw := wrap_one (i := i) (by omega)
    have b1 : (0 : Int) ≤ (i : Int) := by omega
    have b2 : (i : Int) < (a.length : Int) := by omega
    rw [drop_at (a := a) (i := i) (by omega)] at hQ
    simp only [refG] at hQ
    have hsn := cut_snoc a p i hp (by omega)
    obtain ⟨c, hc⟩ : ∃ c, a.getD i 0 = c := ⟨_, rfl⟩
    rw [hc] at hQ hsn
    by_cases hx : c = 10
    · have d1 : decide (((c.toNat : Nat) : Int) = 10) = true := by rw [hx]; rfl
      rw [if_pos hx] at hQ
      have sk : slOk a.length (p : Int) (i : Int) := ⟨by omega, by omega, by omega⟩
      obtain ⟨v', st', ap, G', lw, _, ps, tk, nx⟩ := hG.app1 (bytes := 16) (k := 1) (y := .slice [.str (cut a (p : Int) (i : Int))] 1 .full) (new := [.str (cut a (p : Int) (i : Int))]) (one_str1 _ _) rfl rfl rfl (Nat.le_trans (show (ds.length + 1) * 16 ≤ 20000000 by omega) (by decide))
      simp only [List.map_cons, List.map_nil, strip_str, encS_snoc] at G'
      simp (config := {contextual := true, implicitDefEqProofs := false, maxSteps := 4000000}) only [go_sem, ↓reduceIte, Bool.false_eq_true, Nat.reduceEqDiff, Nat.reduceAdd, Int.reduceLE, Int.reduceLT, Int.reduceEq, Int.reduceToNat, Int.toNat_natCast, Int.cast_ofNat_Int, Int.natCast_one, Nat.reduceMod, Nat.reduceDiv, UInt8.reduceToNat, Nat.reduceLT, h0, h4, h5, h6, hd, b1, b2, hc, d1, sk, ap, hw]
      have hl1 : (ds ++ [cut a (p : Int) (i : Int)]).length = ds.length + 1 := by simp
      refine l13 a hl L Q n (i + 1) (i + 1) (ds ++ [cut a (p : Int) (i : Int)]) _ st' v' (by omega) (Nat.le_refl _) (by rw [hl1]; omega) (by rw [hl1]; exact G') h0 rfl rfl rfl ?_ (fun _ => tk (by decide)) (fun h => by simp at h)
      intro e' st'' v'' p' ds' g1 g2 g3 g4 g5 g6
      refine hQ e' st'' v'' p' ds' g1 g2 g3 g4 g5 ?_
      rw [← g6, cut_same]; simp
    · have d1 : decide (((c.toNat : Nat) : Int) = 10) = false := by
        simp only [decide_eq_false_iff_not]; intro h; exact hx (byte_eq (n := 10) h)
      rw [if_neg hx] at hQ
      simp (config := {contextual := true, implicitDefEqProofs := false, maxSteps := 4000000}) only [go_sem, ↓reduceIte, Bool.false_eq_true, Nat.reduceEqDiff, Nat.reduceAdd, Int.reduceLE, Int.reduceLT, Int.reduceEq, Int.reduceToNat, Int.toNat_natCast, Int.cast_ofNat_Int, Int.natCast_one, Nat.reduceMod, Nat.reduceDiv, UInt8.reduceToNat, Nat.reduceLT, h0, h4, h5, h6, hd, b1, b2, hc, d1, hw]
      refine l13 a hl L Q n (i + 1) p ds _ st v (by omega) (by omega) (by omega) hG h0 h4 h5 rfl ?_ ht hf
      intro e' st'' v'' p' ds' g1 g2 g3 g4 g5 g6
      exact hQ e' st'' v'' p' ds' g1 g2 g3 g4 g5 (by rw [← g6, hsn])
theorem drS {v : AV} {L : Nat} {st : St} {l : List (List UInt8)} (hG : G2 9 1 0 0 L st v .nilslice (encS l) l.length [] 0) (ht : l ≠ [] → ∃ t, tokOf v = some t) (hf : l = [] → v = .slice [] 0 .full) : v.dr = .slice (encS l) l.length (if l = [] then .full else .no) := by
  by_cases h : l = []
  · rw [hf h, h]; rfl
  · obtain ⟨t, h2⟩ := ht h
    rw [if_neg h, tok_shape hG.a h2]; rfl
theorem c13 (a : List UInt8) (h : a.length ≤ 65536) (s : St) (K : AV → St → Prop) : CallW cx 13 [.str a] s K = K (.tuple [.slice (encS (linesB a)) (linesB a).length (if linesB a = [] then .full else .no), .int .i64 0]) s := by
  refine CallW.eq (CallW.fn' (fn := ir13) rfl rfl (by kernel_rfl) ir13.eq_1 ?_) K
  have d1 : decide ((65536 : Int) < (a.length : Int)) = false := decide_eq_false (by omega)
  simp (config := {contextual := true, implicitDefEqProofs := false, maxSteps := 4000000}) only [go_sem, ↓reduceIte, Bool.false_eq_true, Nat.reduceEqDiff, Nat.reduceAdd, Int.reduceLE, Int.reduceLT, Int.reduceEq, Int.reduceToNat, Int.toNat_natCast, Int.cast_ofNat_Int, Int.natCast_one, Nat.reduceMod, Nat.reduceDiv, UInt8.reduceToNat, Nat.reduceLT, d1]
  refine l13 a h s.next _ a.length 0 0 [] _ { heap := s.heap, next := s.next, low := s.next } (.slice [] 0 .full) (by omega) (Nat.le_refl _) (Nat.le_refl _) ⟨Gr.full rfl, Gr.nil, fun t h => (by cases h), fun t h => (by cases h), fun t h => (by cases h), Nat.le_refl _, Nat.le_refl _⟩ rfl rfl rfl rfl ?_ (fun h => absurd rfl h) (fun _ => rfl)
  intro e' st' v' p' ds' hG ht hf hp' hdl heq h0 h4 h5
  rw [List.nil_append, cut_same, List.drop_zero, refG_lines] at heq
  have hlv : ∀ (st' : St) (v : AV) (l : List (List UInt8)), G2 9 1 0 0 s.next st' v .nilslice (encS l) l.length [] 0 → (l ≠ [] → ∃ t, tokOf v = some t) → (l = [] → v = .slice [] 0 .full) → ∀ K : AV → St → Prop, LeaveW s st' (.tuple [v, .int .i64 0]) K = K (.tuple [.slice (encS l) l.length (if l = [] then .full else .no), .int .i64 0]) s := by
    intro st' v l hG ht hf K
    rw [LeaveW_tfree (by simp only [List.all_cons, List.all_nil, hG.a.free hG.la (encS_al _), Bool.and_true]; rfl) hG.low]
    simp only [List.map_cons, List.map_nil, drS hG ht hf]; rfl
  by_cases hpa : p' < a.length
  · have d2 : decide ((p' : Int) < (a.length : Int)) = true := decide_eq_true (by omega)
    have b1 : (0 : Int) ≤ (p' : Int) ∧ (p' : Int) ≤ (a.length : Int) := by omega
    rw [if_pos hpa] at heq
    obtain ⟨v2, st2, ap, G', lw, _, ps, tk, nx⟩ := hG.app1 (bytes := 16) (k := 1) (y := .slice [.str (a.drop p')] 1 .full) (new := [.str (a.drop p')]) (one_str1 _ _) rfl rfl rfl (Nat.le_trans (show (ds'.length + 1) * 16 ≤ 20000000 by omega) (by decide))
    simp only [List.map_cons, List.map_nil, strip_str, encS_snoc] at G'
    have hl1 : (ds' ++ [a.drop p']).length = ds'.length + 1 := by simp
    rw [← hl1] at G'
    have hl := hlv st2 v2 _ G' (fun _ => tk (by decide)) (fun h => by simp at h)
    rw [heq]
    simp (config := {contextual := true, implicitDefEqProofs := false, maxSteps := 4000000}) only [go_sem, ↓reduceIte, Bool.false_eq_true, Nat.reduceEqDiff, Nat.reduceAdd, Int.reduceLE, Int.reduceLT, Int.reduceEq, Int.reduceToNat, Int.toNat_natCast, Int.cast_ofNat_Int, Int.natCast_one, Nat.reduceMod, Nat.reduceDiv, UInt8.reduceToNat, Nat.reduceLT, h0, h4, h5, d2, b1, ap, hl]
  · have d2 : decide ((p' : Int) < (a.length : Int)) = false := decide_eq_false (by omega)
    rw [if_neg hpa, List.append_nil] at heq
    have hl := hlv st' v' ds' hG ht hf
    rw [heq]
    simp (config := {contextual := true, implicitDefEqProofs := false, maxSteps := 4000000}) only [go_sem, ↓reduceIte, Bool.false_eq_true, Nat.reduceEqDiff, Nat.reduceAdd, Int.reduceLE, Int.reduceLT, Int.reduceEq, Int.reduceToNat, Int.toNat_natCast, Int.cast_ofNat_Int, Int.natCast_one, Nat.reduceMod, Nat.reduceDiv, UInt8.reduceToNat, Nat.reduceLT, h0, h4, h5, d2, hl]
theorem c7z (h : List (Nat × AObj)) (l : Nat) (K : AV → St → Prop) : CallW cx 7 [] { heap := h, next := 0, low := l } K = K (.bool true) { heap := h, next := 0, low := l } :=
  CallW.eq ⟨1000, _, _, awake_run0 h l, rfl, rfl⟩ K
theorem trimE_get (l : List (List UInt8)) (i : Nat) (h : i < (trimE l).length) : ∃ h2 : i < l.length, l[i] = (trimE l)[i] := by
  have key : l[i]? = some (trimE l)[i] := by
    rw [← List.getElem?_eq_getElem h]
    rcases List.eq_nil_or_concat l with hn | ⟨m, z, hz⟩
    · subst hn; simp [trimE] at h
    · have hz : l = m ++ [z] := by simpa using hz
      have ht := trimE_take l m z hz
      by_cases hzz : z = []
      · rw [if_pos hzz] at ht
        have hi : i < m.length := by rw [ht] at h; exact h
        rw [ht, hz, List.getElem?_append_left hi]
      · rw [if_neg hzz] at ht
        rw [ht]
  obtain ⟨h2, h3⟩ := List.getElem?_eq_some_iff.1 key
  exact ⟨h2, h3⟩
theorem l6 (l full : List (List UInt8)) (c : Nat) (hl : l.length ≤ 1000000) (hsub : ∀ i (h : i < l.length), sub (encS full) i 1 = some [.str l[i]]) (o : Own) (st : St) (hlk : Fw.look 0 st.heap = some (.cells none (encS full))) (Q : Sig → FE → St → Prop) : ∀ (n i : Nat) (e : FE), i + n = l.length → e 3 = .mslice 0 0 l.length (some c) → e 5 = .slice (encS l) l.length o → e 7 = .int .i64 (i : Int) → (∀ e', Q (.exit 0) e' st) → WLoop cx ir6L0 e st Q
  | 0, i, e, hi, h3, h5, h7, hQ => by
    refine WLoop.rnd (c := _) ir6L0.eq_1 ?_
    have hd : decide ((i : Int) < (l.length : Int)) = false := decide_eq_false (by omega)
    simp (config := {contextual := true, implicitDefEqProofs := false, maxSteps := 4000000}) only [go_sem, ↓reduceIte, Bool.false_eq_true, Nat.reduceEqDiff, Nat.reduceAdd, Int.reduceLE, Int.reduceLT, Int.reduceEq, Int.reduceToNat, Int.toNat_natCast, Int.cast_ofNat_Int, Int.natCast_one, Nat.reduceMod, Nat.reduceDiv, UInt8.reduceToNat, Nat.reduceLT, h3, h5, h7, hd]
    exact hQ _
  | n + 1, i, e, hi, h3, h5, h7, hQ => by
    refine WLoop.rnd (c := _) ir6L0.eq_1 ?_
    have hd : decide ((i : Int) < (l.length : Int)) = true := decide_eq_true (by omega)
    have hw := wrap_one (i := i) (by omega)
    have b1 : (0 : Int) ≤ (i : Int) ∧ (i : Int) < (l.length : Int) := by omega
    have hlt : i < l.length := by omega
    have s1 := hsub i hlt
    have s2 := str_at hlt
    obtain ⟨x, hx⟩ : ∃ x, l[i] = x := ⟨_, rfl⟩
    rw [hx] at s1 s2
    have d2 : decide (x ≠ x) = false := by simp
    simp (config := {contextual := true, implicitDefEqProofs := false, maxSteps := 4000000}) only [go_sem, ↓reduceIte, Bool.false_eq_true, Nat.reduceEqDiff, Nat.reduceAdd, Int.reduceLE, Int.reduceLT, Int.reduceEq, Int.reduceToNat, Int.toNat_natCast, Int.cast_ofNat_Int, Int.natCast_one, Nat.reduceMod, Nat.reduceDiv, UInt8.reduceToNat, Nat.reduceLT, h3, h5, h7, hd, b1, Nat_mul_one, hlk, s1, s2, d2, hw]
    exact l6 l full c hl hsub o st hlk Q n (i + 1) _ (by omega) h3 h5 rfl hQ
theorem law6 (a : List UInt8) : CallW cx 6 [.str a] { heap := [], next := 0, low := 0 } fun v _ => v = .bool true := by
  refine CallW.fn' (fn := ir6) rfl rfl (by kernel_rfl) ir6.eq_1 ?_
  by_cases h1 : 65536 < a.length
  · have d1 : decide ((3000 : Int) < (a.length : Int)) = true := decide_eq_true (by omega)
    have d2 : decide ((a.length : Int) ≤ 65536) = false := decide_eq_false (by omega)
    have k1 := fun st K => c12z a h1 st K
    have k2 := fun st K => c13z a h1 st K
    simp (config := {contextual := true, implicitDefEqProofs := false, maxSteps := 4000000}) only [go_sem, ↓reduceIte, Bool.false_eq_true, Nat.reduceEqDiff, Nat.reduceAdd, Int.reduceLE, Int.reduceLT, Int.reduceEq, Int.reduceToNat, Int.toNat_natCast, Int.cast_ofNat_Int, Int.natCast_one, Nat.reduceMod, Nat.reduceDiv, UInt8.reduceToNat, Nat.reduceLT, c7z, d1, d2, k1, k2, show decide ((7 : Int) ≠ 7) = false from rfl, show decide ((0 : Int) ≠ 0) = false from rfl]
    refine WLoop.rnd (c := _) ir6L0.eq_1 ?_
    simp (config := {contextual := true, implicitDefEqProofs := false, maxSteps := 4000000}) only [go_sem, ↓reduceIte, Bool.false_eq_true, Nat.reduceEqDiff, Nat.reduceAdd, Int.reduceLE, Int.reduceLT, Int.reduceEq, Int.reduceToNat, Int.toNat_natCast, Int.cast_ofNat_Int, Int.natCast_one, Nat.reduceMod, Nat.reduceDiv, UInt8.reduceToNat, Nat.reduceLT]
  · have d2 : decide ((a.length : Int) ≤ 65536) = true := decide_eq_true (by omega)
    by_cases h2 : 3000 < a.length
    · have d1 : decide ((3000 : Int) < (a.length : Int)) = true := decide_eq_true (by omega)
      simp (config := {contextual := true, implicitDefEqProofs := false, maxSteps := 4000000}) only [go_sem, ↓reduceIte, Bool.false_eq_true, Nat.reduceEqDiff, Nat.reduceAdd, Int.reduceLE, Int.reduceLT, Int.reduceEq, Int.reduceToNat, Int.toNat_natCast, Int.cast_ofNat_Int, Int.natCast_one, Nat.reduceMod, Nat.reduceDiv, UInt8.reduceToNat, Nat.reduceLT, c7z, d1, d2]
    · have d1 : decide ((3000 : Int) < (a.length : Int)) = false := decide_eq_false (by omega)
      have k1 := fun st K => c12 a (by omega) st K
      have k2 := fun st K => c13 a (by omega) st K
      have hlen := lines_le a
      have z : ∀ n : Int, decide (n ≠ n) = false := fun n => by simp
      simp (config := {contextual := true, implicitDefEqProofs := false, maxSteps := 4000000}) only [go_sem, ↓reduceIte, Bool.false_eq_true, Nat.reduceEqDiff, Nat.reduceAdd, Int.reduceLE, Int.reduceLT, Int.reduceEq, Int.reduceToNat, Int.toNat_natCast, Int.cast_ofNat_Int, Int.natCast_one, Nat.reduceMod, Nat.reduceDiv, UInt8.reduceToNat, Nat.reduceLT, c7z, d1, k1, k2, z]
      refine l6 (linesB a) (splitB 10 a) (a.count 10 + 1) (by omega) (fun i hi => ?_) _ _ (by simp only [Fw.look, if_true]) _ (linesB a).length 0 _ (by omega) rfl rfl rfl ?_
      · obtain ⟨h3, h4⟩ := trimE_get (splitB 10 a) i hi
        rw [str_at h3, h4]; rfl
      · intro e'
        simp (config := {contextual := true, implicitDefEqProofs := false, maxSteps := 4000000}) only [go_sem, ↓reduceIte, Bool.false_eq_true, Nat.reduceEqDiff, Nat.reduceAdd, Int.reduceLE, Int.reduceLT, Int.reduceEq, Int.reduceToNat, Int.toNat_natCast, Int.cast_ofNat_Int, Int.natCast_one, Nat.reduceMod, Nat.reduceDiv, UInt8.reduceToNat, Nat.reduceLT]
theorem hlaw6 (as0 : List AV) (h : TyArgs Tryd.prog Tryd.f6.params.toList as0) : ∃ k s', callF cx k 6 as0 st0 = some (.bool true, s') := by
  obtain ⟨a1, r1, rfl, h1, h6⟩ : ∃ a1 r1, as0 = a1 :: r1 ∧ TyArg Tryd.prog 9 a1 ∧ r1 = [] := h
  subst h6
  obtain ⟨s, rfl, _⟩ := TyArg_string Tryd.underlying9 h1
  obtain ⟨k', v, s', h9, rfl⟩ := law6 s
  exact ⟨k', s', h9⟩
end T07
