/- Parts of the proof, one behind the other. -/
import Derived.Test.YtaoeokelalmcmaaGreatDoorKA
import Derived.Test.YtaoeokelalmcmaaGreatDoorKB
import Derived.Lib.SlTrimSet
import Derived.Test.YtaoeokelalmcmaaGreatDoorFwX
set_option linter.unusedSimpArgs false
set_option linter.unusedVariables false
set_option linter.unusedSectionVars false

namespace T06
variable [Mm]
open Go Fw Go.Proofs
set_option maxRecDepth 100000
set_option maxHeartbeats 8000000
theorem c79 (b : List UInt8) (c : Nat) (hc : c ≤ 1000) (hb : b.length ≤ 1000) (s : St) (K : AV → St → Prop) : CallW cx 79 [.str b, .int .i64 (c : Int)] s K = K (.str (Lib.repeatL b c)) s := by
  have hm : b.length * c ≤ 1000 * 1000 := Nat.mul_le_mul hb hc
  refine CallW.eq (CallW.ext (g := xRepeat) rfl ?_) K
  unfold xRepeat
  simp only
  rw [if_pos ⟨by omega, by omega, by rw [Int.toNat_natCast]; omega⟩, Int.toNat_natCast]
  exact ⟨rfl, rfl⟩
def pad2 (n : Nat) : List UInt8 := [UInt8.ofNat (48 + n / 10 % 10), UInt8.ofNat (48 + n % 10)]
def pad4 (n : Nat) : List UInt8 := pad2 (n / 100) ++ pad2 n
theorem pad2_dec : ∀ n : Fin 100, Lib.repeatL [48] (2 - (dec n.val).length) ++ dec n.val = pad2 n.val ∧ (dec n.val).length ≤ 2 := by decide +kernel
theorem pad4_dec : ∀ n : Fin 200, Lib.repeatL [48] (4 - (dec (2000 + n.val)).length) ++ dec (2000 + n.val) = pad4 (2000 + n.val) ∧ (dec (2000 + n.val)).length ≤ 4 := by decide +kernel
theorem c67 (n k : Nat) (hn : n ≤ 9999) (hk : k ≤ 100) (hl : (dec n).length ≤ k) (s : St) (K : AV → St → Prop) : CallW cx 67 [.int .i64 (n : Int), .int .i64 (k : Int)] s K = K (.str (Lib.repeatL [48] (k - (dec n).length) ++ dec n)) s := by
  refine CallW.eq (CallW.fn' (fn := ir67) rfl rfl (by kernel_rfl) ir67.eq_1 ?_) K
  have k1 := fun st K => c46 n (by omega) st K
  have w1 : IntKind.i64.wrap ((k : Int) - ((dec n).length : Int)) = ((k - (dec n).length : Nat) : Int) := by rw [wrap_i64 (by omega) (by omega)]; omega
  have m1 : max (0 : Int) ((k - (dec n).length : Nat) : Int) = ((k - (dec n).length : Nat) : Int) := by omega
  have k2 := fun st K => c79 [48] (k - (dec n).length) (by omega) (by simp) st K
  have hrl := Lib.repeatL_length [48] (k - (dec n).length)
  have hr : (Lib.repeatL [48] (k - (dec n).length)).length + (dec n).length ≤ 9223372036854775807 := by rw [hrl]; simp; omega
  simp +contextual -implicitDefEqProofs (maxSteps := 4000000) only [go_sem, ↓reduceIte, Nat.reduceEqDiff, Nat.reduceAdd, Int.reduceLE, Int.reduceLT, Int.reduceEq, Int.reduceToNat, Nat.reduceMod, Nat.reduceDiv, UInt8.reduceToNat, Nat.reduceLT, k1, w1, m1, k2, hr]
theorem c672 (n : Nat) (hn : n < 100) (s : St) (K : AV → St → Prop) : CallW cx 67 [.int .i64 (n : Int), .int .i64 2] s K = K (.str (pad2 n)) s := by
  obtain ⟨e1, e2⟩ := pad2_dec ⟨n, hn⟩
  simp only at e1 e2
  have := c67 n 2 (by omega) (by omega) e2 s K
  rw [e1] at this
  exact this
theorem c674 (n : Nat) (h1 : 2000 ≤ n) (h2 : n < 2200) (s : St) (K : AV → St → Prop) : CallW cx 67 [.int .i64 (n : Int), .int .i64 4] s K = K (.str (pad4 n)) s := by
  obtain ⟨e1, e2⟩ := pad4_dec ⟨n - 2000, by omega⟩
  simp only at e1 e2
  rw [show 2000 + (n - 2000) = n by omega] at e1 e2
  have := c67 n 4 (by omega) (by omega) e2 s K
  rw [e1] at this
  exact this
end T06


namespace T06
variable [Mm]
open Go Fw Go.Proofs
set_option maxRecDepth 100000
set_option maxHeartbeats 8000000
def esY : List (AV × AV) := [(.int .i64 0, .str [42])]
def esM : List (AV × AV) := [(.int .i64 0, .str [42]), (.int .i64 13, .str [111, 100, 100]), (.int .i64 14, .str [101, 118, 101, 110])]
def esD : List (AV × AV) := [(.int .i64 0, .str [42]), (.int .i64 32, .str [108, 97, 115, 116]), (.int .i64 33, .str [111, 100, 100]), (.int .i64 34, .str [101, 118, 101, 110])]
theorem mp_cons (n k : Int) (v u : AV) (es : List (AV × AV)) : mapPut .int (.int .i64 n) v ((.int .i64 k, u) :: es) = if n = k then some ((.int .i64 n, v) :: es) else (mapPut .int (.int .i64 n) v es).map ((.int .i64 k, u) :: ·) := by
  simp only [mapPut, cellEqK]
  by_cases e : n = k
  · subst e; simp
  · have h' : (n == k) = false := by simpa using e
    simp [h', e]
theorem c43 (h : List (Nat × AObj)) (N l : Nat) (hl : l ≤ N) (K : AV → St → Prop) : CallW cx 43 [] { heap := h, next := N, low := l } K = K (.map N) { heap := (N, .map esY) :: h, next := N + 1, low := l } := by
  refine CallW.eq (CallW.fn' (fn := ir43) rfl rfl (by kernel_rfl) ir43.eq_1 ?_) K
  have hmin : min l N = l := by omega
  have hlv : ∀ (s' : St) (K : AV → St → Prop), LeaveW { heap := h, next := N, low := l } s' (.map N) K = K (.map N) { heap := s'.heap, next := s'.next, low := min l s'.low } := fun s' K => LeaveW_map (Nat.le_refl _) K
  simp +contextual -implicitDefEqProofs (maxSteps := 4000000) only [go_sem, ↓reduceIte, Nat.reduceEqDiff, Nat.reduceAdd, Int.reduceLE, Int.reduceLT, Int.reduceEq, Int.reduceToNat, Nat.reduceMod, Nat.reduceDiv, UInt8.reduceToNat, Nat.reduceLT, hlv, hmin, Nat.min_self, mp_cons, Option.map_some]
  rfl
theorem c44 (h : List (Nat × AObj)) (N l : Nat) (hl : l ≤ N) (K : AV → St → Prop) : CallW cx 44 [] { heap := h, next := N, low := l } K = K (.map N) { heap := (N, .map esM) :: h, next := N + 1, low := l } := by
  refine CallW.eq (CallW.fn' (fn := ir44) rfl rfl (by kernel_rfl) ir44.eq_1 ?_) K
  have hmin : min l N = l := by omega
  have hlv : ∀ (s' : St) (K : AV → St → Prop), LeaveW { heap := h, next := N, low := l } s' (.map N) K = K (.map N) { heap := s'.heap, next := s'.next, low := min l s'.low } := fun s' K => LeaveW_map (Nat.le_refl _) K
  simp +contextual -implicitDefEqProofs (maxSteps := 4000000) only [go_sem, ↓reduceIte, Nat.reduceEqDiff, Nat.reduceAdd, Int.reduceLE, Int.reduceLT, Int.reduceEq, Int.reduceToNat, Nat.reduceMod, Nat.reduceDiv, UInt8.reduceToNat, Nat.reduceLT, hlv, hmin, Nat.min_self, mp_cons, Option.map_some]
  rfl
theorem c45 (h : List (Nat × AObj)) (N l : Nat) (hl : l ≤ N) (K : AV → St → Prop) : CallW cx 45 [] { heap := h, next := N, low := l } K = K (.map N) { heap := (N, .map esD) :: h, next := N + 1, low := l } := by
  refine CallW.eq (CallW.fn' (fn := ir45) rfl rfl (by kernel_rfl) ir45.eq_1 ?_) K
  have hmin : min l N = l := by omega
  have hlv : ∀ (s' : St) (K : AV → St → Prop), LeaveW { heap := h, next := N, low := l } s' (.map N) K = K (.map N) { heap := s'.heap, next := s'.next, low := min l s'.low } := fun s' K => LeaveW_map (Nat.le_refl _) K
  simp +contextual -implicitDefEqProofs (maxSteps := 4000000) only [go_sem, ↓reduceIte, Nat.reduceEqDiff, Nat.reduceAdd, Int.reduceLE, Int.reduceLT, Int.reduceEq, Int.reduceToNat, Nat.reduceMod, Nat.reduceDiv, UInt8.reduceToNat, Nat.reduceLT, hlv, hmin, Nat.min_self, mp_cons, Option.map_some]
  rfl
theorem part_hit (n k : Int) (id : Nat) (es : List (AV × AV)) (w : List UInt8) (st : St) (hlk : Fw.look id st.heap = some (.map es)) (hm : mapFind .int (.int .i64 n) es = some (some (.str w))) (K : AV → St → Prop) : CallW cx 42 [.int .i64 n, .int .i64 k, .map id] st K = K (.str w) st := by
  refine CallW.eq (CallW.fn' (fn := ir42) rfl rfl (by kernel_rfl) ir42.eq_1 ?_) K
  simp +contextual -implicitDefEqProofs (maxSteps := 4000000) only [go_sem, ↓reduceIte, Nat.reduceEqDiff, Nat.reduceAdd, Int.reduceLE, Int.reduceLT, Int.reduceEq, Int.reduceToNat, Nat.reduceMod, Nat.reduceDiv, UInt8.reduceToNat, Nat.reduceLT, hlk, entM, hm, Option.getD_some, Option.isSome_some]
theorem part_miss (n k : Int) (id : Nat) (es : List (AV × AV)) (w : List UInt8) (st : St) (hlk : Fw.look id st.heap = some (.map es)) (hm : mapFind .int (.int .i64 n) es = some none) (kd : ∀ st K, CallW cx 67 [.int .i64 n, .int .i64 k] st K = K (.str w) st) (K : AV → St → Prop) : CallW cx 42 [.int .i64 n, .int .i64 k, .map id] st K = K (.str w) st := by
  refine CallW.eq (CallW.fn' (fn := ir42) rfl rfl (by kernel_rfl) ir42.eq_1 ?_) K
  simp +contextual -implicitDefEqProofs (maxSteps := 4000000) only [go_sem, ↓reduceIte, Nat.reduceEqDiff, Nat.reduceAdd, Int.reduceLE, Int.reduceLT, Int.reduceEq, Int.reduceToNat, Nat.reduceMod, Nat.reduceDiv, UInt8.reduceToNat, Nat.reduceLT, hlk, entM, hm, kd, Option.getD_none, Option.isSome_none]
def yearT (n : Int) : List UInt8 := if n = 0 then [42] else pad4 n.toNat
def monT (n : Int) : List UInt8 := if n = 0 then [42] else if n = 13 then [111, 100, 100] else if n = 14 then [101, 118, 101, 110] else pad2 n.toNat
def dayT (n : Int) : List UInt8 := if n = 0 then [42] else if n = 32 then [108, 97, 115, 116] else if n = 33 then [111, 100, 100] else if n = 34 then [101, 118, 101, 110] else pad2 n.toNat
theorem mf_nil (n : Int) : mapFind .int (.int .i64 n) [] = some none := rfl
theorem mf_cons (n k : Int) (v : AV) (es : List (AV × AV)) : mapFind .int (.int .i64 n) ((.int .i64 k, v) :: es) = if n = k then some (some v) else mapFind .int (.int .i64 n) es := mapFind_int .i64 .i64 n k v es rfl
theorem year_part (n : Int) (h : n = 0 ∨ 2000 ≤ n ∧ n ≤ 2199) (id : Nat) (st : St) (hlk : Fw.look id st.heap = some (.map esY)) (K : AV → St → Prop) : CallW cx 42 [.int .i64 n, .int .i64 4, .map id] st K = K (.str (yearT n)) st := by
  unfold yearT
  by_cases h0 : n = 0
  · rw [if_pos h0]; exact part_hit n 4 id esY [42] st hlk (by simp only [esY, mf_cons, if_pos h0]) K
  · rw [if_neg h0]
    refine part_miss n 4 id esY _ st hlk (by simp only [esY, mf_cons, mf_nil, if_neg h0]) (fun st K => ?_) K
    have := c674 n.toNat (by omega) (by omega) st K
    rwa [show ((n.toNat : Nat) : Int) = n by omega] at this
theorem mon_part (n : Int) (h0' : 0 ≤ n) (h1' : n ≤ 14) (id : Nat) (st : St) (hlk : Fw.look id st.heap = some (.map esM)) (K : AV → St → Prop) : CallW cx 42 [.int .i64 n, .int .i64 2, .map id] st K = K (.str (monT n)) st := by
  unfold monT
  by_cases h0 : n = 0
  · rw [if_pos h0]; exact part_hit n 2 id esM [42] st hlk (by simp only [esM, mf_cons, if_pos h0]) K
  rw [if_neg h0]
  by_cases h1 : n = 13
  · rw [if_pos h1]; exact part_hit n 2 id esM _ st hlk (by simp only [esM, mf_cons, if_neg h0, if_pos h1]) K
  rw [if_neg h1]
  by_cases h2 : n = 14
  · rw [if_pos h2]; exact part_hit n 2 id esM _ st hlk (by simp only [esM, mf_cons, if_neg h0, if_neg h1, if_pos h2]) K
  rw [if_neg h2]
  refine part_miss n 2 id esM _ st hlk (by simp only [esM, mf_cons, mf_nil, if_neg h0, if_neg h1, if_neg h2]) (fun st K => ?_) K
  have := c672 n.toNat (by omega) st K
  rwa [show ((n.toNat : Nat) : Int) = n by omega] at this
theorem day_part (n : Int) (h0' : 0 ≤ n) (h1' : n ≤ 34) (id : Nat) (st : St) (hlk : Fw.look id st.heap = some (.map esD)) (K : AV → St → Prop) : CallW cx 42 [.int .i64 n, .int .i64 2, .map id] st K = K (.str (dayT n)) st := by
  unfold dayT
  by_cases h0 : n = 0
  · rw [if_pos h0]; exact part_hit n 2 id esD [42] st hlk (by simp only [esD, mf_cons, if_pos h0]) K
  rw [if_neg h0]
  by_cases h1 : n = 32
  · rw [if_pos h1]; exact part_hit n 2 id esD _ st hlk (by simp only [esD, mf_cons, if_neg h0, if_pos h1]) K
  rw [if_neg h1]
  by_cases h2 : n = 33
  · rw [if_pos h2]; exact part_hit n 2 id esD _ st hlk (by simp only [esD, mf_cons, if_neg h0, if_neg h1, if_pos h2]) K
  rw [if_neg h2]
  by_cases h3 : n = 34
  · rw [if_pos h3]; exact part_hit n 2 id esD _ st hlk (by simp only [esD, mf_cons, if_neg h0, if_neg h1, if_neg h2, if_pos h3]) K
  rw [if_neg h3]
  refine part_miss n 2 id esD _ st hlk (by simp only [esD, mf_cons, mf_nil, if_neg h0, if_neg h1, if_neg h2, if_neg h3]) (fun st K => ?_) K
  have := c672 n.toNat (by omega) st K
  rwa [show ((n.toNat : Nat) : Int) = n by omega] at this
theorem pad2_len (n : Nat) : (pad2 n).length = 2 := rfl
theorem pad4_len (n : Nat) : (pad4 n).length = 4 := rfl
def endT (t : Dt) : List UInt8 := if t = noD then [42] else pad4 t.y.toNat ++ [45] ++ pad2 t.m.toNat ++ [45] ++ pad2 t.d.toNat
theorem c41 (t : Dt) (h : t = noD ∨ chkD t = 0) (s : St) (K : AV → St → Prop) : CallW cx 41 [.agg [.int .i64 t.y, .int .i64 t.m, .int .i64 t.d]] s K = K (.str (endT t)) s := by
  refine CallW.eq (CallW.fn' (fn := ir41) rfl rfl (by kernel_rfl) ir41.eq_1 ?_) K
  unfold endT
  by_cases ht : t = noD
  · have htd := decide_eq_true ht
    rw [if_pos ht]
    simp +contextual -implicitDefEqProofs (maxSteps := 4000000) only [go_sem, ↓reduceIte, Nat.reduceEqDiff, Nat.reduceAdd, Int.reduceLE, Int.reduceLT, Int.reduceEq, Int.reduceToNat, Nat.reduceMod, Nat.reduceDiv, UInt8.reduceToNat, Nat.reduceLT, eq_noD, eta_D, htd]
  · have htd := decide_eq_false ht
    rw [if_neg ht]
    obtain ⟨hv, hy⟩ := chkD_ok (h.resolve_left ht)
    have v1 := hv.y; have v2 := hv.m1; have v3 := hv.m2; have v4 := hv.d1; have v5 := hv.d2; have v6 := (din_pos (y := t.y) v2 v3).2
    have k1 := fun st K => c674 t.y.toNat (by omega) (by omega) st K
    have k2 := fun st K => c672 t.m.toNat (by omega) st K
    have k3 := fun st K => c672 t.d.toNat (by omega) st K
    rw [show ((t.y.toNat : Nat) : Int) = t.y by omega] at k1
    rw [show ((t.m.toNat : Nat) : Int) = t.m by omega] at k2
    rw [show ((t.d.toNat : Nat) : Int) = t.d by omega] at k3
    simp +contextual -implicitDefEqProofs (maxSteps := 4000000) only [go_sem, ↓reduceIte, Nat.reduceEqDiff, Nat.reduceAdd, Int.reduceLE, Int.reduceLT, Int.reduceEq, Int.reduceToNat, Nat.reduceMod, Nat.reduceDiv, UInt8.reduceToNat, Nat.reduceLT, eq_noD, eta_D, htd, k1, k2, k3, pad4_len, pad2_len, List.length_append, List.length_cons, List.length_nil, Nat.reduceLeDiff]
end T06


namespace T06
variable [Mm]
open Go Fw Go.Proofs
set_option maxRecDepth 100000
set_option maxHeartbeats 8000000
def wordOf (w : Int) : List UInt8 := words.getD w.toNat []
def wkT (w : Int) : List UInt8 := if w = 0 then [] else 32 :: wordOf w
def weT (k : Int) : List UInt8 := if k = 0 then [] else if k = 6 then [32, 119, 101, 101, 107, 32, 108, 97, 115, 116] else [32, 119, 101, 101, 107, 32, UInt8.ofNat (48 + k.toNat)]
def ymdT (p : Pat) : List UInt8 := yearT p.y ++ [45] ++ monT p.m ++ [45] ++ dayT p.d
def textB (p : Pat) : List UInt8 :=
  if isR p = true then endT p.f ++ [32, 116, 111, 32] ++ endT p.t else ymdT p ++ wkT p.w ++ weT p.k
theorem endT_len (t : Dt) : (endT t).length ≤ 10 := by
  unfold endT; split
  · decide
  · simp [pad4_len, pad2_len]
theorem yearT_len (n : Int) : (yearT n).length ≤ 4 := by
  unfold yearT; split
  · decide
  · rw [pad4_len]; omega
theorem monT_len (n : Int) : (monT n).length ≤ 4 := by
  unfold monT; repeat' split
  all_goals first | decide | (rw [pad2_len]; omega)
theorem dayT_len (n : Int) : (dayT n).length ≤ 4 := by
  unfold dayT; repeat' split
  all_goals first | decide | (rw [pad2_len]; omega)
theorem word_len : ∀ n : Fin 8, (words.getD n.val []).length ≤ 3 := by decide +kernel
theorem word_get : ∀ n : Fin 8, sub (words.map AV.str) n.val 1 = some [.str (words.getD n.val [])] := by
  intro n; match n with
  | ⟨0, _⟩ => rfl | ⟨1, _⟩ => rfl | ⟨2, _⟩ => rfl | ⟨3, _⟩ => rfl | ⟨4, _⟩ => rfl | ⟨5, _⟩ => rfl | ⟨6, _⟩ => rfl | ⟨7, _⟩ => rfl
  | ⟨n + 8, h⟩ => exact absurd h (by omega)
theorem dec_one : ∀ n : Fin 10, dec n.val = [UInt8.ofNat (48 + n.val)] := by decide +kernel
theorem c16 (p : Pat) (s : St) (K : AV → St → Prop) : CallW cx 16 [.agg [.int .i64 p.y, .int .i64 p.m, .int .i64 p.d, .int .i64 p.w, .int .i64 p.k, .int .i64 p.f.y, .int .i64 p.f.m, .int .i64 p.f.d, .int .i64 p.t.y, .int .i64 p.t.m, .int .i64 p.t.d]] s K = K (if chkP p = 0 then .tuple [.str (textB p), .int .i64 0] else .tuple [.str [], .int .i64 (chkP p)]) s := by
  refine CallW.eq (CallW.fn' (fn := ir16) rfl rfl (by kernel_rfl) ir16.eq_1 ?_) K
  by_cases hp : chkP p = 0
  · rw [if_pos hp]
    have d0 : decide (chkP p ≠ 0) = false := decide_eq_false (by omega)
    unfold textB
    cases hr : isR p
    · simp only [Bool.false_eq_true, if_false]
      have hbf := chk_fields hp hr
      obtain ⟨f1, f2, f3, f4, f5, f6, f7, f8⟩ := badF_f hbf
      have hy : p.y = 0 ∨ 2000 ≤ p.y ∧ p.y ≤ 2199 := by
        apply Classical.byContradiction; intro hc
        have : badF p = true := by unfold badF; simp; omega
        rw [hbf] at this; cases this
      have y1 := fun K => c43 ((s.next, .cells (some 25) [.int .i64 p.y, .int .i64 p.m, .int .i64 p.d, .int .i64 p.w, .int .i64 p.k, .int .i64 p.f.y, .int .i64 p.f.m, .int .i64 p.f.d, .int .i64 p.t.y, .int .i64 p.t.m, .int .i64 p.t.d]) :: s.heap) (s.next + 1) (s.next + 1) (by omega) K
      have z1 := fun K => year_part p.y hy (s.next + 1) { heap := (s.next + 1, .map esY) :: (s.next, .cells (some 25) [.int .i64 p.y, .int .i64 p.m, .int .i64 p.d, .int .i64 p.w, .int .i64 p.k, .int .i64 p.f.y, .int .i64 p.f.m, .int .i64 p.f.d, .int .i64 p.t.y, .int .i64 p.t.m, .int .i64 p.t.d]) :: s.heap, next := s.next + 2, low := s.next + 2 } (by simp [Fw.look]) K
      have y2 := fun K => c44 ((s.next + 1, .map esY) :: (s.next, .cells (some 25) [.int .i64 p.y, .int .i64 p.m, .int .i64 p.d, .int .i64 p.w, .int .i64 p.k, .int .i64 p.f.y, .int .i64 p.f.m, .int .i64 p.f.d, .int .i64 p.t.y, .int .i64 p.t.m, .int .i64 p.t.d]) :: s.heap) (s.next + 2) (s.next + 2) (by omega) K
      have z2 := fun K => mon_part p.m f1 f2 (s.next + 2) { heap := (s.next + 2, .map esM) :: (s.next + 1, .map esY) :: (s.next, .cells (some 25) [.int .i64 p.y, .int .i64 p.m, .int .i64 p.d, .int .i64 p.w, .int .i64 p.k, .int .i64 p.f.y, .int .i64 p.f.m, .int .i64 p.f.d, .int .i64 p.t.y, .int .i64 p.t.m, .int .i64 p.t.d]) :: s.heap, next := s.next + 3, low := s.next + 3 } (by simp [Fw.look]) K
      have y3 := fun K => c45 ((s.next + 2, .map esM) :: (s.next + 1, .map esY) :: (s.next, .cells (some 25) [.int .i64 p.y, .int .i64 p.m, .int .i64 p.d, .int .i64 p.w, .int .i64 p.k, .int .i64 p.f.y, .int .i64 p.f.m, .int .i64 p.f.d, .int .i64 p.t.y, .int .i64 p.t.m, .int .i64 p.t.d]) :: s.heap) (s.next + 3) (s.next + 3) (by omega) K
      have z3 := fun K => day_part p.d f3 f4 (s.next + 3) { heap := (s.next + 3, .map esD) :: (s.next + 2, .map esM) :: (s.next + 1, .map esY) :: (s.next, .cells (some 25) [.int .i64 p.y, .int .i64 p.m, .int .i64 p.d, .int .i64 p.w, .int .i64 p.k, .int .i64 p.f.y, .int .i64 p.f.m, .int .i64 p.f.d, .int .i64 p.t.y, .int .i64 p.t.m, .int .i64 p.t.d]) :: s.heap, next := s.next + 4, low := s.next + 4 } (by simp [Fw.look]) K
      have n1 : s.next + 1 + 1 = s.next + 2 := rfl
      have n2 : s.next + 2 + 1 = s.next + 3 := rfl
      have n3 : s.next + 3 + 1 = s.next + 4 := rfl
      have q1 : decide (s.next + 2 = s.next + 1) = false := decide_eq_false (by omega)
      have q2 : decide (s.next + 3 = s.next + 2) = false := decide_eq_false (by omega)
      have q3 : decide (s.next + 4 = s.next + 3) = false := decide_eq_false (by omega)
      have u1 : min s.next (s.next + 1) = s.next := by omega
      have u2 : min s.next (s.next + 2) = s.next := by omega
      have u3 : min s.next (s.next + 3) = s.next := by omega
      unfold ymdT
      have l1 := yearT_len p.y; have l2 := monT_len p.m; have l3 := dayT_len p.d
      have l4 : (wordOf p.w).length ≤ 3 := word_len ⟨p.w.toNat, by omega⟩
      have hsub : sub (words.map AV.str) p.w.toNat 1 = some [.str (wordOf p.w)] := word_get ⟨p.w.toNat, by omega⟩
      have hgl : cx.gl 0 = some (words.map AV.str) := rfl
      generalize yearT p.y = a at *
      generalize monT p.m = b at *
      generalize dayT p.d = c at *
      unfold wkT
      generalize wordOf p.w = w at *
      have m1 : a.length + 1 ≤ 9223372036854775807 := by omega
      have m2 : a.length + (1 + b.length) ≤ 9223372036854775807 := by omega
      have m3 : a.length + (1 + (b.length + 1)) ≤ 9223372036854775807 := by omega
      have m4 : a.length + (1 + (b.length + (1 + c.length))) ≤ 9223372036854775807 := by omega
      have m5 : 1 + w.length ≤ 9223372036854775807 := by omega
      have m6 : a.length + (1 + (b.length + (1 + (c.length + (w.length + 1))))) ≤ 9223372036854775807 := by omega
      have m7 : a.length + (1 + (b.length + (1 + (c.length + (w.length + 11))))) ≤ 9223372036854775807 := by omega
      have m8 : a.length + (1 + (b.length + (1 + (c.length + (w.length + 8))))) ≤ 9223372036854775807 := by omega
      have m9 : a.length + (1 + (b.length + (1 + (c.length + 10)))) ≤ 9223372036854775807 := by omega
      have m10 : a.length + (1 + (b.length + (1 + (c.length + 7)))) ≤ 9223372036854775807 := by omega
      have kk := fun s K => c46 p.k.toNat (by omega) s K
      rw [show ((p.k.toNat : Nat) : Int) = p.k by omega, show dec p.k.toNat = [UInt8.ofNat (48 + p.k.toNat)] from dec_one ⟨p.k.toNat, by omega⟩] at kk
      generalize hx : UInt8.ofNat (48 + p.k.toNat) = x at *
      by_cases hw : p.w = 0
      · have dw : decide (p.w ≠ 0) = false := decide_eq_false (by omega)
        rw [if_pos hw]
        by_cases k0 : p.k = 0
        · have e1 : weT p.k = [] := by unfold weT; rw [if_pos k0]
          have v1 := decide_eq_true k0
          rw [e1]
          simp +contextual -implicitDefEqProofs (maxSteps := 4000000) only [go_sem, ↓reduceIte, Nat.reduceEqDiff, Nat.reduceAdd, Int.reduceLE, Int.reduceLT, Int.reduceEq, Int.reduceToNat, Nat.reduceMod, Nat.reduceDiv, UInt8.reduceToNat, Nat.reduceLT, c12, c30, d0, hr, y1, z1, y2, z2, y3, z3, n1, n2, n3, q1, q2, q3, u1, u2, u3, hgl, hsub, iaddrA, Nat_mul_one, dw, List.length_append, List.length_cons, List.length_nil, m1, m2, m3, m4, m5, m6, v1]
        · have v1 := decide_eq_false k0
          by_cases k6 : p.k = 6
          · have v2 := decide_eq_true k6
            have e1 : weT p.k = [32, 119, 101, 101, 107, 32, 108, 97, 115, 116] := by unfold weT; rw [if_neg k0, if_pos k6]
            rw [e1]
            simp +contextual -implicitDefEqProofs (maxSteps := 4000000) only [go_sem, ↓reduceIte, Nat.reduceEqDiff, Nat.reduceAdd, Int.reduceLE, Int.reduceLT, Int.reduceEq, Int.reduceToNat, Nat.reduceMod, Nat.reduceDiv, UInt8.reduceToNat, Nat.reduceLT, c12, c30, d0, hr, y1, z1, y2, z2, y3, z3, n1, n2, n3, q1, q2, q3, u1, u2, u3, hgl, hsub, iaddrA, Nat_mul_one, dw, List.length_append, List.length_cons, List.length_nil, m1, m2, m3, m4, m5, m6, m7, m8, m9, m10, v1, v2]
          · have v2 := decide_eq_false k6
            have e1 : weT p.k = [32, 119, 101, 101, 107, 32, x] := by unfold weT; rw [if_neg k0, if_neg k6, hx]
            rw [e1]
            simp +contextual -implicitDefEqProofs (maxSteps := 4000000) only [go_sem, ↓reduceIte, Nat.reduceEqDiff, Nat.reduceAdd, Int.reduceLE, Int.reduceLT, Int.reduceEq, Int.reduceToNat, Nat.reduceMod, Nat.reduceDiv, UInt8.reduceToNat, Nat.reduceLT, c12, c30, d0, hr, y1, z1, y2, z2, y3, z3, n1, n2, n3, q1, q2, q3, u1, u2, u3, hgl, hsub, iaddrA, Nat_mul_one, dw, List.length_append, List.length_cons, List.length_nil, m1, m2, m3, m4, m5, m6, m7, m8, m9, m10, v1, v2, kk, Nat.reduceLeDiff]
      · have dw : decide (p.w ≠ 0) = true := decide_eq_true hw
        rw [if_neg hw]
        have g1 : (0 : Int) ≤ p.w := by omega
        have g2 : p.w < 8 := by omega
        by_cases k0 : p.k = 0
        · have e1 : weT p.k = [] := by unfold weT; rw [if_pos k0]
          have v1 := decide_eq_true k0
          rw [e1]
          simp +contextual -implicitDefEqProofs (maxSteps := 4000000) only [go_sem, ↓reduceIte, Nat.reduceEqDiff, Nat.reduceAdd, Int.reduceLE, Int.reduceLT, Int.reduceEq, Int.reduceToNat, Nat.reduceMod, Nat.reduceDiv, UInt8.reduceToNat, Nat.reduceLT, c12, c30, d0, hr, y1, z1, y2, z2, y3, z3, n1, n2, n3, q1, q2, q3, u1, u2, u3, hgl, hsub, iaddrA, g1, g2, Nat_mul_one, dw, List.length_append, List.length_cons, List.length_nil, m1, m2, m3, m4, m5, m6, v1]
        · have v1 := decide_eq_false k0
          by_cases k6 : p.k = 6
          · have v2 := decide_eq_true k6
            have e1 : weT p.k = [32, 119, 101, 101, 107, 32, 108, 97, 115, 116] := by unfold weT; rw [if_neg k0, if_pos k6]
            rw [e1]
            simp +contextual -implicitDefEqProofs (maxSteps := 4000000) only [go_sem, ↓reduceIte, Nat.reduceEqDiff, Nat.reduceAdd, Int.reduceLE, Int.reduceLT, Int.reduceEq, Int.reduceToNat, Nat.reduceMod, Nat.reduceDiv, UInt8.reduceToNat, Nat.reduceLT, c12, c30, d0, hr, y1, z1, y2, z2, y3, z3, n1, n2, n3, q1, q2, q3, u1, u2, u3, hgl, hsub, iaddrA, g1, g2, Nat_mul_one, dw, List.length_append, List.length_cons, List.length_nil, m1, m2, m3, m4, m5, m6, m7, m8, m9, m10, v1, v2]
          · have v2 := decide_eq_false k6
            have e1 : weT p.k = [32, 119, 101, 101, 107, 32, x] := by unfold weT; rw [if_neg k0, if_neg k6, hx]
            rw [e1]
            simp +contextual -implicitDefEqProofs (maxSteps := 4000000) only [go_sem, ↓reduceIte, Nat.reduceEqDiff, Nat.reduceAdd, Int.reduceLE, Int.reduceLT, Int.reduceEq, Int.reduceToNat, Nat.reduceMod, Nat.reduceDiv, UInt8.reduceToNat, Nat.reduceLT, c12, c30, d0, hr, y1, z1, y2, z2, y3, z3, n1, n2, n3, q1, q2, q3, u1, u2, u3, hgl, hsub, iaddrA, g1, g2, Nat_mul_one, dw, List.length_append, List.length_cons, List.length_nil, m1, m2, m3, m4, m5, m6, m7, m8, m9, m10, v1, v2, kk, Nat.reduceLeDiff]
    · simp only [if_true]
      obtain ⟨g1, g2⟩ := chk_ends hp hr
      have k1 := fun s K => c41 p.f (by by_cases h : p.f = noD <;> simp [h]; exact g1 h) s K
      have k2 := fun s K => c41 p.t (by by_cases h : p.t = noD <;> simp [h]; exact g2 h) s K
      have l1 := endT_len p.f; have l2 := endT_len p.t
      generalize endT p.f = a at *
      generalize endT p.t = b at *
      have m1 : a.length + 4 ≤ 9223372036854775807 := by omega
      have m2 : a.length + (4 + b.length) ≤ 9223372036854775807 := by omega
      simp +contextual -implicitDefEqProofs (maxSteps := 4000000) only [go_sem, ↓reduceIte, Nat.reduceEqDiff, Nat.reduceAdd, Int.reduceLE, Int.reduceLT, Int.reduceEq, Int.reduceToNat, Nat.reduceMod, Nat.reduceDiv, UInt8.reduceToNat, Nat.reduceLT, c12, c30, d0, hr, k1, k2, List.length_append, List.length_cons, List.length_nil, m1, m2]
  · rw [if_neg hp]
    have d0 : decide (chkP p ≠ 0) = true := decide_eq_true hp
    simp +contextual -implicitDefEqProofs (maxSteps := 4000000) only [go_sem, ↓reduceIte, Nat.reduceEqDiff, Nat.reduceAdd, Int.reduceLE, Int.reduceLT, Int.reduceEq, Int.reduceToNat, Nat.reduceMod, Nat.reduceDiv, UInt8.reduceToNat, Nat.reduceLT, c12, d0]
end T06


namespace T06
variable [Mm]
open Go Fw Go.Proofs
set_option maxRecDepth 100000
set_option maxHeartbeats 8000000
theorem W_cut {cx : Cx} {A B : ICode} {e : FE} {s : St} {Q : Sig → FE → St → Prop} (P : FE → Prop) (s1 : St) (h1 : ∀ B' Q', (∀ e', P e' → W cx B' e' s1 Q') → W cx (.seq A B') e s Q') (h2 : ∀ e', P e' → W cx B e' s1 Q) : W cx (.seq A B) e s Q := h1 B Q h2
end T06


namespace T06
open Go Fw Go.Proofs
set_option maxRecDepth 100000
def dg (b : UInt8) : Bool := decide (48 ≤ b.toNat) && decide (b.toNat ≤ 57)
def allD (l : List UInt8) : Bool := l.all dg
def numA (k : Nat) (l : List UInt8) : Nat := l.foldl (fun k b => 10 * k + (b.toNat - 48)) k
def numD (l : List UInt8) : Nat := numA 0 l
theorem dg_256 : ∀ n : Fin 256, digL.contains (UInt8.ofNat n.val) = dg (UInt8.ofNat n.val) := by decide +kernel
theorem dg_in (b : UInt8) : digL.contains b = dg b := by
  have := dg_256 ⟨b.toNat, UInt8.toNat_lt b⟩
  simpa using this
theorem mem_dropWhile {p : UInt8 → Bool} {x : UInt8} (hx : p x = false) : ∀ {l : List UInt8}, x ∈ l → x ∈ l.dropWhile p
  | y :: l, h => by
    rw [List.dropWhile_cons]
    split
    · rename_i hy
      rcases List.mem_cons.1 h with rfl | h
      · rw [hx] at hy; cases hy
      · exact mem_dropWhile hx h
    · exact h
theorem trim_dig (l : List UInt8) : Lib.trimS l digL = [] ↔ allD l = true := by
  unfold Lib.trimS Lib.trimLeftS Lib.trimRightS allD
  rw [List.all_eq_true]
  constructor
  · intro h x hx
    apply Classical.byContradiction
    intro hc
    have hf : (fun b => digL.contains b) x = false := by simp only [dg_in]; simpa using hc
    have := mem_dropWhile hf (List.mem_reverse.2 (mem_dropWhile hf (List.mem_reverse.2 hx)))
    rw [h] at this
    cases this
  · intro h
    have e : l.reverse.dropWhile (fun b => digL.contains b) = [] := by
      have : ∀ (m : List UInt8), (∀ x ∈ m, dg x = true) → m.dropWhile (fun b => digL.contains b) = [] := by
        intro m hm
        induction m with
        | nil => rfl
        | cons y m ih => rw [List.dropWhile_cons, if_pos (by rw [dg_in]; exact hm y (by simp))]; exact ih fun x hx => hm x (by simp [hx])
      exact this _ fun x hx => h x (List.mem_reverse.1 hx)
    rw [e]; rfl
theorem dec_from : ∀ (l : List UInt8) (k : Nat), allD l = true → Lib.decFrom k l = some (numA k l)
  | [], k, h => rfl
  | b :: l, k, h => by
    unfold allD at h
    simp only [List.all_cons, Bool.and_eq_true] at h
    have h1 := h.1
    unfold dg at h1
    simp only [Bool.and_eq_true, decide_eq_true_eq] at h1
    have := dec_from l (10 * k + (b.toNat - 48)) h.2
    unfold numA at this ⊢
    rw [Lib.decFrom, Lib.digitVal, if_pos h1]
    simp only [List.foldl_cons]
    rw [Nat.mul_comm k 10]
    exact this
theorem atoi_dig {l : List UInt8} (h : allD l = true) (hl : l ≠ []) : Lib.atoi l = some ((numD l : Nat) : Int) := by
  cases l with
  | nil => exact absurd rfl hl
  | cons b l =>
    have hb := h
    unfold allD at hb
    simp only [List.all_cons, Bool.and_eq_true] at hb
    have h1 := hb.1
    unfold dg at h1
    simp only [Bool.and_eq_true, decide_eq_true_eq] at h1
    have hne : ∀ c : UInt8, c.toNat < 48 → (b == c) = false := by
      intro c hc
      apply Bool.eq_false_iff.2
      intro e
      rw [eq_of_beq e] at h1; omega
    rw [Lib.atoi, hne 45 (by decide), hne 43 (by decide)]
    simp only [Bool.false_eq_true, if_false]
    unfold Lib.decNat
    rw [if_neg (by simp), dec_from _ _ h]
    rfl
def restP (b : List UInt8) (size : Nat) (hi : Nat) : Int × Int :=
  if b.length ≠ size ∨ allD b = false then (0, 2) else if numD b = 0 ∨ numD b > hi then (0, 6) else ((numD b : Nat), 0)
theorem restR_eq (b : List UInt8) (size hi : Nat) (hs : 0 < size) : restR b size hi = some (restP b size hi) := by
  unfold restR restP
  by_cases h1 : b.length = size
  · cases h2 : allD b
    · rw [if_pos (.inr (by rw [Ne, trim_dig, h2]; simp)), if_pos (.inr rfl)]
    · have h4 := (trim_dig b).2 h2
      rw [if_neg (by rw [h4]; simp; omega), if_neg (by simp [h1])]
      rw [atoi_dig h2 (by intro e; subst e; simp at h1; omega)]
      simp only [Option.map_some]
      congr 1
      by_cases h3 : numD b = 0 ∨ numD b > hi
      · rw [if_pos h3, if_pos (by omega)]
      · rw [if_neg h3, if_neg (by omega)]
  · rw [if_pos (.inl (by omega)), if_pos (.inl h1)]
end T06


namespace T06
variable [Mm]
open Go Fw Go.Proofs
set_option maxRecDepth 100000
set_option maxHeartbeats 8000000
def yearP (b : List UInt8) : Int × Int := if b = [42] then (0, 0) else restP b 4 9999
def monP (b : List UInt8) : Int × Int := if b = [42] then (0, 0) else if b = [111, 100, 100] then (13, 0) else if b = [101, 118, 101, 110] then (14, 0) else restP b 2 12
def dayP (b : List UInt8) : Int × Int := if b = [42] then (0, 0) else if b = [108, 97, 115, 116] then (32, 0) else if b = [111, 100, 100] then (33, 0) else if b = [101, 118, 101, 110] then (34, 0) else restP b 2 31
theorem wk_nil (b : List UInt8) : wordKeys b [] = some [] := rfl
theorem wk_cons (b v : List UInt8) (k : Int) (es : List (AV × AV)) : wordKeys b ((.int .i64 k, .str v) :: es) = (wordKeys b es).map fun l => if v = b then k :: l else l := rfl
theorem readY (b : List UInt8) : readO b 4 9999 esY = some (yearP b) := by
  have hr := restR_eq b 4 9999 (by decide)
  unfold readO yearP esY
  simp only [wk_cons, wk_nil, Option.map_some]
  by_cases h1 : b = [42]
  · subst h1; rfl
  · rw [if_neg (Ne.symm h1), if_neg h1]; exact hr
theorem readM (b : List UInt8) : readO b 2 12 esM = some (monP b) := by
  have hr := restR_eq b 2 12 (by decide)
  unfold readO monP esM
  simp only [wk_cons, wk_nil, Option.map_some]
  by_cases h1 : b = [42]
  · subst h1; rfl
  by_cases h2 : b = [111, 100, 100]
  · subst h2; rfl
  by_cases h3 : b = [101, 118, 101, 110]
  · subst h3; rfl
  rw [if_neg (Ne.symm h1), if_neg (Ne.symm h2), if_neg (Ne.symm h3), if_neg h1, if_neg h2, if_neg h3]; exact hr
theorem readD (b : List UInt8) : readO b 2 31 esD = some (dayP b) := by
  have hr := restR_eq b 2 31 (by decide)
  unfold readO dayP esD
  simp only [wk_cons, wk_nil, Option.map_some]
  by_cases h1 : b = [42]
  · subst h1; rfl
  by_cases h2 : b = [108, 97, 115, 116]
  · subst h2; rfl
  by_cases h3 : b = [111, 100, 100]
  · subst h3; rfl
  by_cases h4 : b = [101, 118, 101, 110]
  · subst h4; rfl
  rw [if_neg (Ne.symm h1), if_neg (Ne.symm h2), if_neg (Ne.symm h3), if_neg (Ne.symm h4), if_neg h1, if_neg h2, if_neg h3, if_neg h4]; exact hr
theorem c73 (b : List UInt8) (hb : b.length ≤ 1000000) (n hi : Int) (hn : n ≤ 18) (id : Nat) (es : List (AV × AV)) (r : Int × Int) (hr : readO b n hi es = some r) (st : St) (hlk : Fw.look id st.heap = some (.map es)) (K : AV → St → Prop) : CallW cx 73 [.str b, .int .i64 n, .int .i64 hi, .map id] st K = K (.tuple [.int .i64 r.1, .int .i64 r.2]) st := by
  refine CallW.eq (CallW.ext (g := xRead) rfl ?_) K
  have hg : st.get id = some (.map es) := hlk
  unfold xRead
  simp only [hg]
  rw [if_pos ⟨by omega, hn⟩, hr]
  exact ⟨rfl, rfl⟩
theorem c85 (b : List UInt8) (hb : b.length ≤ 1000000) (st : St) (K : AV → St → Prop) : CallW cx 85 [.str b, .str [48, 49, 50, 51, 52, 53, 54, 55, 56, 57]] st K = K (.str (Lib.trimS b digL)) st := by
  refine CallW.eq (CallW.ext (g := xTrim) rfl ?_) K
  unfold xTrim
  simp only
  rw [if_pos ⟨by omega, by decide, by decide⟩]
  exact ⟨rfl, rfl⟩
theorem c86 (b : List UInt8) (hd : allD b = true) (h0 : b ≠ []) (hb : b.length ≤ 18) (st : St) (K : AV → St → Prop) : CallW cx 86 [.str b] st K = K (.tuple [.int .i64 ((numD b : Nat) : Int), .niliface]) st := by
  refine CallW.eq (CallW.ext (g := xAtoi) rfl ?_) K
  unfold xAtoi
  simp only
  rw [if_pos hb, atoi_dig hd h0]
  exact ⟨rfl, rfl⟩
def endP (s : List UInt8) : Dt × Int :=
  if s = [42] then (noD, 0) else match splitB 45 s with
  | [a, b, c] => if a.length = 4 ∧ b.length = 2 ∧ c.length = 2 ∧ allD (a ++ b ++ c) = true then (if numD a = 0 ∧ numD b = 0 ∧ numD c = 0 then (noD, 1) else (⟨numD a, numD b, numD c⟩, 0)) else (noD, 2)
  | _ => (noD, 2)
theorem all3 {a b c : List UInt8} : allD (a ++ b ++ c) = (allD a && allD b && allD c) := by simp [allD, List.all_append, Bool.and_assoc]
theorem nonempty_of {l : List UInt8} {n : Nat} (h : l.length = n + 1) : l ≠ [] := by rintro rfl; simp at h
theorem split_le (c : UInt8) : ∀ (l : List UInt8), ∀ a ∈ splitB c l, a.length ≤ l.length
  | [], a, h => by simp only [splitB, List.mem_singleton] at h; subst h; exact Nat.le_refl _
  | b :: l, a, h => by
    simp only [splitB] at h
    split at h
    · rcases List.mem_cons.1 h with rfl | h
      · simp
      · have := split_le c l a h; simp only [List.length_cons]; omega
    · split at h
      · rename_i x xs he
        have hx := split_le c l x (by rw [he]; simp)
        rcases List.mem_cons.1 h with rfl | h
        · simp only [List.length_cons]; omega
        · have := split_le c l a (by rw [he]; simp [h]); simp only [List.length_cons]; omega
      · rename_i he; exact absurd he (splitB_ne c l)
def EP (s : List UInt8) (N : Nat) (e : FE) : Prop := e 0 = .str s ∧ e 2 = .ptr N 0
theorem c82 (s : List UInt8) (hs : s.length ≤ 100000) (st : St) (K : AV → St → Prop) : CallW cx 82 [.str s] st K = K (.tuple [.agg [.int .i64 (endP s).1.y, .int .i64 (endP s).1.m, .int .i64 (endP s).1.d], .int .i64 (endP s).2]) st := by
  refine CallW.eq (CallW.fn' (fn := ir82) rfl rfl (by kernel_rfl) ir82.eq_1 ?_) K
  unfold endP
  refine W_cut (EP s st.next) { heap := (st.next, .cells (some 23) [.int .i64 0, .int .i64 0, .int .i64 0]) :: st.heap, next := st.next + 1, low := st.next } (fun B Q hB => ?_) (fun e hP => ?_)
  · simp +contextual -implicitDefEqProofs (maxSteps := 4000000) only [go_sem, ↓reduceIte, Nat.reduceEqDiff, Nat.reduceAdd, Int.reduceLE, Int.reduceLT, Int.reduceEq, Int.reduceToNat, Nat.reduceMod, Nat.reduceDiv, UInt8.reduceToNat, Nat.reduceLT]
    exact hB _ ⟨rfl, rfl⟩
  obtain ⟨g0, g2⟩ := hP
  by_cases h1 : s = [42]
  · have d1 := decide_eq_true h1
    rw [if_pos h1]
    simp +contextual -implicitDefEqProofs (maxSteps := 4000000) only [go_sem, ↓reduceIte, Nat.reduceEqDiff, Nat.reduceAdd, Int.reduceLE, Int.reduceLT, Int.reduceEq, Int.reduceToNat, Nat.reduceMod, Nat.reduceDiv, UInt8.reduceToNat, Nat.reduceLT, g0, g2, d1, noD]
  · have d1 := decide_eq_false h1
    rw [if_neg h1]
    have k1 := fun st K => c71 s 45 (by omega) st K
    refine W_cut (EP s st.next) { heap := (st.next, .cells (some 23) [.int .i64 0, .int .i64 0, .int .i64 0]) :: st.heap, next := st.next + 1, low := st.next } (fun B Q hB => ?_) (fun e hP => ?_)
    · simp +contextual -implicitDefEqProofs (maxSteps := 4000000) only [go_sem, ↓reduceIte, Nat.reduceEqDiff, Nat.reduceAdd, Int.reduceLE, Int.reduceLT, Int.reduceEq, Int.reduceToNat, Nat.reduceMod, Nat.reduceDiv, UInt8.reduceToNat, Nat.reduceLT, g0, g2, d1]
      exact hB _ ⟨g0, g2⟩
    obtain ⟨g0, g2⟩ := hP
    refine W_cut (fun e => EP s st.next e ∧ e 4 = .slice (encS (splitB 45 s)) (splitB 45 s).length .no) { heap := (st.next, .cells (some 23) [.int .i64 0, .int .i64 0, .int .i64 0]) :: st.heap, next := st.next + 1, low := st.next } (fun B Q hB => ?_) (fun e hP => ?_)
    · simp +contextual -implicitDefEqProofs (maxSteps := 4000000) only [go_sem, ↓reduceIte, Nat.reduceEqDiff, Nat.reduceAdd, Int.reduceLE, Int.reduceLT, Int.reduceEq, Int.reduceToNat, Nat.reduceMod, Nat.reduceDiv, UInt8.reduceToNat, Nat.reduceLT, g0, g2, k1]
      exact hB _ ⟨⟨g0, g2⟩, rfl⟩
    obtain ⟨⟨g0, g2⟩, g4⟩ := hP
    have hsl := split_le 45 s
    generalize splitB 45 s = fs at *
    by_cases hn : fs.length = 3
    · obtain ⟨a, b, c, rfl⟩ : ∃ a b c, fs = [a, b, c] := by
        match fs, hn with
        | [a, b, c], _ => exact ⟨a, b, c, rfl⟩
      have la := hsl a (by simp); have lb := hsl b (by simp); have lc := hsl c (by simp)
      simp only [encS, List.map_cons, List.map_nil, List.length_cons, List.length_nil] at g4
      simp only
      have v0 : decide ((3 : Int) ≠ 3) = false := by decide
      have w1 : IntKind.i64.wrap (0 + 1) = 1 := by decide
      have w2 : IntKind.i64.wrap (1 + 1) = 2 := by decide
      have w3 : IntKind.i64.wrap (2 + 1) = 3 := by decide
      have m1 : a.length + b.length ≤ 9223372036854775807 := by omega
      have m2 : a.length + (b.length + c.length) ≤ 9223372036854775807 := by omega
      have r0 : sub [AV.str a, AV.str b, AV.str c] 0 1 = some [.str a] := rfl
      have r1 : sub [AV.str a, AV.str b, AV.str c] 1 1 = some [.str b] := rfl
      have r2 : sub [AV.str a, AV.str b, AV.str c] 2 1 = some [.str c] := rfl
      by_cases la4 : a.length = 4
      · have v1 : decide (((a.length : Nat) : Int) ≠ 4) = false := decide_eq_false (by omega)
        by_cases lb2 : b.length = 2
        · have v2 : decide (((b.length : Nat) : Int) ≠ 2) = false := decide_eq_false (by omega)
          by_cases lc2 : c.length = 2
          · have v3 : decide (((c.length : Nat) : Int) ≠ 2) = false := decide_eq_false (by omega)
            have kt := fun st K => c85 (a ++ b ++ c) (by simp; omega) st K
            cases hd : allD (a ++ b ++ c)
            · rw [if_neg (by simp)]
              have v4 : decide (Lib.trimS (a ++ b ++ c) digL ≠ []) = true := decide_eq_true (by rw [Ne, trim_dig, hd]; simp)
              generalize Lib.trimS (a ++ b ++ c) digL = tr at *
              simp +contextual -implicitDefEqProofs (maxSteps := 4000000) only [go_sem, ↓reduceIte, Nat.reduceEqDiff, Nat.reduceAdd, Int.reduceLE, Int.reduceLT, Int.reduceEq, Int.reduceToNat, Nat.reduceMod, Nat.reduceDiv, UInt8.reduceToNat, Nat.reduceLT, g0, g2, g4, r0, r1, r2, v0, v1, v2, v3, v4, kt, m1, m2, List.length_append, noD]
            · rw [if_pos ⟨la4, lb2, lc2, rfl⟩]
              have v4 : decide (Lib.trimS (a ++ b ++ c) digL ≠ []) = false := decide_eq_false (by rw [Ne, trim_dig, hd]; simp)
              rw [all3] at hd
              simp only [Bool.and_eq_true] at hd
              refine W_cut (fun e => e 2 = .ptr st.next 0 ∧ e 4 = .slice [.str a, .str b, .str c] 3 .no) { heap := (st.next, .cells (some 23) [.int .i64 0, .int .i64 0, .int .i64 0]) :: st.heap, next := st.next + 1, low := st.next } (fun B Q hB => ?_) (fun e hP => ?_)
              · generalize Lib.trimS (a ++ b ++ c) digL = tr at *
                simp +contextual -implicitDefEqProofs (maxSteps := 4000000) only [go_sem, ↓reduceIte, Nat.reduceEqDiff, Nat.reduceAdd, Int.reduceLE, Int.reduceLT, Int.reduceEq, Int.reduceToNat, Nat.reduceMod, Nat.reduceDiv, UInt8.reduceToNat, Nat.reduceLT, g0, g2, g4, r0, r1, r2, v0, v1, v2, v3, v4, kt, m1, m2, List.length_append]
                exact hB _ ⟨g2, g4⟩
              obtain ⟨g2, g4⟩ := hP
              refine W_cut (fun e => e 2 = .ptr st.next 0 ∧ e 4 = .slice [.str a, .str b, .str c] 3 .no ∧ e 5 = .ptr (st.next + 1) 0) { heap := (st.next + 1, .cells (some 119) [.int .i64 0, .int .i64 0, .int .i64 0]) :: (st.next, .cells (some 23) [.int .i64 0, .int .i64 0, .int .i64 0]) :: st.heap, next := st.next + 2, low := st.next } (fun B Q hB => ?_) (fun e hP => ?_)
              · simp +contextual -implicitDefEqProofs (maxSteps := 4000000) only [go_sem, ↓reduceIte, Nat.reduceEqDiff, Nat.reduceAdd, Int.reduceLE, Int.reduceLT, Int.reduceEq, Int.reduceToNat, Nat.reduceMod, Nat.reduceDiv, UInt8.reduceToNat, Nat.reduceLT, g2, g4]
                exact hB _ ⟨g2, g4, rfl⟩
              obtain ⟨g2, g4, g5⟩ := hP
              have ka := fun st K => c86 a hd.1.1 (nonempty_of la4) (by omega) st K
              have kb := fun st K => c86 b hd.1.2 (nonempty_of lb2) (by omega) st K
              have kc := fun st K => c86 c hd.2 (nonempty_of lc2) (by omega) st K
              generalize numD a = na at *
              generalize numD b = nb at *
              generalize numD c = nc at *
              have hmin : min st.next (st.next + 1) = st.next := by omega
              refine W_cut (fun e => e 2 = .ptr st.next 0 ∧ e 5 = .ptr (st.next + 1) 0) { heap := (st.next + 1, .cells (some 119) [.int .i64 (na : Int), .int .i64 (nb : Int), .int .i64 (nc : Int)]) :: (st.next, .cells (some 23) [.int .i64 0, .int .i64 0, .int .i64 0]) :: st.heap, next := st.next + 2, low := st.next } (fun B Q hB => ?_) (fun e hP => ?_)
              · simp +contextual -implicitDefEqProofs (maxSteps := 4000000) only [go_sem, ↓reduceIte, Nat.reduceEqDiff, Nat.reduceAdd, Int.reduceLE, Int.reduceLT, Int.reduceEq, Int.reduceToNat, Nat.reduceMod, Nat.reduceDiv, UInt8.reduceToNat, Nat.reduceLT, g2, g4, g5]
                refine WLoop.rnd (c := _) ir82L0.eq_1 ?_
                simp +contextual -implicitDefEqProofs (maxSteps := 4000000) only [go_sem, ↓reduceIte, Nat.reduceEqDiff, Nat.reduceAdd, Int.reduceLE, Int.reduceLT, Int.reduceEq, Int.reduceToNat, Nat.reduceMod, Nat.reduceDiv, UInt8.reduceToNat, Nat.reduceLT, g2, g4, g5, iaddrA, r0, ka, hmin, w1]
                refine WLoop.rnd (c := _) ir82L0.eq_1 ?_
                simp +contextual -implicitDefEqProofs (maxSteps := 4000000) only [go_sem, ↓reduceIte, Nat.reduceEqDiff, Nat.reduceAdd, Int.reduceLE, Int.reduceLT, Int.reduceEq, Int.reduceToNat, Nat.reduceMod, Nat.reduceDiv, UInt8.reduceToNat, Nat.reduceLT, g2, g4, g5, iaddrA, r1, kb, hmin, w2]
                refine WLoop.rnd (c := _) ir82L0.eq_1 ?_
                simp +contextual -implicitDefEqProofs (maxSteps := 4000000) only [go_sem, ↓reduceIte, Nat.reduceEqDiff, Nat.reduceAdd, Int.reduceLE, Int.reduceLT, Int.reduceEq, Int.reduceToNat, Nat.reduceMod, Nat.reduceDiv, UInt8.reduceToNat, Nat.reduceLT, g2, g4, g5, iaddrA, r2, kc, hmin, w3]
                refine WLoop.rnd (c := _) ir82L0.eq_1 ?_
                simp +contextual -implicitDefEqProofs (maxSteps := 4000000) only [go_sem, ↓reduceIte, Nat.reduceEqDiff, Nat.reduceAdd, Int.reduceLE, Int.reduceLT, Int.reduceEq, Int.reduceToNat, Nat.reduceMod, Nat.reduceDiv, UInt8.reduceToNat, Nat.reduceLT, g2, g4, g5, iaddrA, r2, kc]
                exact hB _ ⟨g2, g5⟩
              obtain ⟨g2, g5⟩ := hP
              by_cases hz : na = 0 ∧ nb = 0 ∧ nc = 0
              · rw [if_pos hz]
                obtain ⟨rfl, rfl, rfl⟩ := hz
                simp +contextual -implicitDefEqProofs (maxSteps := 4000000) only [go_sem, ↓reduceIte, Nat.reduceEqDiff, Nat.reduceAdd, Int.reduceLE, Int.reduceLT, Int.reduceEq, Int.reduceToNat, Nat.reduceMod, Nat.reduceDiv, UInt8.reduceToNat, Nat.reduceLT, g2, g5, noD]
              · rw [if_neg hz]
                by_cases za : na = 0
                · subst za
                  by_cases zb : nb = 0
                  · subst zb
                    have zc : ¬ ((nc : Nat) : Int) = 0 := by omega
                    simp +contextual -implicitDefEqProofs (maxSteps := 4000000) only [go_sem, ↓reduceIte, Nat.reduceEqDiff, Nat.reduceAdd, Int.reduceLE, Int.reduceLT, Int.reduceEq, Int.reduceToNat, Nat.reduceMod, Nat.reduceDiv, UInt8.reduceToNat, Nat.reduceLT, g2, g5, iaddrA, zc, Int.natCast_zero]
                  · have zb' : ¬ ((nb : Nat) : Int) = 0 := by omega
                    simp +contextual -implicitDefEqProofs (maxSteps := 4000000) only [go_sem, ↓reduceIte, Nat.reduceEqDiff, Nat.reduceAdd, Int.reduceLE, Int.reduceLT, Int.reduceEq, Int.reduceToNat, Nat.reduceMod, Nat.reduceDiv, UInt8.reduceToNat, Nat.reduceLT, g2, g5, iaddrA, zb', Int.natCast_zero]
                · have za' : ¬ ((na : Nat) : Int) = 0 := by omega
                  simp +contextual -implicitDefEqProofs (maxSteps := 4000000) only [go_sem, ↓reduceIte, Nat.reduceEqDiff, Nat.reduceAdd, Int.reduceLE, Int.reduceLT, Int.reduceEq, Int.reduceToNat, Nat.reduceMod, Nat.reduceDiv, UInt8.reduceToNat, Nat.reduceLT, g2, g5, iaddrA, za']
          · have v3 : decide (((c.length : Nat) : Int) ≠ 2) = true := decide_eq_true (by omega)
            rw [if_neg (by simp [lc2])]
            simp +contextual -implicitDefEqProofs (maxSteps := 4000000) only [go_sem, ↓reduceIte, Nat.reduceEqDiff, Nat.reduceAdd, Int.reduceLE, Int.reduceLT, Int.reduceEq, Int.reduceToNat, Nat.reduceMod, Nat.reduceDiv, UInt8.reduceToNat, Nat.reduceLT, g0, g2, g4, r0, r1, r2, v0, v1, v2, v3, noD]
        · have v2 : decide (((b.length : Nat) : Int) ≠ 2) = true := decide_eq_true (by omega)
          rw [if_neg (by simp [lb2])]
          simp +contextual -implicitDefEqProofs (maxSteps := 4000000) only [go_sem, ↓reduceIte, Nat.reduceEqDiff, Nat.reduceAdd, Int.reduceLE, Int.reduceLT, Int.reduceEq, Int.reduceToNat, Nat.reduceMod, Nat.reduceDiv, UInt8.reduceToNat, Nat.reduceLT, g0, g2, g4, r0, r1, r2, v0, v1, v2, noD]
      · have v1 : decide (((a.length : Nat) : Int) ≠ 4) = true := decide_eq_true (by omega)
        rw [if_neg (by simp [la4])]
        simp +contextual -implicitDefEqProofs (maxSteps := 4000000) only [go_sem, ↓reduceIte, Nat.reduceEqDiff, Nat.reduceAdd, Int.reduceLE, Int.reduceLT, Int.reduceEq, Int.reduceToNat, Nat.reduceMod, Nat.reduceDiv, UInt8.reduceToNat, Nat.reduceLT, g0, g2, g4, r0, r1, r2, v0, v1, noD]
    · have dn : decide (((fs.length : Nat) : Int) ≠ 3) = true := decide_eq_true (by omega)
      have e5 : (match fs with
        | [a, b, c] => if a.length = 4 ∧ b.length = 2 ∧ c.length = 2 ∧ allD (a ++ b ++ c) = true then (if numD a = 0 ∧ numD b = 0 ∧ numD c = 0 then (noD, (1 : Int)) else ((⟨numD a, numD b, numD c⟩ : Dt), 0)) else (noD, 2)
        | _ => (noD, 2)) = (noD, 2) := by
        match fs, hn with
        | [], _ => rfl
        | [_], _ => rfl
        | [_, _], _ => rfl
        | _ :: _ :: _ :: _ :: _, _ => rfl
      rw [e5]
      simp +contextual -implicitDefEqProofs (maxSteps := 4000000) only [go_sem, ↓reduceIte, Nat.reduceEqDiff, Nat.reduceAdd, Int.reduceLE, Int.reduceLT, Int.reduceEq, Int.reduceToNat, Nat.reduceMod, Nat.reduceDiv, UInt8.reduceToNat, Nat.reduceLT, g0, g2, g4, dn, noD]
end T06


namespace T06
variable [Mm]
open Go Fw Go.Proofs
set_option maxRecDepth 100000
set_option maxHeartbeats 8000000
def noP : Pat := ⟨0, 0, 0, 0, 0, noD, noD⟩
def rangeP (a b : List UInt8) : Pat × Int :=
  if (endP a).2 = 2 ∨ (endP b).2 = 2 ∨ a = [42] ∧ b = [42] then (noP, 2) else if (endP a).2 ≠ 0 ∨ (endP b).2 ≠ 0 then (noP, 1) else (⟨0, 0, 0, 0, 0, (endP a).1, (endP b).1⟩, 0)
def TO : List UInt8 := [32, 116, 111, 32]
def WEEK : List UInt8 := [119, 101, 101, 107]
def LAST : List UInt8 := [108, 97, 115, 116]
def wdA (x : List UInt8) (i : Nat) (a : Int) : Nat → Int
  | 0 => a
  | n + 1 => wdA x (i + 1) (if 0 < i ∧ words.getD i [] = x then (i : Int) else a) n
def wdOf (x : List UInt8) : Int := wdA x 0 0 8
def weekV (x : List UInt8) : Int := if x = LAST then 6 else Lib.index [49, 50, 51, 52, 53] x + 1
def weekBad (x : List UInt8) : Bool := decide (weekV x = 0) || (decide ((x.length : Int) ≠ 1) && decide (weekV x ≠ 6))
def worst1 (w x : Int) : Int := if x = 2 ∨ w = 0 then x else w
def worst (a b c : Int) : Int := worst1 (worst1 (worst1 0 a) b) c
def goodP (w k : Int) (y m d : List UInt8) : Pat × Int := (⟨(yearP y).1, (monP m).1, (dayP d).1, w, k, noD, noD⟩, worst (yearP y).2 (monP m).2 (dayP d).2)
def tailP (w : Int) (f : List (List UInt8)) (y m d : List UInt8) : Pat × Int :=
  match f with
  | [] => goodP w 0 y m d
  | [a, x] => if a = WEEK then (if weekBad x = true then (⟨0, 0, 0, w, weekV x, noD, noD⟩, 2) else goodP w (weekV x) y m d) else (⟨0, 0, 0, w, 0, noD, noD⟩, 2)
  | _ => (⟨0, 0, 0, w, 0, noD, noD⟩, 2)
def wkS (f : List (List UInt8)) : Int × List (List UInt8) :=
  match f with
  | [] => (0, [])
  | x :: f => if wdOf x ≠ 0 then (wdOf x, f) else (0, x :: f)
def wordsP (ws : List (List UInt8)) : Pat × Int :=
  match ws with
  | [] => (noP, 2)
  | t :: f => match splitB 45 t with
    | [y, m, d] => tailP (wkS f).1 (wkS f).2 y m d
    | _ => (noP, 2)
def parseP (s : List UInt8) : Pat × Int := if (cutS TO s).2.2 = true then rangeP (cutS TO s).1 (cutS TO s).2.1 else wordsP (splitB 32 s)
theorem c70 (a b : List UInt8) (ha : a.length ≤ 100000) (hb : b.length ≤ 100000) (q : Pat) (r : Int) (hq : rangeP a b = (q, r)) (st : St) (K : AV → St → Prop) : CallW cx 70 [.str a, .str b] st K = K (.tuple [.agg [.int .i64 q.y, .int .i64 q.m, .int .i64 q.d, .int .i64 q.w, .int .i64 q.k, .int .i64 q.f.y, .int .i64 q.f.m, .int .i64 q.f.d, .int .i64 q.t.y, .int .i64 q.t.m, .int .i64 q.t.d], .int .i64 r]) st := by
  refine CallW.eq (CallW.fn' (fn := ir70) rfl rfl (by kernel_rfl) ir70.eq_1 ?_) K
  have k1 := fun st K => c82 a ha st K
  have k2 := fun st K => c82 b hb st K
  have e : rangeP a b = _ := rfl
  unfold rangeP at hq
  generalize endP a = x at *
  generalize endP b = y at *
  obtain ⟨xd, xe⟩ := x
  obtain ⟨yd, ye⟩ := y
  simp only at hq k1 k2
  clear e
  by_cases h1 : xe = 2
  · rw [if_pos (.inl h1)] at hq
    obtain ⟨rfl, rfl⟩ := Prod.mk.inj hq
    subst h1
    simp +contextual -implicitDefEqProofs (maxSteps := 4000000) only [go_sem, ↓reduceIte, Nat.reduceEqDiff, Nat.reduceAdd, Int.reduceLE, Int.reduceLT, Int.reduceEq, Int.reduceToNat, Nat.reduceMod, Nat.reduceDiv, UInt8.reduceToNat, Nat.reduceLT, k1, k2, noP, noD]
  have v1 := decide_eq_false h1
  by_cases h2 : ye = 2
  · rw [if_pos (.inr (.inl h2))] at hq
    obtain ⟨rfl, rfl⟩ := Prod.mk.inj hq
    subst h2
    simp +contextual -implicitDefEqProofs (maxSteps := 4000000) only [go_sem, ↓reduceIte, Nat.reduceEqDiff, Nat.reduceAdd, Int.reduceLE, Int.reduceLT, Int.reduceEq, Int.reduceToNat, Nat.reduceMod, Nat.reduceDiv, UInt8.reduceToNat, Nat.reduceLT, k1, k2, noP, noD, v1]
  have v2 := decide_eq_false h2
  by_cases hs : a = [42] ∧ b = [42]
  · rw [if_pos (.inr (.inr hs))] at hq
    obtain ⟨rfl, rfl⟩ := Prod.mk.inj hq
    have v3 := decide_eq_true hs.1
    have v4 := decide_eq_true hs.2
    simp +contextual -implicitDefEqProofs (maxSteps := 4000000) only [go_sem, ↓reduceIte, Nat.reduceEqDiff, Nat.reduceAdd, Int.reduceLE, Int.reduceLT, Int.reduceEq, Int.reduceToNat, Nat.reduceMod, Nat.reduceDiv, UInt8.reduceToNat, Nat.reduceLT, k1, k2, noP, noD, v1, v2, v3, v4]
  rw [if_neg (by simp only [h1, h2, hs, or_self, not_false_eq_true])] at hq
  have hst : (decide (a = [42]) = true ∧ decide (b = [42]) = false) ∨ decide (a = [42]) = false := by
    by_cases h : a = [42]
    · exact .inl ⟨decide_eq_true h, decide_eq_false fun h' => hs ⟨h, h'⟩⟩
    · exact .inr (decide_eq_false h)
  by_cases h3 : xe = 0
  · have v5 : decide (xe ≠ 0) = false := decide_eq_false (by omega)
    by_cases h4 : ye = 0
    · have v6 : decide (ye ≠ 0) = false := decide_eq_false (by omega)
      rw [if_neg (by simp only [h3, h4, ne_eq, not_true, or_self, not_false_eq_true])] at hq
      obtain ⟨rfl, rfl⟩ := Prod.mk.inj hq
      rcases hst with ⟨v3, v4⟩ | v3
      · simp +contextual -implicitDefEqProofs (maxSteps := 4000000) only [go_sem, ↓reduceIte, Nat.reduceEqDiff, Nat.reduceAdd, Int.reduceLE, Int.reduceLT, Int.reduceEq, Int.reduceToNat, Nat.reduceMod, Nat.reduceDiv, UInt8.reduceToNat, Nat.reduceLT, k1, k2, v1, v2, v3, v4, v5, v6]
      · simp +contextual -implicitDefEqProofs (maxSteps := 4000000) only [go_sem, ↓reduceIte, Nat.reduceEqDiff, Nat.reduceAdd, Int.reduceLE, Int.reduceLT, Int.reduceEq, Int.reduceToNat, Nat.reduceMod, Nat.reduceDiv, UInt8.reduceToNat, Nat.reduceLT, k1, k2, v1, v2, v3, v5, v6]
    · have v6 : decide (ye ≠ 0) = true := decide_eq_true h4
      rw [if_pos (.inr h4)] at hq
      obtain ⟨rfl, rfl⟩ := Prod.mk.inj hq
      rcases hst with ⟨v3, v4⟩ | v3
      · simp +contextual -implicitDefEqProofs (maxSteps := 4000000) only [go_sem, ↓reduceIte, Nat.reduceEqDiff, Nat.reduceAdd, Int.reduceLE, Int.reduceLT, Int.reduceEq, Int.reduceToNat, Nat.reduceMod, Nat.reduceDiv, UInt8.reduceToNat, Nat.reduceLT, k1, k2, v1, v2, v3, v4, v5, v6, noP, noD]
      · simp +contextual -implicitDefEqProofs (maxSteps := 4000000) only [go_sem, ↓reduceIte, Nat.reduceEqDiff, Nat.reduceAdd, Int.reduceLE, Int.reduceLT, Int.reduceEq, Int.reduceToNat, Nat.reduceMod, Nat.reduceDiv, UInt8.reduceToNat, Nat.reduceLT, k1, k2, v1, v2, v3, v5, v6, noP, noD]
  · have v5 : decide (xe ≠ 0) = true := decide_eq_true h3
    rw [if_pos (.inl h3)] at hq
    obtain ⟨rfl, rfl⟩ := Prod.mk.inj hq
    rcases hst with ⟨v3, v4⟩ | v3
    · simp +contextual -implicitDefEqProofs (maxSteps := 4000000) only [go_sem, ↓reduceIte, Nat.reduceEqDiff, Nat.reduceAdd, Int.reduceLE, Int.reduceLT, Int.reduceEq, Int.reduceToNat, Nat.reduceMod, Nat.reduceDiv, UInt8.reduceToNat, Nat.reduceLT, k1, k2, v1, v2, v3, v4, v5, noP, noD]
    · simp +contextual -implicitDefEqProofs (maxSteps := 4000000) only [go_sem, ↓reduceIte, Nat.reduceEqDiff, Nat.reduceAdd, Int.reduceLE, Int.reduceLT, Int.reduceEq, Int.reduceToNat, Nat.reduceMod, Nat.reduceDiv, UInt8.reduceToNat, Nat.reduceLT, k1, k2, v1, v2, v3, v5, noP, noD]
end T06


namespace T06
variable [Mm]
open Go Fw Go.Proofs
set_option maxRecDepth 100000
set_option maxHeartbeats 8000000
theorem wd_sub : ∀ i : Fin 8, sub (words.map AV.str) i.val 1 = some [.str (words.getD i.val [])] := by
  intro n; match n with
  | ⟨0, _⟩ => rfl | ⟨1, _⟩ => rfl | ⟨2, _⟩ => rfl | ⟨3, _⟩ => rfl | ⟨4, _⟩ => rfl | ⟨5, _⟩ => rfl | ⟨6, _⟩ => rfl | ⟨7, _⟩ => rfl
  | ⟨n + 8, h⟩ => exact absurd h (by omega)
theorem wd_idx (i : Nat) (h : i < 8) : idxA 1 false (some 8) (.agg (words.map AV.str)) (i : Int) = some (.str (words.getD i [])) := by
  have hs := wd_sub ⟨i, h⟩
  simp only at hs
  unfold idxA
  simp only
  rw [if_pos ⟨by omega, by omega⟩, Int.toNat_natCast, Nat.mul_one, hs]; rfl
theorem l047 (x : List UInt8) (fs : List AV) (len : Nat) (hsub : sub fs 0 1 = some [.str x]) (hlen : 0 < len) (P N : Nat) (h1 h2 : List (Nat × AObj)) (nx : Nat) (hmin : min N P = N) (Q : Sig → FE → St → Prop) :
    ∀ (n i : Nat) (a : Int) (e : FE), i + n = 8 → e 43 = .agg (words.map AV.str) → e 44 = .int .i64 (i : Int) → e 7 = .ptr P 0 → e 8 = .slice fs len .no →
    (∀ e' : FE, e' 0 = e 0 → e' 2 = e 2 → e' 7 = .ptr P 0 → e' 8 = .slice fs len .no → e' 9 = e 9 → Q (.exit 0) e' { heap := (P, .cells (some 25) [.int .i64 0, .int .i64 0, .int .i64 0, .int .i64 (wdA x i a n), .int .i64 0, .int .i64 0, .int .i64 0, .int .i64 0, .int .i64 0, .int .i64 0, .int .i64 0]) :: h2, next := nx, low := N }) →
    WLoop cx ir47L0 e { heap := (P, .cells (some 25) [.int .i64 0, .int .i64 0, .int .i64 0, .int .i64 a, .int .i64 0, .int .i64 0, .int .i64 0, .int .i64 0, .int .i64 0, .int .i64 0, .int .i64 0]) :: h2, next := nx, low := N } Q
  | 0, i, a, e, hi, g43, g44, g7, g8, hQ => by
    refine WLoop.rnd (c := _) ir47L0.eq_1 ?_
    have d1 : decide ((i : Int) < 8) = false := decide_eq_false (by omega)
    simp +contextual -implicitDefEqProofs (maxSteps := 4000000) only [go_sem, ↓reduceIte, Nat.reduceEqDiff, Nat.reduceAdd, Int.reduceLE, Int.reduceLT, Int.reduceEq, Int.reduceToNat, Nat.reduceMod, Nat.reduceDiv, UInt8.reduceToNat, Nat.reduceLT, g43, g44, g7, g8, d1]
    exact hQ _ rfl rfl g7 g8 rfl
  | n + 1, i, a, e, hi, g43, g44, g7, g8, hQ => by
    have hidx := wd_idx i (by omega)
    refine WLoop.rnd (c := _) ir47L0.eq_1 ?_
    have d1 : decide ((i : Int) < 8) = true := decide_eq_true (by omega)
    have w1 := wrap_one (i := i) (by omega)
    have b1 : (0 : Int) ≤ (i : Int) := by omega
    have b2 : (i : Int) < 8 := by omega
    have b3 : (0 : Int) < ((len : Nat) : Int) := by omega
    simp only [wdA] at hQ
    by_cases h0 : 0 < i
    · have v0 : decide ((0 : Int) < (i : Int)) = true := decide_eq_true (by omega)
      by_cases hx : words.getD i [] = x
      · have v1 := decide_eq_true hx
        rw [if_pos ⟨h0, hx⟩] at hQ
        generalize words.getD i [] = ww at *
        simp +contextual -implicitDefEqProofs (maxSteps := 4000000) only [go_sem, ↓reduceIte, Nat.reduceEqDiff, Nat.reduceAdd, Int.reduceLE, Int.reduceLT, Int.reduceEq, Int.reduceToNat, Nat.reduceMod, Nat.reduceDiv, UInt8.reduceToNat, Nat.reduceLT, g43, g44, g7, g8, d1, b1, b2, b3, hidx, hsub, v0, v1, w1, Nat_mul_one, iaddrA, hmin]
        exact l047 x fs len hsub hlen P N h1 h2 nx hmin Q n (i + 1) (i : Int) _ (by omega) g43 rfl g7 g8 hQ
      · have v1 := decide_eq_false hx
        rw [if_neg fun h => hx h.2] at hQ
        generalize words.getD i [] = ww at *
        simp +contextual -implicitDefEqProofs (maxSteps := 4000000) only [go_sem, ↓reduceIte, Nat.reduceEqDiff, Nat.reduceAdd, Int.reduceLE, Int.reduceLT, Int.reduceEq, Int.reduceToNat, Nat.reduceMod, Nat.reduceDiv, UInt8.reduceToNat, Nat.reduceLT, g43, g44, g7, g8, d1, b1, b2, b3, hidx, hsub, v0, v1, w1, Nat_mul_one, iaddrA]
        exact l047 x fs len hsub hlen P N h1 h2 nx hmin Q n (i + 1) a _ (by omega) g43 rfl g7 g8 hQ
    · have v0 : decide ((0 : Int) < (i : Int)) = false := decide_eq_false (by omega)
      rw [if_neg fun h => h0 h.1] at hQ
      generalize words.getD i [] = ww at *
      simp +contextual -implicitDefEqProofs (maxSteps := 4000000) only [go_sem, ↓reduceIte, Nat.reduceEqDiff, Nat.reduceAdd, Int.reduceLE, Int.reduceLT, Int.reduceEq, Int.reduceToNat, Nat.reduceMod, Nat.reduceDiv, UInt8.reduceToNat, Nat.reduceLT, g43, g44, g7, g8, d1, b1, b2, b3, hidx, hsub, v0, w1, Nat_mul_one, iaddrA]
      exact l047 x fs len hsub hlen P N h1 h2 nx hmin Q n (i + 1) a _ (by omega) g43 rfl g7 g8 hQ
def wA (a b c : Int) (i : Nat) (w : Int) : Nat → Int
  | 0 => w
  | n + 1 => wA a b c (i + 1) (worst1 w ([a, b, c].getD i 0)) n
theorem er_idx (a b c : Int) : ∀ i : Nat, i < 3 → idxA 1 false (some 3) (.agg [.int .i64 a, .int .i64 b, .int .i64 c]) (i : Int) = some (.int .i64 ([a, b, c].getD i 0))
  | 0, _ => rfl
  | 1, _ => rfl
  | 2, _ => rfl
  | i + 3, h => absurd h (by omega)
theorem l147 (a b c : Int) (st : St) (Q : Sig → FE → St → Prop) :
    ∀ (n i : Nat) (w : Int) (e : FE), i + n = 3 → e 137 = .agg [.int .i64 a, .int .i64 b, .int .i64 c] → e 138 = .int .i64 (i : Int) → e 13 = .int .i64 w →
    (∀ e' : FE, e' 2 = e 2 → e' 7 = e 7 → e' 13 = .int .i64 (wA a b c i w n) → Q (.exit 2) e' st) →
    WLoop cx ir47L1 e st Q
  | 0, i, w, e, hi, g1, g2, g3, hQ => by
    refine WLoop.rnd (c := _) ir47L1.eq_1 ?_
    have d1 : decide ((i : Int) < 3) = false := decide_eq_false (by omega)
    simp +contextual -implicitDefEqProofs (maxSteps := 4000000) only [go_sem, ↓reduceIte, Nat.reduceEqDiff, Nat.reduceAdd, Int.reduceLE, Int.reduceLT, Int.reduceEq, Int.reduceToNat, Nat.reduceMod, Nat.reduceDiv, UInt8.reduceToNat, Nat.reduceLT, g1, g2, g3, d1]
    exact hQ _ rfl rfl g3
  | n + 1, i, w, e, hi, g1, g2, g3, hQ => by
    refine WLoop.rnd (c := _) ir47L1.eq_1 ?_
    have d1 : decide ((i : Int) < 3) = true := decide_eq_true (by omega)
    have w1 := wrap_one (i := i) (by omega)
    have hx := er_idx a b c i (by omega)
    simp only [wA] at hQ
    generalize [a, b, c].getD i 0 = x at *
    unfold worst1 at hQ
    by_cases h2 : x = 2
    · have v1 := decide_eq_true h2
      rw [if_pos (.inl h2)] at hQ
      simp +contextual -implicitDefEqProofs (maxSteps := 4000000) only [go_sem, ↓reduceIte, Nat.reduceEqDiff, Nat.reduceAdd, Int.reduceLE, Int.reduceLT, Int.reduceEq, Int.reduceToNat, Nat.reduceMod, Nat.reduceDiv, UInt8.reduceToNat, Nat.reduceLT, g1, g2, g3, d1, w1, hx, v1]
      exact l147 a b c st Q n (i + 1) x _ (by omega) g1 rfl rfl hQ
    · have v1 := decide_eq_false h2
      by_cases h0 : w = 0
      · have v2 := decide_eq_true h0
        rw [if_pos (.inr h0)] at hQ
        simp +contextual -implicitDefEqProofs (maxSteps := 4000000) only [go_sem, ↓reduceIte, Nat.reduceEqDiff, Nat.reduceAdd, Int.reduceLE, Int.reduceLT, Int.reduceEq, Int.reduceToNat, Nat.reduceMod, Nat.reduceDiv, UInt8.reduceToNat, Nat.reduceLT, g1, g2, g3, d1, w1, hx, v1, v2]
        exact l147 a b c st Q n (i + 1) x _ (by omega) g1 rfl rfl hQ
      · have v2 := decide_eq_false h0
        rw [if_neg (by simp [h0, h2])] at hQ
        simp +contextual -implicitDefEqProofs (maxSteps := 4000000) only [go_sem, ↓reduceIte, Nat.reduceEqDiff, Nat.reduceAdd, Int.reduceLE, Int.reduceLT, Int.reduceEq, Int.reduceToNat, Nat.reduceMod, Nat.reduceDiv, UInt8.reduceToNat, Nat.reduceLT, g1, g2, g3, d1, w1, hx, v1, v2]
        exact l147 a b c st Q n (i + 1) w _ (by omega) g1 rfl g3 hQ
theorem tail_two (w : Int) (a x y m d : List UInt8) : tailP w [a, x] y m d = if a = WEEK then (if weekBad x = true then (⟨0, 0, 0, w, weekV x, noD, noD⟩, 2) else goodP w (weekV x) y m d) else (⟨0, 0, 0, w, 0, noD, noD⟩, 2) := rfl
theorem slc1 (v : AV) (l : List AV) (n : Nat) (h : l.length = n) : sliceA 1 (.slice (v :: l) (n + 1) .no) (some (.int .i64 1)) none none = some (.slice l n .no) := by
  subst h
  simp only [sliceA, bounds]
  rw [if_pos (by simp), if_pos (by omega)]
  simp
theorem cut_len (b a : List UInt8) : (cutS b a).1.length ≤ a.length ∧ (cutS b a).2.1.length ≤ a.length := by
  unfold cutS
  split
  · simp; omega
  · simp
theorem c47 (s : List UInt8) (hs : s.length ≤ 1000) (q : Pat) (r : Int) (hq : parseP s = (q, r)) (st : St) (K : AV → St → Prop) : CallW cx 47 [.str s] st K = K (.tuple [.agg [.int .i64 q.y, .int .i64 q.m, .int .i64 q.d, .int .i64 q.w, .int .i64 q.k, .int .i64 q.f.y, .int .i64 q.f.m, .int .i64 q.f.d, .int .i64 q.t.y, .int .i64 q.t.m, .int .i64 q.t.d], .int .i64 r]) st := by
  refine CallW.eq (CallW.fn' (fn := ir47) rfl rfl (by kernel_rfl) ir47.eq_1 ?_) K
  unfold parseP at hq
  have kc := fun st K => c69 s TO (by omega) (by decide) st K
  have hcl := cut_len TO s
  have hTO : TO = [32, 116, 111, 32] := rfl
  generalize cutS TO s = ct at *
  rw [hTO] at kc
  obtain ⟨ca, cb, ok⟩ := ct
  simp only at hq kc hcl
  refine W_cut (fun e => e 0 = .str s ∧ e 2 = .ptr st.next 0) { heap := (st.next, .cells (some 25) [.int .i64 0, .int .i64 0, .int .i64 0, .int .i64 0, .int .i64 0, .int .i64 0, .int .i64 0, .int .i64 0, .int .i64 0, .int .i64 0, .int .i64 0]) :: st.heap, next := st.next + 1, low := st.next } (fun B Q hB => ?_) (fun e hP => ?_)
  · simp +contextual -implicitDefEqProofs (maxSteps := 4000000) only [go_sem, ↓reduceIte, Nat.reduceEqDiff, Nat.reduceAdd, Int.reduceLE, Int.reduceLT, Int.reduceEq, Int.reduceToNat, Nat.reduceMod, Nat.reduceDiv, UInt8.reduceToNat, Nat.reduceLT]
    exact hB _ ⟨rfl, rfl⟩
  obtain ⟨g0, g2⟩ := hP
  cases ok
  case true =>
    rw [if_pos rfl] at hq
    have kr := fun st K => c70 ca cb (by omega) (by omega) q r hq st K
    simp +contextual -implicitDefEqProofs (maxSteps := 4000000) only [go_sem, ↓reduceIte, Nat.reduceEqDiff, Nat.reduceAdd, Int.reduceLE, Int.reduceLT, Int.reduceEq, Int.reduceToNat, Nat.reduceMod, Nat.reduceDiv, UInt8.reduceToNat, Nat.reduceLT, g0, g2, kc, kr]
  rw [if_neg (by simp)] at hq
  refine W_cut (fun e => e 0 = .str s ∧ e 2 = .ptr st.next 0) { heap := (st.next, .cells (some 25) [.int .i64 0, .int .i64 0, .int .i64 0, .int .i64 0, .int .i64 0, .int .i64 0, .int .i64 0, .int .i64 0, .int .i64 0, .int .i64 0, .int .i64 0]) :: st.heap, next := st.next + 1, low := st.next } (fun B Q hB => ?_) (fun e hP => ?_)
  · simp +contextual -implicitDefEqProofs (maxSteps := 4000000) only [go_sem, ↓reduceIte, Nat.reduceEqDiff, Nat.reduceAdd, Int.reduceLE, Int.reduceLT, Int.reduceEq, Int.reduceToNat, Nat.reduceMod, Nat.reduceDiv, UInt8.reduceToNat, Nat.reduceLT, g0, g2, kc]
    exact hB _ ⟨g0, g2⟩
  obtain ⟨g0, g2⟩ := hP
  refine W_cut (fun e => e 0 = .str s ∧ e 2 = .ptr st.next 0 ∧ e 7 = .ptr (st.next + 1) 0) { heap := (st.next + 1, .cells (some 25) [.int .i64 0, .int .i64 0, .int .i64 0, .int .i64 0, .int .i64 0, .int .i64 0, .int .i64 0, .int .i64 0, .int .i64 0, .int .i64 0, .int .i64 0]) :: (st.next, .cells (some 25) [.int .i64 0, .int .i64 0, .int .i64 0, .int .i64 0, .int .i64 0, .int .i64 0, .int .i64 0, .int .i64 0, .int .i64 0, .int .i64 0, .int .i64 0]) :: st.heap, next := st.next + 2, low := st.next } (fun B Q hB => ?_) (fun e hP => ?_)
  · simp +contextual -implicitDefEqProofs (maxSteps := 4000000) only [go_sem, ↓reduceIte, Nat.reduceEqDiff, Nat.reduceAdd, Int.reduceLE, Int.reduceLT, Int.reduceEq, Int.reduceToNat, Nat.reduceMod, Nat.reduceDiv, UInt8.reduceToNat, Nat.reduceLT, g0, g2]
    exact hB _ ⟨g0, g2, rfl⟩
  obtain ⟨g0, g2, g7⟩ := hP
  have k1 := fun st K => c71 s 32 (by omega) st K
  have hsl := split_le 32 s
  have hne := splitB_ne 32 s
  generalize splitB 32 s = ws at *
  refine W_cut (fun e => e 2 = .ptr st.next 0 ∧ e 7 = .ptr (st.next + 1) 0 ∧ e 8 = .slice (encS ws) ws.length .no) { heap := (st.next + 1, .cells (some 25) [.int .i64 0, .int .i64 0, .int .i64 0, .int .i64 0, .int .i64 0, .int .i64 0, .int .i64 0, .int .i64 0, .int .i64 0, .int .i64 0, .int .i64 0]) :: (st.next, .cells (some 25) [.int .i64 0, .int .i64 0, .int .i64 0, .int .i64 0, .int .i64 0, .int .i64 0, .int .i64 0, .int .i64 0, .int .i64 0, .int .i64 0, .int .i64 0]) :: st.heap, next := st.next + 2, low := st.next } (fun B Q hB => ?_) (fun e hP => ?_)
  · simp +contextual -implicitDefEqProofs (maxSteps := 4000000) only [go_sem, ↓reduceIte, Nat.reduceEqDiff, Nat.reduceAdd, Int.reduceLE, Int.reduceLT, Int.reduceEq, Int.reduceToNat, Nat.reduceMod, Nat.reduceDiv, UInt8.reduceToNat, Nat.reduceLT, g0, g2, g7, k1]
    exact hB _ ⟨g2, g7, rfl⟩
  obtain ⟨g2, g7, g8⟩ := hP
  obtain ⟨t, f, rfl⟩ : ∃ t f, ws = t :: f := by
    cases ws with
    | nil => exact absurd rfl hne
    | cons t f => exact ⟨t, f, rfl⟩
  have k1 := fun st K => c71 t 45 (by have := hsl t (by simp); omega) st K
  have hf : ∀ a ∈ f, a.length ≤ 1000 := fun a ha => by have := hsl a (by simp [ha]); omega
  have ht := split_le 45 t
  have ht2 := hsl t (by simp)
  simp only [wordsP] at hq
  simp only [encS, List.map_cons, List.length_cons] at g8
  generalize splitB 45 t = ds at *
  have b1 : (0 : Int) < ((f.length + 1 : Nat) : Int) := by omega
  have z0 : sub (AV.str t :: f.map AV.str) 0 1 = some [.str t] := by simp [sub]
  refine W_cut (fun e => e 2 = .ptr st.next 0 ∧ e 7 = .ptr (st.next + 1) 0 ∧ e 8 = .slice (.str t :: f.map AV.str) (f.length + 1) .no ∧ e 9 = .slice (encS ds) ds.length .no) { heap := (st.next + 1, .cells (some 25) [.int .i64 0, .int .i64 0, .int .i64 0, .int .i64 0, .int .i64 0, .int .i64 0, .int .i64 0, .int .i64 0, .int .i64 0, .int .i64 0, .int .i64 0]) :: (st.next, .cells (some 25) [.int .i64 0, .int .i64 0, .int .i64 0, .int .i64 0, .int .i64 0, .int .i64 0, .int .i64 0, .int .i64 0, .int .i64 0, .int .i64 0, .int .i64 0]) :: st.heap, next := st.next + 2, low := st.next } (fun B Q hB => ?_) (fun e hP => ?_)
  · simp +contextual -implicitDefEqProofs (maxSteps := 4000000) only [go_sem, ↓reduceIte, Nat.reduceEqDiff, Nat.reduceAdd, Int.reduceLE, Int.reduceLT, Int.reduceEq, Int.reduceToNat, Nat.reduceMod, Nat.reduceDiv, UInt8.reduceToNat, Nat.reduceLT, g2, g7, g8, k1, b1, z0]
    exact hB _ ⟨g2, g7, g8, rfl⟩
  obtain ⟨g2, g7, g8, g9⟩ := hP
  by_cases hn : ds.length = 3
  case neg =>
    have dn : decide (((ds.length : Nat) : Int) ≠ 3) = true := decide_eq_true (by omega)
    obtain ⟨rfl, rfl⟩ : q = noP ∧ r = 2 := by
      match ds, hn with
      | [], _ => exact ⟨(Prod.mk.inj hq).1.symm, (Prod.mk.inj hq).2.symm⟩
      | [_], _ => exact ⟨(Prod.mk.inj hq).1.symm, (Prod.mk.inj hq).2.symm⟩
      | [_, _], _ => exact ⟨(Prod.mk.inj hq).1.symm, (Prod.mk.inj hq).2.symm⟩
      | _ :: _ :: _ :: _ :: _, _ => exact ⟨(Prod.mk.inj hq).1.symm, (Prod.mk.inj hq).2.symm⟩
    simp +contextual -implicitDefEqProofs (maxSteps := 4000000) only [go_sem, ↓reduceIte, Nat.reduceEqDiff, Nat.reduceAdd, Int.reduceLE, Int.reduceLT, Int.reduceEq, Int.reduceToNat, Nat.reduceMod, Nat.reduceDiv, UInt8.reduceToNat, Nat.reduceLT, g2, g7, g8, g9, dn, noP, noD]
  obtain ⟨y, m, d, rfl⟩ : ∃ y m d, ds = [y, m, d] := by
    match ds, hn with
    | [y, m, d], _ => exact ⟨y, m, d, rfl⟩
  have ly := ht y (by simp)
  have lm := ht m (by simp)
  have ld := ht d (by simp)
  simp only [encS, List.map_cons, List.map_nil, List.length_cons, List.length_nil] at g9
  simp only at hq
  have v0 : decide ((3 : Int) ≠ 3) = false := by decide
  refine W_cut (fun e => e 2 = .ptr st.next 0 ∧ e 7 = .ptr (st.next + 1) 0 ∧ e 8 = .slice (.str t :: f.map AV.str) (f.length + 1) .no ∧ e 9 = .slice [.str y, .str m, .str d] 3 .no) { heap := (st.next + 1, .cells (some 25) [.int .i64 0, .int .i64 0, .int .i64 0, .int .i64 0, .int .i64 0, .int .i64 0, .int .i64 0, .int .i64 0, .int .i64 0, .int .i64 0, .int .i64 0]) :: (st.next, .cells (some 25) [.int .i64 0, .int .i64 0, .int .i64 0, .int .i64 0, .int .i64 0, .int .i64 0, .int .i64 0, .int .i64 0, .int .i64 0, .int .i64 0, .int .i64 0]) :: st.heap, next := st.next + 2, low := st.next } (fun B Q hB => ?_) (fun e hP => ?_)
  · simp +contextual -implicitDefEqProofs (maxSteps := 4000000) only [go_sem, ↓reduceIte, Nat.reduceEqDiff, Nat.reduceAdd, Int.reduceLE, Int.reduceLT, Int.reduceEq, Int.reduceToNat, Nat.reduceMod, Nat.reduceDiv, UInt8.reduceToNat, Nat.reduceLT, g2, g7, g8, g9, v0]
    exact hB _ ⟨g2, g7, g8, g9⟩
  obtain ⟨g2, g7, g8, g9⟩ := hP
  refine W_cut (fun e => e 2 = .ptr st.next 0 ∧ e 7 = .ptr (st.next + 1) 0 ∧ e 8 = .slice (encS f) f.length .no ∧ e 9 = .slice [.str y, .str m, .str d] 3 .no) { heap := (st.next + 1, .cells (some 25) [.int .i64 0, .int .i64 0, .int .i64 0, .int .i64 0, .int .i64 0, .int .i64 0, .int .i64 0, .int .i64 0, .int .i64 0, .int .i64 0, .int .i64 0]) :: (st.next, .cells (some 25) [.int .i64 0, .int .i64 0, .int .i64 0, .int .i64 0, .int .i64 0, .int .i64 0, .int .i64 0, .int .i64 0, .int .i64 0, .int .i64 0, .int .i64 0]) :: st.heap, next := st.next + 2, low := st.next } (fun B Q hB => ?_) (fun e hP => ?_)
  · simp +contextual -implicitDefEqProofs (maxSteps := 4000000) only [go_sem, ↓reduceIte, Nat.reduceEqDiff, Nat.reduceAdd, Int.reduceLE, Int.reduceLT, Int.reduceEq, Int.reduceToNat, Nat.reduceMod, Nat.reduceDiv, UInt8.reduceToNat, Nat.reduceLT, g2, g7, g8, g9, slc1 (AV.str t) (f.map AV.str) f.length (by simp)]
    exact hB _ ⟨g2, g7, rfl, g9⟩
  obtain ⟨g2, g7, g8, g9⟩ := hP
  obtain ⟨w, f', hwf⟩ : ∃ w f', wkS f = (w, f') := ⟨_, _, rfl⟩
  rw [hwf] at hq
  simp only at hq
  have hf' : ∀ a ∈ f', a.length ≤ 1000 := by
    intro a ha
    apply hf a
    unfold wkS at hwf
    split at hwf
    · cases hwf; cases ha
    · split at hwf
      · cases hwf; simp [ha]
      · cases hwf; exact ha
  refine W_cut (fun e => e 2 = .ptr st.next 0 ∧ e 7 = .ptr (st.next + 1) 0 ∧ e 8 = .slice (encS f') f'.length .no ∧ e 9 = .slice [.str y, .str m, .str d] 3 .no) { heap := (st.next + 1, .cells (some 25) [.int .i64 0, .int .i64 0, .int .i64 0, .int .i64 w, .int .i64 0, .int .i64 0, .int .i64 0, .int .i64 0, .int .i64 0, .int .i64 0, .int .i64 0]) :: (st.next, .cells (some 25) [.int .i64 0, .int .i64 0, .int .i64 0, .int .i64 0, .int .i64 0, .int .i64 0, .int .i64 0, .int .i64 0, .int .i64 0, .int .i64 0, .int .i64 0]) :: st.heap, next := st.next + 2, low := st.next } (fun B Q hB => ?_) (fun e hP => ?_)
  · cases f with
    | nil =>
      cases hwf
      simp only [encS, List.map_nil, List.length_nil] at g8 hB
      simp +contextual -implicitDefEqProofs (maxSteps := 4000000) only [go_sem, ↓reduceIte, Nat.reduceEqDiff, Nat.reduceAdd, Int.reduceLE, Int.reduceLT, Int.reduceEq, Int.reduceToNat, Nat.reduceMod, Nat.reduceDiv, UInt8.reduceToNat, Nat.reduceLT, g2, g7, g8, g9]
      exact hB _ ⟨g2, g7, g8, g9⟩
    | cons x f =>
      have d0 : decide ((0 : Int) < ((f.length + 1 : Nat) : Int)) = true := decide_eq_true (by omega)
      have hgl : cx.gl 0 = some (words.map AV.str) := rfl
      have z0 : sub (AV.str x :: f.map AV.str) 0 1 = some [.str x] := by simp [sub]
      have hmin : min st.next (st.next + 1) = st.next := by omega
      simp only [encS, List.map_cons, List.length_cons] at g8
      unfold wkS at hwf
      simp only at hwf
      by_cases hw : wdOf x = 0
      · rw [if_neg (by simp [hw])] at hwf
        cases hwf
        simp +contextual -implicitDefEqProofs (maxSteps := 4000000) only [go_sem, ↓reduceIte, Nat.reduceEqDiff, Nat.reduceAdd, Int.reduceLE, Int.reduceLT, Int.reduceEq, Int.reduceToNat, Nat.reduceMod, Nat.reduceDiv, UInt8.reduceToNat, Nat.reduceLT, g2, g7, g8, g9, d0, hgl]
        refine l047 x _ _ z0 (by omega) (st.next + 1) st.next [] _ (st.next + 2) hmin _ 8 0 0 _ rfl rfl rfl g7 g8 ?_
        intro e' q0 q2 q7 q8 q9
        have q2 : e' 2 = .ptr st.next 0 := q2.trans g2
        have q9 : e' 9 = _ := q9.trans g9
        rw [show wdA x 0 0 8 = 0 from hw]
        simp +contextual -implicitDefEqProofs (maxSteps := 4000000) only [go_sem, ↓reduceIte, Nat.reduceEqDiff, Nat.reduceAdd, Int.reduceLE, Int.reduceLT, Int.reduceEq, Int.reduceToNat, Nat.reduceMod, Nat.reduceDiv, UInt8.reduceToNat, Nat.reduceLT, q2, q7, q8, q9]
        exact hB _ ⟨q2, q7, q8, q9⟩
      · rw [if_pos hw] at hwf
        cases hwf
        simp +contextual -implicitDefEqProofs (maxSteps := 4000000) only [go_sem, ↓reduceIte, Nat.reduceEqDiff, Nat.reduceAdd, Int.reduceLE, Int.reduceLT, Int.reduceEq, Int.reduceToNat, Nat.reduceMod, Nat.reduceDiv, UInt8.reduceToNat, Nat.reduceLT, g2, g7, g8, g9, d0, hgl]
        refine l047 x _ _ z0 (by omega) (st.next + 1) st.next [] _ (st.next + 2) hmin _ 8 0 0 _ rfl rfl rfl g7 g8 ?_
        intro e' q0 q2 q7 q8 q9
        have q2 : e' 2 = .ptr st.next 0 := q2.trans g2
        have q9 : e' 9 = _ := q9.trans g9
        have dw : decide (wdA x 0 0 8 ≠ 0) = true := decide_eq_true hw
        have hw2 : wdA x 0 0 8 = wdOf x := rfl
        rw [hw2] at dw ⊢
        generalize wdOf x = ww at *
        simp +contextual -implicitDefEqProofs (maxSteps := 4000000) only [go_sem, ↓reduceIte, Nat.reduceEqDiff, Nat.reduceAdd, Int.reduceLE, Int.reduceLT, Int.reduceEq, Int.reduceToNat, Nat.reduceMod, Nat.reduceDiv, UInt8.reduceToNat, Nat.reduceLT, q2, q7, q8, q9, dw, slc1 (AV.str x) (f'.map AV.str) f'.length (by simp)]
        exact hB _ ⟨q2, q7, rfl, q9⟩
  obtain ⟨g2, g7, g8, g9⟩ := hP
  clear hwf
  have cases4 : (f' = [] ∨ ∃ x, f' = [WEEK, x] ∧ weekBad x = false) ∨ (∃ x, f' = [WEEK, x] ∧ weekBad x = true) ∨ (∃ a x, f' = [a, x] ∧ a ≠ WEEK) ∨ (f'.length ≠ 0 ∧ f'.length ≠ 2) := by
    match f' with
    | [] => exact .inl (.inl rfl)
    | [_] => exact .inr (.inr (.inr ⟨by simp, by simp⟩))
    | [a, x] =>
      by_cases h : a = WEEK
      · subst h
        cases hb : weekBad x
        · exact .inl (.inr ⟨x, rfl, hb⟩)
        · exact .inr (.inl ⟨x, rfl, hb⟩)
      · exact .inr (.inr (.inl ⟨a, x, rfl, h⟩))
    | _ :: _ :: _ :: _ => exact .inr (.inr (.inr ⟨by simp, by simp⟩))
  have hmin : min st.next (st.next + 1) = st.next := by omega
  have i1 : ∀ x, IntKind.i64.wrap (Lib.index [49, 50, 51, 52, 53] x + 1) = Lib.index [49, 50, 51, 52, 53] x + 1 := fun x => by
    have := Lib.index_ge [49, 50, 51, 52, 53] x
    have := Lib.index_le [49, 50, 51, 52, 53] x
    simp only [List.length_cons, List.length_nil] at this
    exact wrap_i64 (by omega) (by omega)
  have k6 := fun (x : List UInt8) st K => six_any [49, 50, 51, 52, 53] x (by decide) st K
  have d22 : decide ((2 : Int) = 2) = true := by decide
  have hWE : (WEEK : List UInt8) = [119, 101, 101, 107] := rfl
  have dWE : decide (WEEK = [119, 101, 101, 107]) = true := by decide
  have zz0 : ∀ a x : List UInt8, sub [AV.str a, AV.str x] 0 1 = some [.str a] := fun a x => rfl
  have zz1 : ∀ a x : List UInt8, sub [AV.str a, AV.str x] 1 1 = some [.str x] := fun a x => rfl
  have hLA : (LAST : List UInt8) = [108, 97, 115, 116] := rfl
  rcases cases4 with hgood | ⟨x, rfl, hbad⟩ | ⟨a, x, rfl, hne⟩ | ⟨hn0, hn2⟩
  case inr.inr.inr =>
    have e1 : tailP w f' y m d = (⟨0, 0, 0, w, 0, noD, noD⟩, 2) := by
      match f', hn0, hn2 with
      | [], h, _ => exact absurd rfl h
      | [_], _, _ => rfl
      | [_, _], _, h => exact absurd rfl h
      | _ :: _ :: _ :: _, _, _ => rfl
    rw [e1] at hq
    obtain ⟨rfl, rfl⟩ := Prod.mk.inj hq
    have d2 : decide (((f'.length : Nat) : Int) = 2) = false := decide_eq_false (by omega)
    have d0 : decide (((f'.length : Nat) : Int) ≠ 0) = true := decide_eq_true (by omega)
    simp +contextual -implicitDefEqProofs (maxSteps := 4000000) only [go_sem, ↓reduceIte, Nat.reduceEqDiff, Nat.reduceAdd, Int.reduceLE, Int.reduceLT, Int.reduceEq, Int.reduceToNat, Nat.reduceMod, Nat.reduceDiv, UInt8.reduceToNat, Nat.reduceLT, g2, g7, g8, g9, d2, d0, noD]
  case inr.inr.inl =>
    have e1 : tailP w [a, x] y m d = (⟨0, 0, 0, w, 0, noD, noD⟩, 2) := by
      rw [tail_two, if_neg hne]
    rw [e1] at hq
    obtain ⟨rfl, rfl⟩ := Prod.mk.inj hq
    have da : decide (a = [119, 101, 101, 107]) = false := decide_eq_false hne
    have d0 : decide ((2 : Int) ≠ 0) = true := by decide
    simp only [encS, List.map_cons, List.map_nil, List.length_cons, List.length_nil] at g8
    simp +contextual -implicitDefEqProofs (maxSteps := 4000000) only [go_sem, ↓reduceIte, Nat.reduceEqDiff, Nat.reduceAdd, Int.reduceLE, Int.reduceLT, Int.reduceEq, Int.reduceToNat, Nat.reduceMod, Nat.reduceDiv, UInt8.reduceToNat, Nat.reduceLT, g2, g7, g8, g9, d22, d0, da, zz0, noD]
  case inr.inl =>
    have e1 : tailP w [WEEK, x] y m d = (⟨0, 0, 0, w, weekV x, noD, noD⟩, 2) := by
      rw [tail_two, if_pos rfl, if_pos hbad]
    rw [e1] at hq
    obtain ⟨rfl, rfl⟩ := Prod.mk.inj hq
    simp only [encS, List.map_cons, List.map_nil, List.length_cons, List.length_nil] at g8
    have hk := k6 x
    have hi := i1 x
    unfold weekBad weekV at hbad
    unfold weekV
    by_cases hl : x = LAST
    · rw [if_pos hl] at hbad; simp at hbad
    · rw [if_neg hl] at hbad ⊢
      have dl : decide (x = [108, 97, 115, 116]) = false := decide_eq_false hl
      generalize Lib.index [49, 50, 51, 52, 53] x = kx at *
      by_cases h0 : kx + 1 = 0
      · have v1 := decide_eq_true h0
        simp +contextual -implicitDefEqProofs (maxSteps := 4000000) only [go_sem, ↓reduceIte, Nat.reduceEqDiff, Nat.reduceAdd, Int.reduceLE, Int.reduceLT, Int.reduceEq, Int.reduceToNat, Nat.reduceMod, Nat.reduceDiv, UInt8.reduceToNat, Nat.reduceLT, g2, g7, g8, g9, d22, dWE, zz0, zz1, hk, hi, dl, v1, hmin, noD]
      · have v1 := decide_eq_false h0
        simp only [v1, Bool.false_or, Bool.and_eq_true] at hbad
        simp +contextual -implicitDefEqProofs (maxSteps := 4000000) only [go_sem, ↓reduceIte, Nat.reduceEqDiff, Nat.reduceAdd, Int.reduceLE, Int.reduceLT, Int.reduceEq, Int.reduceToNat, Nat.reduceMod, Nat.reduceDiv, UInt8.reduceToNat, Nat.reduceLT, g2, g7, g8, g9, d22, dWE, zz0, zz1, hk, hi, dl, v1, hbad.1, hbad.2, hmin, noD]
  obtain ⟨k, hk0, hq⟩ : ∃ k, ((f' = [] ∧ k = 0) ∨ ∃ x, f' = [WEEK, x] ∧ weekBad x = false ∧ k = weekV x) ∧ goodP w k y m d = (q, r) := by
    rcases hgood with rfl | ⟨x, rfl, hb⟩
    · exact ⟨0, .inl ⟨rfl, rfl⟩, hq⟩
    · refine ⟨weekV x, .inr ⟨x, rfl, hb, rfl⟩, ?_⟩
      rw [show tailP w [WEEK, x] y m d = goodP w (weekV x) y m d by rw [tail_two, if_pos rfl, hb, if_neg (by simp)]] at hq
      exact hq
  refine W_cut (fun e => e 2 = .ptr st.next 0 ∧ e 7 = .ptr (st.next + 1) 0 ∧ e 8 = .slice [] 0 .no ∧ e 9 = .slice [.str y, .str m, .str d] 3 .no) { heap := (st.next + 1, .cells (some 25) [.int .i64 0, .int .i64 0, .int .i64 0, .int .i64 w, .int .i64 k, .int .i64 0, .int .i64 0, .int .i64 0, .int .i64 0, .int .i64 0, .int .i64 0]) :: (st.next, .cells (some 25) [.int .i64 0, .int .i64 0, .int .i64 0, .int .i64 0, .int .i64 0, .int .i64 0, .int .i64 0, .int .i64 0, .int .i64 0, .int .i64 0, .int .i64 0]) :: st.heap, next := st.next + 2, low := st.next } (fun B Q hB => ?_) (fun e hP => ?_)
  · rcases hk0 with ⟨rfl, rfl⟩ | ⟨x, rfl, hb, rfl⟩
    · simp only [encS, List.map_nil, List.length_nil] at g8
      have d2 : decide ((0 : Int) = 2) = false := by decide
      simp +contextual -implicitDefEqProofs (maxSteps := 4000000) only [go_sem, ↓reduceIte, Nat.reduceEqDiff, Nat.reduceAdd, Int.reduceLE, Int.reduceLT, Int.reduceEq, Int.reduceToNat, Nat.reduceMod, Nat.reduceDiv, UInt8.reduceToNat, Nat.reduceLT, g2, g7, g8, g9, d2]
      exact hB _ ⟨g2, g7, g8, g9⟩
    · simp only [encS, List.map_cons, List.map_nil, List.length_cons, List.length_nil] at g8
      have hk := k6 x
      have hi := i1 x
      have sl2 : sliceA 1 (.slice [AV.str WEEK, AV.str x] 2 .no) (some (.int .i64 2)) none none = some (.slice [] 0 .no) := rfl
      unfold weekBad weekV at hb
      unfold weekV at hB
      by_cases hl : x = LAST
      · subst hl
        rw [if_pos rfl] at hb hB
        have dl : decide (LAST = [108, 97, 115, 116]) = true := by decide
        have d60 : decide ((6 : Int) = 0) = false := by decide
        have d66 : decide ((6 : Int) ≠ 6) = false := by decide
        have dl2 : decide (((LAST.length : Nat) : Int) ≠ 1) = true := by decide
        simp +contextual -implicitDefEqProofs (maxSteps := 4000000) only [go_sem, ↓reduceIte, Nat.reduceEqDiff, Nat.reduceAdd, Int.reduceLE, Int.reduceLT, Int.reduceEq, Int.reduceToNat, Nat.reduceMod, Nat.reduceDiv, UInt8.reduceToNat, Nat.reduceLT, g2, g7, g8, g9, d22, dWE, zz0, zz1, hk, hi, dl, dl2, d60, d66, hmin, sl2]
        exact hB _ ⟨g2, g7, rfl, g9⟩
      · rw [if_neg hl] at hb hB
        have dl : decide (x = [108, 97, 115, 116]) = false := decide_eq_false hl
        generalize Lib.index [49, 50, 51, 52, 53] x = kx at *
        simp only [Bool.or_eq_false_iff] at hb
        cases h1 : decide ((x.length : Int) ≠ 1)
        · simp +contextual -implicitDefEqProofs (maxSteps := 4000000) only [go_sem, ↓reduceIte, Nat.reduceEqDiff, Nat.reduceAdd, Int.reduceLE, Int.reduceLT, Int.reduceEq, Int.reduceToNat, Nat.reduceMod, Nat.reduceDiv, UInt8.reduceToNat, Nat.reduceLT, g2, g7, g8, g9, d22, dWE, zz0, zz1, hk, hi, dl, hb.1, h1, hmin, sl2]
          exact hB _ ⟨g2, g7, rfl, g9⟩
        · rw [h1, Bool.true_and] at hb
          simp +contextual -implicitDefEqProofs (maxSteps := 4000000) only [go_sem, ↓reduceIte, Nat.reduceEqDiff, Nat.reduceAdd, Int.reduceLE, Int.reduceLT, Int.reduceEq, Int.reduceToNat, Nat.reduceMod, Nat.reduceDiv, UInt8.reduceToNat, Nat.reduceLT, g2, g7, g8, g9, d22, dWE, zz0, zz1, hk, hi, dl, hb.1, hb.2, h1, hmin, sl2]
          exact hB _ ⟨g2, g7, rfl, g9⟩
  obtain ⟨g2, g7, g8, g9⟩ := hP
  clear hk0 hgood
  unfold goodP at hq
  obtain ⟨rfl, rfl⟩ := Prod.mk.inj hq
  have ry := readY y
  have rm := readM m
  have rd := readD d
  generalize yearP y = ry' at *
  generalize monP m = rm' at *
  generalize dayP d = rd' at *
  obtain ⟨yv, ye⟩ := ry'
  obtain ⟨mv, me⟩ := rm'
  obtain ⟨dv, de⟩ := rd'
  simp only
  have d00 : decide ((0 : Int) ≠ 0) = false := by decide
  refine W_cut (fun e => e 2 = .ptr st.next 0 ∧ e 7 = .ptr (st.next + 1) 0 ∧ e 9 = .slice [.str y, .str m, .str d] 3 .no) { heap := (st.next + 1, .cells (some 25) [.int .i64 0, .int .i64 0, .int .i64 0, .int .i64 w, .int .i64 k, .int .i64 0, .int .i64 0, .int .i64 0, .int .i64 0, .int .i64 0, .int .i64 0]) :: (st.next, .cells (some 25) [.int .i64 0, .int .i64 0, .int .i64 0, .int .i64 0, .int .i64 0, .int .i64 0, .int .i64 0, .int .i64 0, .int .i64 0, .int .i64 0, .int .i64 0]) :: st.heap, next := st.next + 2, low := st.next } (fun B Q hB => ?_) (fun e hP => ?_)
  · simp +contextual -implicitDefEqProofs (maxSteps := 4000000) only [go_sem, ↓reduceIte, Nat.reduceEqDiff, Nat.reduceAdd, Int.reduceLE, Int.reduceLT, Int.reduceEq, Int.reduceToNat, Nat.reduceMod, Nat.reduceDiv, UInt8.reduceToNat, Nat.reduceLT, g2, g7, g8, g9, d00]
    exact hB _ ⟨g2, g7, g9⟩
  obtain ⟨g2, g7, g9⟩ := hP
  refine W_cut (fun e => e 2 = .ptr st.next 0 ∧ e 7 = .ptr (st.next + 1) 0 ∧ e 9 = .slice [.str y, .str m, .str d] 3 .no ∧ e 12 = .ptr (st.next + 2) 0) { heap := (st.next + 2, .cells (some 90) [.int .i64 0, .int .i64 0, .int .i64 0]) :: (st.next + 1, .cells (some 25) [.int .i64 0, .int .i64 0, .int .i64 0, .int .i64 w, .int .i64 k, .int .i64 0, .int .i64 0, .int .i64 0, .int .i64 0, .int .i64 0, .int .i64 0]) :: (st.next, .cells (some 25) [.int .i64 0, .int .i64 0, .int .i64 0, .int .i64 0, .int .i64 0, .int .i64 0, .int .i64 0, .int .i64 0, .int .i64 0, .int .i64 0, .int .i64 0]) :: st.heap, next := st.next + 3, low := st.next } (fun B Q hB => ?_) (fun e hP => ?_)
  · simp +contextual -implicitDefEqProofs (maxSteps := 4000000) only [go_sem, ↓reduceIte, Nat.reduceEqDiff, Nat.reduceAdd, Int.reduceLE, Int.reduceLT, Int.reduceEq, Int.reduceToNat, Nat.reduceMod, Nat.reduceDiv, UInt8.reduceToNat, Nat.reduceLT, g2, g7, g9]
    exact hB _ ⟨g2, g7, g9, rfl⟩
  obtain ⟨g2, g7, g9, g12⟩ := hP
  have n1 : st.next + 2 + 1 = st.next + 3 := rfl
  have n2 : st.next + 3 + 1 = st.next + 4 := rfl
  have n3 : st.next + 4 + 1 = st.next + 5 := rfl
  have n4 : st.next + 5 + 1 = st.next + 6 := rfl
  have p1 : decide (st.next + 4 = st.next + 3) = false := decide_eq_false (by omega)
  have p2 : decide (st.next + 5 = st.next + 4) = false := decide_eq_false (by omega)
  have p3 : decide (st.next + 6 = st.next + 5) = false := decide_eq_false (by omega)
  have u2 : min st.next (st.next + 2) = st.next := by omega
  have u3 : min st.next (st.next + 3) = st.next := by omega
  have u4 : min st.next (st.next + 4) = st.next := by omega
  have u5 : min st.next (st.next + 5) = st.next := by omega
  have z0 : sub [AV.str y, AV.str m, AV.str d] 0 1 = some [.str y] := rfl
  have z1 : sub [AV.str y, AV.str m, AV.str d] 1 1 = some [.str m] := rfl
  have z2 : sub [AV.str y, AV.str m, AV.str d] 2 1 = some [.str d] := rfl
  refine W_cut (fun e => e 2 = .ptr st.next 0 ∧ e 7 = .ptr (st.next + 1) 0 ∧ e 9 = .slice [.str y, .str m, .str d] 3 .no ∧ e 12 = .ptr (st.next + 2) 0) { heap := (st.next + 3, .map esY) :: (st.next + 2, .cells (some 90) [.int .i64 ye, .int .i64 0, .int .i64 0]) :: (st.next + 1, .cells (some 25) [.int .i64 yv, .int .i64 0, .int .i64 0, .int .i64 w, .int .i64 k, .int .i64 0, .int .i64 0, .int .i64 0, .int .i64 0, .int .i64 0, .int .i64 0]) :: (st.next, .cells (some 25) [.int .i64 0, .int .i64 0, .int .i64 0, .int .i64 0, .int .i64 0, .int .i64 0, .int .i64 0, .int .i64 0, .int .i64 0, .int .i64 0, .int .i64 0]) :: st.heap, next := st.next + 4, low := st.next } (fun B Q hB => ?_) (fun e hP => ?_)
  · have y1 := fun K => c43 ((st.next + 2, .cells (some 90) [.int .i64 0, .int .i64 0, .int .i64 0]) :: (st.next + 1, .cells (some 25) [.int .i64 0, .int .i64 0, .int .i64 0, .int .i64 w, .int .i64 k, .int .i64 0, .int .i64 0, .int .i64 0, .int .i64 0, .int .i64 0, .int .i64 0]) :: (st.next, .cells (some 25) [.int .i64 0, .int .i64 0, .int .i64 0, .int .i64 0, .int .i64 0, .int .i64 0, .int .i64 0, .int .i64 0, .int .i64 0, .int .i64 0, .int .i64 0]) :: st.heap) (st.next + 3) (st.next + 3) (by omega) K
    have x1 := fun K => c73 y (by omega) 4 9999 (by decide) (st.next + 3) esY _ ry { heap := (st.next + 3, .map esY) :: (st.next + 2, .cells (some 90) [.int .i64 0, .int .i64 0, .int .i64 0]) :: (st.next + 1, .cells (some 25) [.int .i64 0, .int .i64 0, .int .i64 0, .int .i64 w, .int .i64 k, .int .i64 0, .int .i64 0, .int .i64 0, .int .i64 0, .int .i64 0, .int .i64 0]) :: (st.next, .cells (some 25) [.int .i64 0, .int .i64 0, .int .i64 0, .int .i64 0, .int .i64 0, .int .i64 0, .int .i64 0, .int .i64 0, .int .i64 0, .int .i64 0, .int .i64 0]) :: st.heap, next := st.next + 4, low := st.next + 4 } (by simp [Fw.look]) K
    simp +contextual -implicitDefEqProofs (maxSteps := 4000000) only [go_sem, ↓reduceIte, Nat.reduceEqDiff, Nat.reduceAdd, Int.reduceLE, Int.reduceLT, Int.reduceEq, Int.reduceToNat, Nat.reduceMod, Nat.reduceDiv, UInt8.reduceToNat, Nat.reduceLT, g2, g7, g9, g12, z0, y1, x1, n2, p1, hmin, u2, u3, iaddrA]
    exact hB _ ⟨g2, g7, g9, g12⟩
  obtain ⟨g2, g7, g9, g12⟩ := hP
  refine W_cut (fun e => e 2 = .ptr st.next 0 ∧ e 7 = .ptr (st.next + 1) 0 ∧ e 9 = .slice [.str y, .str m, .str d] 3 .no ∧ e 12 = .ptr (st.next + 2) 0) { heap := (st.next + 4, .map esM) :: (st.next + 3, .map esY) :: (st.next + 2, .cells (some 90) [.int .i64 ye, .int .i64 me, .int .i64 0]) :: (st.next + 1, .cells (some 25) [.int .i64 yv, .int .i64 mv, .int .i64 0, .int .i64 w, .int .i64 k, .int .i64 0, .int .i64 0, .int .i64 0, .int .i64 0, .int .i64 0, .int .i64 0]) :: (st.next, .cells (some 25) [.int .i64 0, .int .i64 0, .int .i64 0, .int .i64 0, .int .i64 0, .int .i64 0, .int .i64 0, .int .i64 0, .int .i64 0, .int .i64 0, .int .i64 0]) :: st.heap, next := st.next + 5, low := st.next } (fun B Q hB => ?_) (fun e hP => ?_)
  · have y1 := fun K => c44 ((st.next + 3, .map esY) :: (st.next + 2, .cells (some 90) [.int .i64 ye, .int .i64 0, .int .i64 0]) :: (st.next + 1, .cells (some 25) [.int .i64 yv, .int .i64 0, .int .i64 0, .int .i64 w, .int .i64 k, .int .i64 0, .int .i64 0, .int .i64 0, .int .i64 0, .int .i64 0, .int .i64 0]) :: (st.next, .cells (some 25) [.int .i64 0, .int .i64 0, .int .i64 0, .int .i64 0, .int .i64 0, .int .i64 0, .int .i64 0, .int .i64 0, .int .i64 0, .int .i64 0, .int .i64 0]) :: st.heap) (st.next + 4) (st.next + 4) (by omega) K
    have x1 := fun K => c73 m (by omega) 2 12 (by decide) (st.next + 4) esM _ rm { heap := (st.next + 4, .map esM) :: (st.next + 3, .map esY) :: (st.next + 2, .cells (some 90) [.int .i64 ye, .int .i64 0, .int .i64 0]) :: (st.next + 1, .cells (some 25) [.int .i64 yv, .int .i64 0, .int .i64 0, .int .i64 w, .int .i64 k, .int .i64 0, .int .i64 0, .int .i64 0, .int .i64 0, .int .i64 0, .int .i64 0]) :: (st.next, .cells (some 25) [.int .i64 0, .int .i64 0, .int .i64 0, .int .i64 0, .int .i64 0, .int .i64 0, .int .i64 0, .int .i64 0, .int .i64 0, .int .i64 0, .int .i64 0]) :: st.heap, next := st.next + 5, low := st.next + 5 } (by simp [Fw.look]) K
    simp +contextual -implicitDefEqProofs (maxSteps := 4000000) only [go_sem, ↓reduceIte, Nat.reduceEqDiff, Nat.reduceAdd, Int.reduceLE, Int.reduceLT, Int.reduceEq, Int.reduceToNat, Nat.reduceMod, Nat.reduceDiv, UInt8.reduceToNat, Nat.reduceLT, g2, g7, g9, g12, z1, y1, x1, n3, p2, hmin, u2, u4, iaddrA]
    exact hB _ ⟨g2, g7, g9, g12⟩
  obtain ⟨g2, g7, g9, g12⟩ := hP
  refine W_cut (fun e => e 2 = .ptr st.next 0 ∧ e 7 = .ptr (st.next + 1) 0 ∧ e 12 = .ptr (st.next + 2) 0) { heap := (st.next + 5, .map esD) :: (st.next + 4, .map esM) :: (st.next + 3, .map esY) :: (st.next + 2, .cells (some 90) [.int .i64 ye, .int .i64 me, .int .i64 de]) :: (st.next + 1, .cells (some 25) [.int .i64 yv, .int .i64 mv, .int .i64 dv, .int .i64 w, .int .i64 k, .int .i64 0, .int .i64 0, .int .i64 0, .int .i64 0, .int .i64 0, .int .i64 0]) :: (st.next, .cells (some 25) [.int .i64 0, .int .i64 0, .int .i64 0, .int .i64 0, .int .i64 0, .int .i64 0, .int .i64 0, .int .i64 0, .int .i64 0, .int .i64 0, .int .i64 0]) :: st.heap, next := st.next + 6, low := st.next } (fun B Q hB => ?_) (fun e hP => ?_)
  · have y1 := fun K => c45 ((st.next + 4, .map esM) :: (st.next + 3, .map esY) :: (st.next + 2, .cells (some 90) [.int .i64 ye, .int .i64 me, .int .i64 0]) :: (st.next + 1, .cells (some 25) [.int .i64 yv, .int .i64 mv, .int .i64 0, .int .i64 w, .int .i64 k, .int .i64 0, .int .i64 0, .int .i64 0, .int .i64 0, .int .i64 0, .int .i64 0]) :: (st.next, .cells (some 25) [.int .i64 0, .int .i64 0, .int .i64 0, .int .i64 0, .int .i64 0, .int .i64 0, .int .i64 0, .int .i64 0, .int .i64 0, .int .i64 0, .int .i64 0]) :: st.heap) (st.next + 5) (st.next + 5) (by omega) K
    have x1 := fun K => c73 d (by omega) 2 31 (by decide) (st.next + 5) esD _ rd { heap := (st.next + 5, .map esD) :: (st.next + 4, .map esM) :: (st.next + 3, .map esY) :: (st.next + 2, .cells (some 90) [.int .i64 ye, .int .i64 me, .int .i64 0]) :: (st.next + 1, .cells (some 25) [.int .i64 yv, .int .i64 mv, .int .i64 0, .int .i64 w, .int .i64 k, .int .i64 0, .int .i64 0, .int .i64 0, .int .i64 0, .int .i64 0, .int .i64 0]) :: (st.next, .cells (some 25) [.int .i64 0, .int .i64 0, .int .i64 0, .int .i64 0, .int .i64 0, .int .i64 0, .int .i64 0, .int .i64 0, .int .i64 0, .int .i64 0, .int .i64 0]) :: st.heap, next := st.next + 6, low := st.next + 6 } (by simp [Fw.look]) K
    simp +contextual -implicitDefEqProofs (maxSteps := 4000000) only [go_sem, ↓reduceIte, Nat.reduceEqDiff, Nat.reduceAdd, Int.reduceLE, Int.reduceLT, Int.reduceEq, Int.reduceToNat, Nat.reduceMod, Nat.reduceDiv, UInt8.reduceToNat, Nat.reduceLT, g2, g7, g9, g12, z2, y1, x1, n4, p3, hmin, u2, u5, iaddrA]
    exact hB _ ⟨g2, g7, g12⟩
  obtain ⟨g2, g7, g12⟩ := hP
  refine W_cut (fun e => e 2 = .ptr st.next 0 ∧ e 7 = .ptr (st.next + 1) 0 ∧ e 12 = .ptr (st.next + 2) 0 ∧ e 13 = .int .i64 0) { heap := (st.next + 5, .map esD) :: (st.next + 4, .map esM) :: (st.next + 3, .map esY) :: (st.next + 2, .cells (some 90) [.int .i64 ye, .int .i64 me, .int .i64 de]) :: (st.next + 1, .cells (some 25) [.int .i64 yv, .int .i64 mv, .int .i64 dv, .int .i64 w, .int .i64 k, .int .i64 0, .int .i64 0, .int .i64 0, .int .i64 0, .int .i64 0, .int .i64 0]) :: (st.next, .cells (some 25) [.int .i64 0, .int .i64 0, .int .i64 0, .int .i64 0, .int .i64 0, .int .i64 0, .int .i64 0, .int .i64 0, .int .i64 0, .int .i64 0, .int .i64 0]) :: st.heap, next := st.next + 6, low := st.next } (fun B Q hB => ?_) (fun e hP => ?_)
  · simp +contextual -implicitDefEqProofs (maxSteps := 4000000) only [go_sem, ↓reduceIte, Nat.reduceEqDiff, Nat.reduceAdd, Int.reduceLE, Int.reduceLT, Int.reduceEq, Int.reduceToNat, Nat.reduceMod, Nat.reduceDiv, UInt8.reduceToNat, Nat.reduceLT, g2, g7, g12]
    exact hB _ ⟨g2, g7, g12, rfl⟩
  obtain ⟨g2, g7, g12, g13⟩ := hP
  refine W_cut (fun e => e 2 = .ptr st.next 0 ∧ e 7 = .ptr (st.next + 1) 0 ∧ e 13 = .int .i64 (worst ye me de)) { heap := (st.next + 5, .map esD) :: (st.next + 4, .map esM) :: (st.next + 3, .map esY) :: (st.next + 2, .cells (some 90) [.int .i64 ye, .int .i64 me, .int .i64 de]) :: (st.next + 1, .cells (some 25) [.int .i64 yv, .int .i64 mv, .int .i64 dv, .int .i64 w, .int .i64 k, .int .i64 0, .int .i64 0, .int .i64 0, .int .i64 0, .int .i64 0, .int .i64 0]) :: (st.next, .cells (some 25) [.int .i64 0, .int .i64 0, .int .i64 0, .int .i64 0, .int .i64 0, .int .i64 0, .int .i64 0, .int .i64 0, .int .i64 0, .int .i64 0, .int .i64 0]) :: st.heap, next := st.next + 6, low := st.next } (fun B Q hB => ?_) (fun e hP => ?_)
  · simp +contextual -implicitDefEqProofs (maxSteps := 4000000) only [go_sem, ↓reduceIte, Nat.reduceEqDiff, Nat.reduceAdd, Int.reduceLE, Int.reduceLT, Int.reduceEq, Int.reduceToNat, Nat.reduceMod, Nat.reduceDiv, UInt8.reduceToNat, Nat.reduceLT, g2, g7, g12, g13]
    refine l147 ye me de _ _ 3 0 0 _ rfl rfl rfl g13 ?_
    intro e' q2 q7 q13
    have q2 : e' 2 = .ptr st.next 0 := q2.trans g2
    have q7 : e' 7 = _ := q7.trans g7
    have q13 : e' 13 = .int .i64 (worst ye me de) := q13
    simp +contextual -implicitDefEqProofs (maxSteps := 4000000) only [go_sem, ↓reduceIte, Nat.reduceEqDiff, Nat.reduceAdd, Int.reduceLE, Int.reduceLT, Int.reduceEq, Int.reduceToNat, Nat.reduceMod, Nat.reduceDiv, UInt8.reduceToNat, Nat.reduceLT, q2, q7, q13]
    exact hB _ ⟨q2, q7, q13⟩
  obtain ⟨g2, g7, g13⟩ := hP
  simp +contextual -implicitDefEqProofs (maxSteps := 4000000) only [go_sem, ↓reduceIte, Nat.reduceEqDiff, Nat.reduceAdd, Int.reduceLE, Int.reduceLT, Int.reduceEq, Int.reduceToNat, Nat.reduceMod, Nat.reduceDiv, UInt8.reduceToNat, Nat.reduceLT, g2, g7, g13, hmin, noD]
def ansP (s : List UInt8) : Pat × Int := if (parseP s).2 = 0 then (if chkP (parseP s).1 = 0 then ((parseP s).1, 0) else (noP, chkP (parseP s).1)) else (noP, (parseP s).2)
theorem c17 (s : List UInt8) (hs : s.length ≤ 1000) (q : Pat) (r : Int) (hq : ansP s = (q, r)) (st : St) (K : AV → St → Prop) : CallW cx 17 [.str s] st K = K (.tuple [.agg [.int .i64 q.y, .int .i64 q.m, .int .i64 q.d, .int .i64 q.w, .int .i64 q.k, .int .i64 q.f.y, .int .i64 q.f.m, .int .i64 q.f.d, .int .i64 q.t.y, .int .i64 q.t.m, .int .i64 q.t.d], .int .i64 r]) st := by
  refine CallW.eq (CallW.fn' (fn := ir17) rfl rfl (by kernel_rfl) ir17.eq_1 ?_) K
  have kp := fun q r hq st K => c47 s hs q r hq st K
  unfold ansP at hq
  generalize parseP s = x at *
  obtain ⟨p, e⟩ := x
  have kp := fun st K => kp p e rfl st K
  simp only at hq
  have hmin : min st.next (st.next + 1) = st.next := by omega
  by_cases he : e = 0
  · subst he
    rw [if_pos rfl] at hq
    by_cases hc : chkP p = 0
    · rw [if_pos hc] at hq
      obtain ⟨rfl, rfl⟩ := Prod.mk.inj hq
      have v1 : decide (chkP p ≠ 0) = false := decide_eq_false (by omega)
      simp +contextual -implicitDefEqProofs (maxSteps := 4000000) only [go_sem, ↓reduceIte, Nat.reduceEqDiff, Nat.reduceAdd, Int.reduceLE, Int.reduceLT, Int.reduceEq, Int.reduceToNat, Nat.reduceMod, Nat.reduceDiv, UInt8.reduceToNat, Nat.reduceLT, kp, c12, v1, hmin]
    · rw [if_neg hc] at hq
      obtain ⟨rfl, rfl⟩ := Prod.mk.inj hq
      have v1 : decide (chkP p ≠ 0) = true := decide_eq_true hc
      simp +contextual -implicitDefEqProofs (maxSteps := 4000000) only [go_sem, ↓reduceIte, Nat.reduceEqDiff, Nat.reduceAdd, Int.reduceLE, Int.reduceLT, Int.reduceEq, Int.reduceToNat, Nat.reduceMod, Nat.reduceDiv, UInt8.reduceToNat, Nat.reduceLT, kp, c12, v1, hmin, noP, noD]
  · rw [if_neg he] at hq
    obtain ⟨rfl, rfl⟩ := Prod.mk.inj hq
    have v0 : decide (e = 0) = false := decide_eq_false he
    have v1 : decide (e ≠ 0) = true := decide_eq_true he
    simp +contextual -implicitDefEqProofs (maxSteps := 4000000) only [go_sem, ↓reduceIte, Nat.reduceEqDiff, Nat.reduceAdd, Int.reduceLE, Int.reduceLT, Int.reduceEq, Int.reduceToNat, Nat.reduceMod, Nat.reduceDiv, UInt8.reduceToNat, Nat.reduceLT, kp, v0, v1, hmin, noP, noD]
end T06


namespace T06
variable [Mm]
open Go Fw Go.Proofs
set_option maxRecDepth 100000
set_option maxHeartbeats 4000000
end T06


namespace T06
variable [Mm]
open Go Fw Go.Proofs
set_option maxRecDepth 100000
set_option maxHeartbeats 8000000
end T06


namespace T06
variable [Mm]
open Go Fw Go.Proofs
set_option maxRecDepth 100000
set_option maxHeartbeats 8000000
end T06


namespace T06
variable [Mm]
open Go Fw Go.Proofs
set_option maxRecDepth 100000
set_option maxHeartbeats 8000000
def TWO : List UInt8 := [116, 111]
def finR (p : Pat) : Pat × Int := if chkP p = 0 then (p, 0) else (noP, chkP p)
end T06
