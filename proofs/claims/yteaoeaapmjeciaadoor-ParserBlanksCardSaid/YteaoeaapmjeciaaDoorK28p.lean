/- Parts of the proof, one behind the other. -/
import Derived.Test.YteaoeaapmjeciaaDoorK28h
import Derived.Test.YteaoeaapmjeciaaDoorFwX
import Derived.Test.YteaoeaapmjeciaaDoorK28a
set_option linter.unusedSimpArgs false
set_option linter.unusedVariables false
/- The parser's tree: fits, build. -/
namespace T08
open Go Fw Go.Proofs
set_option maxRecDepth 100000
set_option maxHeartbeats 4000000
set_option linter.unusedSimpArgs false
set_option linter.unusedVariables false
theorem c27n (d ab : Int) (s : St) (K : AV → St → Prop) : CallW cx 27 [.int .i64 d, .nilptr, .int .i64 ab] s K = K (.bool (decide (d = 0))) s := by
  refine CallW.eq (CallW.fn' (fn := ir27) rfl rfl (by kernel_rfl) ir27.eq_1 ?_) K
  have q1 : evEq EqK.ptr AV.nilptr AV.nilptr = some true := rfl
  simp (config := {contextual := true, implicitDefEqProofs := false, maxSteps := 4000000}) only [go_sem, ↓reduceIte, Bool.false_eq_true, Nat.reduceEqDiff, Nat.reduceAdd, Int.reduceLE, Int.reduceLT, Int.reduceEq, Int.reduceToNat, Int.toNat_natCast, Int.cast_ofNat_Int, Int.natCast_one, Nat.reduceMod, Nat.reduceDiv, UInt8.reduceToNat, Nat.reduceLT, q1]
theorem c27 (d ab : Int) (h0 : -1000000 ≤ ab) (h1 : ab ≤ 1000000) (cs : List AV) (off : Nat) (h : Bool) (hs : sub cs (off + 1) 1 = some [.bool h]) (s : St) (K : AV → St → Prop) : CallW cx 27 [.int .i64 d, .vptr cs off, .int .i64 ab] s K = K (.bool (decide (d ≤ ab) || (decide (d = ab + 1) && h))) s := by
  refine CallW.eq (CallW.fn' (fn := ir27) rfl rfl (by kernel_rfl) ir27.eq_1 ?_) K
  have w1 : IntKind.i64.wrap (ab + 1) = ab + 1 := wrap_i64 (by omega) (by omega)
  have q1 : evEq EqK.ptr (AV.vptr cs off) AV.nilptr = some false := rfl
  cases e1 : decide (d ≤ ab) with
  | true => simp (config := {contextual := true, implicitDefEqProofs := false, maxSteps := 4000000}) only [go_sem, ↓reduceIte, Bool.false_eq_true, Nat.reduceEqDiff, Nat.reduceAdd, Int.reduceLE, Int.reduceLT, Int.reduceEq, Int.reduceToNat, Int.toNat_natCast, Int.cast_ofNat_Int, Int.natCast_one, Nat.reduceMod, Nat.reduceDiv, UInt8.reduceToNat, Nat.reduceLT, q1, e1, w1]
  | false =>
    cases e2 : decide (d = ab + 1) with
    | false => simp (config := {contextual := true, implicitDefEqProofs := false, maxSteps := 4000000}) only [go_sem, ↓reduceIte, Bool.false_eq_true, Nat.reduceEqDiff, Nat.reduceAdd, Int.reduceLE, Int.reduceLT, Int.reduceEq, Int.reduceToNat, Int.toNat_natCast, Int.cast_ofNat_Int, Int.natCast_one, Nat.reduceMod, Nat.reduceDiv, UInt8.reduceToNat, Nat.reduceLT, q1, e1, e2, w1]
    | true => simp (config := {contextual := true, implicitDefEqProofs := false, maxSteps := 4000000}) only [go_sem, ↓reduceIte, Bool.false_eq_true, Nat.reduceEqDiff, Nat.reduceAdd, Int.reduceLE, Int.reduceLT, Int.reduceEq, Int.reduceToNat, Int.toNat_natCast, Int.cast_ofNat_Int, Int.natCast_one, Nat.reduceMod, Nat.reduceDiv, UInt8.reduceToNat, Nat.reduceLT, q1, e1, e2, w1, hs]
def setK (l : Line) (ks : List Line) : Line := .mk l.tn l.toks l.head (true, false) ks l.pos
theorem encL_setK (l : Line) (ks : List Line) : encL (setK l ks) = [slt l.tn l.toks.length (encTs l.toks), .bool l.head, slt (true, false) ks.length (encLs ks), .int .i64 l.pos] := by rw [encL_eq]; rfl
/-- How many of the next lines lie deeper. -/
def deepN (b : Int) : List (Line × Int) → Nat
  | [] => 0
  | x :: xs => if b < x.2 then deepN b xs + 1 else 0
theorem deepN_le (b : Int) : ∀ xs, deepN b xs ≤ xs.length
  | [] => Nat.le_refl _
  | x :: xs => by
    simp only [deepN, List.length_cons]
    have := deepN_le b xs
    split <;> omega
/-- The tree of lines with depths. -/
def bld : Nat → Int → List (Line × Int) → List Line
  | 0, _, _ => []
  | _ + 1, _, [] => []
  | k + 1, b, x :: xs => setK x.1 (bld k (b + 1) (xs.take (deepN b xs))) :: bld k b (xs.drop (deepN b xs))
theorem bld_fuel : ∀ (k m : Nat) (b : Int) (xs : List (Line × Int)), xs.length ≤ k → xs.length ≤ m → bld k b xs = bld m b xs
  | 0, 0, _, _, _, _ => rfl
  | 0, m + 1, b, xs, h, _ => by
    have : xs = [] := List.eq_nil_of_length_eq_zero (by omega)
    subst this; rfl
  | k + 1, 0, b, xs, _, h => by
    have : xs = [] := List.eq_nil_of_length_eq_zero (by omega)
    subst this; rfl
  | k + 1, m + 1, b, [], _, _ => rfl
  | k + 1, m + 1, b, x :: xs, h1, h2 => by
    simp only [List.length_cons] at h1 h2
    have := deepN_le b xs
    simp only [bld]
    rw [bld_fuel k m (b + 1) _ (by rw [List.length_take]; omega) (by rw [List.length_take]; omega), bld_fuel k m b _ (by rw [List.length_drop]; omega) (by rw [List.length_drop]; omega)]
theorem encLs_take : ∀ (ls : List Line) (i : Nat), (encLs ls).take (i * 4) = encLs (ls.take i)
  | ls, 0 => by simp [encLs]
  | [], i + 1 => by simp [encLs]
  | l :: ls, i + 1 => by
    simp only [encLs, List.take_succ_cons]
    rw [show (i + 1) * 4 = (encL l).length + i * 4 by rw [encL_length]; omega, List.take_length_add_append, encLs_take ls i]
theorem encLs_drop : ∀ (ls : List Line) (i : Nat), (encLs ls).drop (i * 4) = encLs (ls.drop i)
  | ls, 0 => by simp
  | [], i + 1 => by simp [encLs]
  | l :: ls, i + 1 => by
    simp only [encLs, List.drop_succ_cons]
    rw [show (i + 1) * 4 = (encL l).length + i * 4 by rw [encL_length]; omega, List.drop_length_add_append, encLs_drop ls i]
theorem sl_lines (ls : List Line) (o : Own) (i e : Nat) (h1 : i ≤ e) (h2 : e ≤ ls.length) : sliceA 4 (.slice (encLs ls) ls.length o) (some (.int .i64 (i : Int))) (some (.int .i64 (e : Int))) (some (.int .i64 (e : Int))) = some (.slice (encLs ((ls.drop i).take (e - i))) (e - i) .full) := by
  have hb : bounds ls.length (some (.int .i64 (i : Int))) (some (.int .i64 (e : Int))) = some (i, e) := by
    simp only [bounds]
    rw [if_pos (by omega), if_pos (by omega)]
    simp
  simp only [sliceA]
  rw [if_pos (by rw [encLs_length]), hb]
  simp only [Option.bind_some, encLs_drop, encLs_take, Option.isSome_some, and_self, if_true]
theorem sl_ints (ls : List Int) (o : Own) (i e : Nat) (h1 : i ≤ e) (h2 : e ≤ ls.length) : sliceA 1 (.slice (encI ls) ls.length o) (some (.int .i64 (i : Int))) (some (.int .i64 (e : Int))) (some (.int .i64 (e : Int))) = some (.slice (encI ((ls.drop i).take (e - i))) (e - i) .full) := by
  have hb : bounds ls.length (some (.int .i64 (i : Int))) (some (.int .i64 (e : Int))) = some (i, e) := by
    simp only [bounds]
    rw [if_pos (by omega), if_pos (by omega)]
    simp
  simp only [sliceA]
  rw [if_pos (by rw [encI_length]; omega), hb]
  simp only [Option.bind_some, Nat.mul_one, Option.isSome_some, and_self, if_true]
  congr 2
  unfold encI
  rw [List.map_take, List.map_drop]
theorem l28a (xs : List (Line × Int)) (hl : xs.length ≤ 1000000) (o1 o2 : Own) (b : Int) (x7 x8 x9 : AV) (st : St) (Q : Sig → FE → St → Prop) : ∀ (n j : Nat) (e : FE), j + n = xs.length → e 0 = .slice (encLs (xs.map Prod.fst)) xs.length o1 → e 1 = .slice (encI (xs.map Prod.snd)) xs.length o2 → e 2 = .int .i64 b → e 7 = x7 → e 8 = x8 → e 9 = x9 → e 10 = .int .i64 (j : Int) →
    (∀ e', e' 0 = .slice (encLs (xs.map Prod.fst)) xs.length o1 → e' 1 = .slice (encI (xs.map Prod.snd)) xs.length o2 → e' 2 = .int .i64 b → e' 7 = x7 → e' 8 = x8 → e' 9 = x9 → e' 10 = .int .i64 ((j + deepN b (xs.drop j) : Nat) : Int) → Q (.exit 2) e' st) → WLoop cx ir28L0 e st Q
  | 0, j, e, hj, h0, h1, h2, h7, h8, h9, h10, hQ => by
    refine WLoop.rnd (c := _) ir28L0.eq_1 ?_
    have hd : decide ((j : Int) < (xs.length : Int)) = false := decide_eq_false (by omega)
    rw [List.drop_eq_nil_of_le (by omega)] at hQ
    simp (config := {contextual := true, implicitDefEqProofs := false, maxSteps := 4000000}) only [go_sem, ↓reduceIte, Bool.false_eq_true, Nat.reduceEqDiff, Nat.reduceAdd, Int.reduceLE, Int.reduceLT, Int.reduceEq, Int.reduceToNat, Int.toNat_natCast, Int.cast_ofNat_Int, Int.natCast_one, Nat.reduceMod, Nat.reduceDiv, UInt8.reduceToNat, Nat.reduceLT, h0, h10, hd]
    exact hQ _ h0 h1 h2 h7 h8 h9 h10
  | n + 1, j, e, hj, h0, h1, h2, h7, h8, h9, h10, hQ => by
    refine WLoop.rnd (c := _) ir28L0.eq_1 ?_
    have hlt : j < xs.length := by omega
    have hd : decide ((j : Int) < (xs.length : Int)) = true := decide_eq_true (by omega)
    have hw := wrap_one (i := j) (by omega)
    have b1 : (0 : Int) ≤ (j : Int) ∧ (j : Int) < (xs.length : Int) := by omega
    have s1 : sub (encI (xs.map Prod.snd)) j 1 = some [.int .i64 xs[j].2] := by
      have := sub_int (l := xs.map Prod.snd) (i := j) (by simpa using hlt)
      simpa using this
    rw [List.drop_eq_getElem_cons hlt] at hQ
    simp only [deepN] at hQ
    obtain ⟨x, hx⟩ : ∃ x, xs[j] = x := ⟨_, rfl⟩
    rw [hx] at s1 hQ
    by_cases hc : b < x.2
    · have d1 : decide (x.2 ≤ b) = false := decide_eq_false (by omega)
      rw [if_pos hc] at hQ
      simp (config := {contextual := true, implicitDefEqProofs := false, maxSteps := 4000000}) only [go_sem, ↓reduceIte, Bool.false_eq_true, Nat.reduceEqDiff, Nat.reduceAdd, Int.reduceLE, Int.reduceLT, Int.reduceEq, Int.reduceToNat, Int.toNat_natCast, Int.cast_ofNat_Int, Int.natCast_one, Nat.reduceMod, Nat.reduceDiv, UInt8.reduceToNat, Nat.reduceLT, h0, h1, h2, h10, hd, b1, Nat_mul_one, s1, d1, hw]
      refine l28a xs hl o1 o2 b x7 x8 x9 st Q n (j + 1) _ (by omega) h0 h1 h2 h7 h8 h9 rfl ?_
      intro e' a0 a1 a2 a7 a8 a9 a10
      exact hQ e' a0 a1 a2 a7 a8 a9 (by rw [a10]; congr 1; omega)
    · have d1 : decide (x.2 ≤ b) = true := decide_eq_true (by omega)
      rw [if_neg hc, Nat.add_zero] at hQ
      simp (config := {contextual := true, implicitDefEqProofs := false, maxSteps := 4000000}) only [go_sem, ↓reduceIte, Bool.false_eq_true, Nat.reduceEqDiff, Nat.reduceAdd, Int.reduceLE, Int.reduceLT, Int.reduceEq, Int.reduceToNat, Int.toNat_natCast, Int.cast_ofNat_Int, Int.natCast_one, Nat.reduceMod, Nat.reduceDiv, UInt8.reduceToNat, Nat.reduceLT, h0, h1, h2, h10, hd, b1, Nat_mul_one, s1, d1]
      exact hQ _ h0 h1 h2 h7 h8 h9 h10
end T08

/- The parser's tree: build. -/
namespace T08
open Go Fw Go.Proofs
set_option maxRecDepth 100000
set_option maxHeartbeats 4000000
set_option linter.unusedSimpArgs false
set_option linter.unusedVariables false
theorem encL_one (l : Line) : (encL l).all AV.one = true := by
  have := encLs_one [l]
  simpa only [encLs, List.append_nil] using this
theorem encL_strip (l : Line) : (encL l).map AV.strip = encL l := by
  have := encLs_strip [l]
  simpa only [encLs, List.append_nil] using this
/-- What build answers. -/
def bldV (b : Int) (xs : List (Line × Int)) : AV := slt (true, false) (bld xs.length b xs).length (encLs (bld xs.length b xs))
def bldSpec (xs : List (Line × Int)) : Prop := ∀ (o1 o2 : Own) (b : Int) (s : St) (K : AV → St → Prop), 0 ≤ b → b + xs.length ≤ 1000000 → CallW cx 28 [.slice (encLs (xs.map Prod.fst)) xs.length o1, .slice (encI (xs.map Prod.snd)) xs.length o2, .int .i64 b] s K = K (bldV b xs) s
theorem l28b (xs : List (Line × Int)) (o1 o2 : Own) (b : Int) (hb : 0 ≤ b) (hbl : b + xs.length ≤ 1000000) (hc : ∀ ys : List (Line × Int), ys.length < xs.length → bldSpec ys) (L : Nat) (T : List Line) (Q : Sig → FE → St → Prop) : ∀ (n i : Nat) (e : FE) (st : St) (v : AV) (os : List Line), xs.length - i < n → i ≤ xs.length → os.length ≤ i → T = os ++ bld xs.length b (xs.drop i) → G2 50 4 0 0 L st v .nilslice (encLs os) os.length [] 0 → (os ≠ [] → ∃ t, tokOf v = some t) → (os = [] → v = .nilslice) →
    e 0 = .slice (encLs (xs.map Prod.fst)) xs.length o1 → e 1 = .slice (encI (xs.map Prod.snd)) xs.length o2 → e 2 = .int .i64 b → e 7 = v → e 8 = .int .i64 (i : Int) →
    (∀ e' st' v', G2 50 4 0 0 L st' v' .nilslice (encLs T) T.length [] 0 → (T ≠ [] → ∃ t, tokOf v' = some t) → (T = [] → v' = .nilslice) → e' 7 = v' → Q (.exit 0) e' st') → WLoop cx ir28L1 e st Q
  | 0, i, e, st, v, os, hn, _, _, _, _, _, _, _, _, _, _, _, _ => by omega
  | n + 1, i, e, st, v, os, hn, hi, hoi, hT, hG, hsh, hsf, h0, h1, h2, h7, h8, hQ => by
    refine WLoop.rnd (c := _) ir28L1.eq_1 ?_
    by_cases hd : i < xs.length
    case neg =>
      have d1 : decide ((i : Int) < (xs.length : Int)) = false := decide_eq_false (by omega)
      have hT2 : T = os := by
        rw [hT, List.drop_eq_nil_of_le (by omega)]
        cases xs.length <;> simp [bld]
      subst hT2
      simp (config := {contextual := true, implicitDefEqProofs := false, maxSteps := 4000000}) only [go_sem, ↓reduceIte, Bool.false_eq_true, Nat.reduceEqDiff, Nat.reduceAdd, Int.reduceLE, Int.reduceLT, Int.reduceEq, Int.reduceToNat, Int.toNat_natCast, Int.cast_ofNat_Int, Int.natCast_one, Nat.reduceMod, Nat.reduceDiv, UInt8.reduceToNat, Nat.reduceLT, h0, h8, d1]
      exact hQ _ st v hG hsh hsf h7
    have d1 : decide ((i : Int) < (xs.length : Int)) = true := decide_eq_true (by omega)
    have b1 : (0 : Int) ≤ (i : Int) ∧ (i : Int) < (xs.length : Int) := by omega
    have w1 := wrap_one (i := i) (by omega)
    have s1 : sub (encLs (xs.map Prod.fst)) (i * 4) 4 = some [slt xs[i].1.tn xs[i].1.toks.length (encTs xs[i].1.toks), .bool xs[i].1.head, slt xs[i].1.kn xs[i].1.kids.length (encLs xs[i].1.kids), .int .i64 xs[i].1.pos] := by
      have := sub_line (ls := xs.map Prod.fst) (i := i) (by simpa using hd)
      simpa using this
    obtain ⟨x, hx⟩ : ∃ x, xs[i] = x := ⟨_, rfl⟩
    rw [hx] at s1
    have hdr : xs.drop i = x :: xs.drop (i + 1) := by rw [List.drop_eq_getElem_cons hd, hx]
    simp (config := {contextual := true, implicitDefEqProofs := false, maxSteps := 4000000}) only [go_sem, ↓reduceIte, Bool.false_eq_true, Nat.reduceEqDiff, Nat.reduceAdd, Int.reduceLE, Int.reduceLT, Int.reduceEq, Int.reduceToNat, Int.toNat_natCast, Int.cast_ofNat_Int, Int.natCast_one, Nat.reduceMod, Nat.reduceDiv, UInt8.reduceToNat, Nat.reduceLT, h0, h8, d1, b1, s1, w1]
    refine l28a xs (by omega) o1 o2 b _ _ _ _ _ (xs.length - (i + 1)) (i + 1) _ (by omega) h0 h1 h2 h7 h8 rfl rfl ?_
    intro e1 h0 h1 h2 h7 h8 h9 h10
    obtain ⟨m, hm⟩ : ∃ m, xs.length = m + 1 := ⟨xs.length - 1, by omega⟩
    have hdl := deepN_le b (xs.drop (i + 1))
    rw [List.length_drop] at hdl
    obtain ⟨d, hdd⟩ : ∃ d, deepN b (xs.drop (i + 1)) = d := ⟨_, rfl⟩
    rw [hdd] at h10 hdl
    have hkl : ((xs.drop (i + 1)).take d).length = d := by rw [List.length_take, List.length_drop]; omega
    have hT3 : T = (os ++ [setK x.1 (bld ((xs.drop (i + 1)).take d).length (b + 1) ((xs.drop (i + 1)).take d))]) ++ bld xs.length b (xs.drop (i + 1 + d)) := by
      rw [hT, hdr, hm]
      simp only [bld]
      rw [hdd, bld_fuel m ((xs.drop (i + 1)).take d).length (b + 1) _ (by rw [hkl]; omega) (Nat.le_refl _), List.drop_drop, bld_fuel m (m + 1) b _ (by rw [List.length_drop]; omega) (by rw [List.length_drop]; omega)]
      simp
    have sA := sl_lines (xs.map Prod.fst) o1 (i + 1) (i + 1 + d) (by omega) (by rw [List.length_map]; omega)
    have sB := sl_ints (xs.map Prod.snd) o2 (i + 1) (i + 1 + d) (by omega) (by rw [List.length_map]; omega)
    rw [List.length_map, show i + 1 + d - (i + 1) = d by omega] at sA sB
    rw [← List.map_drop, ← List.map_take] at sA sB
    have kb := fun o1 o2 st K => hc ((xs.drop (i + 1)).take d) (by rw [hkl]; omega) o1 o2 (b + 1) st K (by omega) (by rw [hkl]; omega)
    rw [hkl] at kb
    unfold bldV at kb
    rw [hkl] at kb hT3
    obtain ⟨q, hq⟩ : ∃ q, i + 1 + d = q := ⟨_, rfl⟩
    rw [hq] at h10 sA sB hT3
    have w2 : IntKind.i64.wrap (b + 1) = b + 1 := wrap_i64 (by omega) (by omega)
    generalize bld d (b + 1) ((xs.drop (i + 1)).take d) = ks at *
    generalize (xs.drop (i + 1)).take d = ys at *
    have hlown := hG.lown
    have hlow := hG.low
    have hnn : ¬ st.next + 1 = st.next := by omega
    have hmin : min (min st.low st.next) st.next = st.low := by omega
    have hmin2 : min st.low st.next = st.low := by omega
    obtain ⟨v', st', ap, G', lw, _, ps, tk, nx⟩ := (hG.alloc (.cells (some 50) (encL (setK x.1 ks)))).app1 (bytes := 64) (k := 1) (y := .slice (encL (setK x.1 ks)) 1 .full) (new := encL (setK x.1 ks)) (by simp [cellsOf, encL_length]) rfl (encL_one _) (by rw [encL_length]) (Nat.le_trans (show (os.length + 1) * 64 ≤ 100000000 by omega) (by decide))
    have hst : (encL (setK x.1 ks)).map AV.strip = encL (setK x.1 ks) := encL_strip _
    rw [hst, show encLs os ++ encL (setK x.1 ks) = encLs (os ++ [setK x.1 ks]) by rw [encLs_append]; simp [encLs]] at G'
    have hl1 : (os ++ [setK x.1 ks]).length = os.length + 1 := by simp
    rw [← hl1] at G'
    rw [encL_setK] at ap
    simp (config := {contextual := true, implicitDefEqProofs := false, maxSteps := 4000000}) only [go_sem, ↓reduceIte, Bool.false_eq_true, Nat.reduceEqDiff, Nat.reduceAdd, Int.reduceLE, Int.reduceLT, Int.reduceEq, Int.reduceToNat, Int.toNat_natCast, Int.cast_ofNat_Int, Int.natCast_one, Nat.reduceMod, Nat.reduceDiv, UInt8.reduceToNat, Nat.reduceLT, h0, h1, h2, h7, h8, h9, h10, sA, sB, kb, w1, w2, hmin, hmin2, ap]
    exact l28b xs o1 o2 b hb hbl hc L T Q n q _ st' v' (os ++ [setK x.1 ks]) (by omega) (by omega) (by rw [hl1]; omega) hT3 G' (fun _ => tk (by decide)) (fun h => by simp at h) h0 h1 h2 rfl rfl hQ
theorem c28 : ∀ (N : Nat) (xs : List (Line × Int)), xs.length ≤ N → bldSpec xs
  | N, xs, hN => by
    intro o1 o2 b s K hb hbl
    have hc : ∀ ys : List (Line × Int), ys.length < xs.length → bldSpec ys := fun ys h => by
      match N, hN with
      | 0, hN => omega
      | N + 1, hN => exact c28 N ys (by omega)
    refine CallW.eq (CallW.fn' (fn := ir28) rfl rfl (by kernel_rfl) ir28.eq_1 ?_) K
    simp (config := {contextual := true, implicitDefEqProofs := false, maxSteps := 4000000}) only [go_sem, ↓reduceIte, Bool.false_eq_true, Nat.reduceEqDiff, Nat.reduceAdd, Int.reduceLE, Int.reduceLT, Int.reduceEq, Int.reduceToNat, Int.toNat_natCast, Int.cast_ofNat_Int, Int.natCast_one, Nat.reduceMod, Nat.reduceDiv, UInt8.reduceToNat, Nat.reduceLT]
    refine l28b xs o1 o2 b hb hbl hc s.next (bld xs.length b xs) _ (xs.length + 1) 0 _ { heap := s.heap, next := s.next, low := s.next } .nilslice [] (by omega) (Nat.zero_le _) (Nat.le_refl _) rfl ⟨Gr.nil, Gr.nil, fun t h => (by cases h), fun t h => (by cases h), fun t h => (by cases h), Nat.le_refl _, Nat.le_refl _⟩ (fun h => absurd rfl h) (fun _ => rfl) rfl rfl rfl rfl rfl ?_
    intro e' st' v' hG hsh hsf h7
    unfold bldV
    generalize bld xs.length b xs = T at *
    by_cases hT : T = []
    · have hv := hsf hT
      subst hT
      subst hv
      simp (config := {contextual := true, implicitDefEqProofs := false, maxSteps := 4000000}) only [go_sem, ↓reduceIte, Bool.false_eq_true, Nat.reduceEqDiff, Nat.reduceAdd, Int.reduceLE, Int.reduceLT, Int.reduceEq, Int.reduceToNat, Int.toNat_natCast, Int.cast_ofNat_Int, Int.natCast_one, Nat.reduceMod, Nat.reduceDiv, UInt8.reduceToNat, Nat.reduceLT, h7]
      rw [LeaveW_nils hG.low]
      exact ⟨rfl, rfl⟩
    · obtain ⟨t, ht⟩ := hsh hT
      have hvs := tok_shape hG.a ht
      have hz : slt (true, false) T.length (encLs T) = .slice (encLs T) T.length .no := by
        unfold slt
        rw [if_neg (fun hh => hT (List.eq_nil_of_length_eq_zero hh.2))]
        rfl
      have hlv : ∀ K : AV → St → Prop, LeaveW s st' v' K = K (.slice (encLs T) T.length .no) s := by
        intro K
        rw [LeaveW_free (hG.a.free hG.la (encLs_al _)) hG.low (fun vs h => by rw [hvs] at h; cases h), hvs]
        rfl
      rw [hz]
      simp (config := {contextual := true, implicitDefEqProofs := false, maxSteps := 4000000}) only [go_sem, ↓reduceIte, Bool.false_eq_true, Nat.reduceEqDiff, Nat.reduceAdd, Int.reduceLE, Int.reduceLT, Int.reduceEq, Int.reduceToNat, Int.toNat_natCast, Int.cast_ofNat_Int, Int.natCast_one, Nat.reduceMod, Nat.reduceDiv, UInt8.reduceToNat, Nat.reduceLT, h7, hlv]
theorem c28n (b : Int) (s : St) (K : AV → St → Prop) : CallW cx 28 [.nilslice, .nilslice, .int .i64 b] s K = K .nilslice s := by
  refine CallW.eq (CallW.fn' (fn := ir28) rfl rfl (by kernel_rfl) ir28.eq_1 ?_) K
  simp (config := {contextual := true, implicitDefEqProofs := false, maxSteps := 4000000}) only [go_sem, ↓reduceIte, Bool.false_eq_true, Nat.reduceEqDiff, Nat.reduceAdd, Int.reduceLE, Int.reduceLT, Int.reduceEq, Int.reduceToNat, Int.toNat_natCast, Int.cast_ofNat_Int, Int.natCast_one, Nat.reduceMod, Nat.reduceDiv, UInt8.reduceToNat, Nat.reduceLT]
  refine WLoop.rnd (c := _) ir28L1.eq_1 ?_
  simp (config := {contextual := true, implicitDefEqProofs := false, maxSteps := 4000000}) only [go_sem, ↓reduceIte, Bool.false_eq_true, Nat.reduceEqDiff, Nat.reduceAdd, Int.reduceLE, Int.reduceLT, Int.reduceEq, Int.reduceToNat, Int.toNat_natCast, Int.cast_ofNat_Int, Int.natCast_one, Nat.reduceMod, Nat.reduceDiv, UInt8.reduceToNat, Nat.reduceLT, show decide ((0 : Int) < 0) = false from rfl]
end T08

/- Parse: its loop over the lines. -/
namespace T08
open Go Fw Go.Proofs
set_option maxRecDepth 100000
set_option maxHeartbeats 4000000
set_option linter.unusedSimpArgs false
set_option linter.unusedVariables false
/-- Whether a line of a depth fits behind the lines so far. -/
def fitsB (d : Int) (acc : List (Line × Int)) : Bool := match acc.getLast? with
  | none => decide (d = 0)
  | some x => decide (d ≤ x.2) || (decide (d = x.2 + 1) && x.1.head)
/-- The lines with tokens and their depths, or the first fault. -/
def parseL : List (List UInt8) → Nat → List (Line × Int) → List (Line × Int) ⊕ (Int × Int × Int)
  | [], _, acc => .inl acc
  | r :: rs, i, acc => if (scanB r).2.1 ≠ 0 then .inr ((scanB r).2.1, ((i + 1 : Nat) : Int), (scanB r).2.2)
    else if (scanB r).1.ts = [] then parseL rs (i + 1) acc
    else if fitsB (scanB r).1.ind acc = false then .inr (2, ((i + 1 : Nat) : Int), ((scanB r).1.ts.getD 0 noT).p)
    else parseL rs (i + 1) (acc ++ [(.mk (true, false) (scanB r).1.ts (scanB r).1.head (true, false) [] ((i + 1 : Nat) : Int), (scanB r).1.ind)])
theorem ind_range (a : List UInt8) : 0 ≤ (scanB a).1.ind ∧ (scanB a).1.ind ≤ 6 := by
  have hf : 0 ≤ (firstI a).1 ∧ (firstI a).1 ≤ 6 := by
    unfold firstI
    split
    · unfold indB
      split
      · exact ⟨Int.le_refl _, by decide⟩
      split
      · exact ⟨Int.le_refl _, by decide⟩
      · simp only; omega
    · exact ⟨Int.le_refl _, by decide⟩
  have h0 : 0 ≤ noS.ind ∧ noS.ind ≤ 6 := ⟨Int.le_refl _, by decide⟩
  unfold scanB
  split
  · exact h0
  split
  · exact h0
  split
  · exact h0
  · unfold endB
    split
    · split
      · exact h0
      · exact hf
    · exact hf
theorem app_keeps {ty z bytes : Nat} {st st' : St} {v v' y : AV} {cs new : List AV} {n m : Nat} (h : Gr ty z st v cs n) (hy : cellsOf st z y = some new) (hc : y.count = some m) (hone : new.all AV.one = true) (hl : new.length = m * z) (hr : (n + m) * bytes ≤ room) (ap : appendA st ty z bytes v y = some (v', st')) :
    st.next ≤ st'.next ∧ (∀ i, i < st.next → tokOf v ≠ some i → Fw.look i st'.heap = Fw.look i st.heap) ∧ ∀ t, tokOf v' = some t → tokOf v = some t ∨ st.next ≤ t := by
  obtain ⟨v2, st2, ap2, _, hk, htk, _⟩ := h.app hy hc hone hl hr
  rw [ap] at ap2
  cases ap2
  exact ⟨hk.1, hk.2, htk⟩
theorem l16 (rows full : List (List UInt8)) (cp : Nat) (hrl : rows.length ≤ 70000) (hsub : ∀ i (h : i < rows.length), sub (encS full) i 1 = some [.str rows[i]]) (N : Nat) (Q : Sig → FE → St → Prop) :
    ∀ (n i : Nat) (e : FE) (st : St) (v w : AV) (acc : List (Line × Int)), i + n = rows.length → acc.length ≤ i → (∀ x ∈ acc, 0 ≤ x.2 ∧ x.2 ≤ 6) → G2 50 4 3 1 N st v w (encLs (acc.map Prod.fst)) acc.length (encI (acc.map Prod.snd)) acc.length → ((∀ t, tokOf v = some t → N + 2 ≤ t) ∧ ∀ t, tokOf w = some t → N + 2 ≤ t) → (acc ≠ [] → (∃ t, tokOf v = some t) ∧ ∃ t, tokOf w = some t) → (acc = [] → v = .nilslice ∧ w = .nilslice) →
    Fw.look N st.heap = some (.cells (some 38) [.int .i64 0, .int .i64 0, .int .i64 0]) → Fw.look (N + 1) st.heap = some (.cells none (encS full)) → N + 2 ≤ st.next → e 3 = .ptr N 0 → e 6 = v → e 7 = w → e 28 = .mslice (N + 1) 0 rows.length (some cp) → e 29 = .int .i64 (rows.length : Int) → e 30 = .int .i64 (i : Int) →
    (∀ acc', parseL (rows.drop i) i acc = .inl acc' → ∀ e' st' v' w', G2 50 4 3 1 N st' v' w' (encLs (acc'.map Prod.fst)) acc'.length (encI (acc'.map Prod.snd)) acc'.length → (acc' ≠ [] → (∃ t, tokOf v' = some t) ∧ ∃ t, tokOf w' = some t) → (acc' = [] → v' = .nilslice ∧ w' = .nilslice) → Fw.look N st'.heap = some (.cells (some 38) [.int .i64 0, .int .i64 0, .int .i64 0]) → acc'.length ≤ 70000 → e' 3 = .ptr N 0 → e' 6 = v' → e' 7 = w' → Q (.exit 0) e' st') →
    (∀ er ln cl, parseL (rows.drop i) i acc = .inr (er, ln, cl) → ∀ e' st', e' 2 = .nilslice → e' 3 = .ptr N 0 → Fw.look N st'.heap = some (.cells (some 38) [.int .i64 er, .int .i64 ln, .int .i64 cl]) → N ≤ st'.low → Q .ret e' st') → WLoop cx ir16L0 e st Q
  | 0, i, e, st, v, w, acc, hi, hai, hdp, hG, htv, hsh, hsf, hk1, hk2, hnx, h3, h6, h7, h28, h29, h30, hA, hB => by
    refine WLoop.rnd (c := _) ir16L0.eq_1 ?_
    have hd : decide ((i : Int) < (rows.length : Int)) = false := decide_eq_false (by omega)
    rw [List.drop_eq_nil_of_le (by omega)] at hA
    simp (config := {contextual := true, implicitDefEqProofs := false, maxSteps := 4000000}) only [go_sem, ↓reduceIte, Bool.false_eq_true, Nat.reduceEqDiff, Nat.reduceAdd, Int.reduceLE, Int.reduceLT, Int.reduceEq, Int.reduceToNat, Int.toNat_natCast, Int.cast_ofNat_Int, Int.natCast_one, Nat.reduceMod, Nat.reduceDiv, UInt8.reduceToNat, Nat.reduceLT, h28, h29, h30, hd]
    exact hA acc rfl _ _ v w hG hsh hsf hk1 (by omega) h3 h6 h7
  | n + 1, i, e, st, v, w, acc, hi, hai, hdp, hG, htv, hsh, hsf, hk1, hk2, hnx, h3, h6, h7, h28, h29, h30, hA, hB => by
    refine WLoop.rnd (c := _) ir16L0.eq_1 ?_
    have hlt : i < rows.length := by omega
    have hd : decide ((i : Int) < (rows.length : Int)) = true := decide_eq_true (by omega)
    have b1 : (0 : Int) ≤ (i : Int) ∧ (i : Int) < (rows.length : Int) := by omega
    have w1 := wrap_one (i := i) (by omega)
    have s1 := hsub i hlt
    rw [List.drop_eq_getElem_cons hlt] at hA hB
    obtain ⟨r, hr⟩ : ∃ r, rows[i] = r := ⟨_, rfl⟩
    rw [hr] at s1 hA hB
    simp only [parseL] at hA hB
    have ks := fun st K => c18 r st K
    have hir := ind_range r
    generalize scanB r = x at *
    obtain ⟨⟨ind, ts, hd2, com⟩, er, cl⟩ := x
    simp only at hA hB hir
    simp only [scO] at ks
    have hlown := hG.lown
    have hlow := hG.low
    have n1 : ¬ st.next = N := by omega
    have n2 : ¬ st.next = N + 1 := by omega
    have n3 : ¬ st.next + 1 = N := by omega
    have n4 : ¬ st.next + 1 = N + 1 := by omega
    by_cases her : er = 0
    case neg =>
      have d1 : decide (er ≠ 0) = true := decide_eq_true her
      rw [if_pos her] at hB
      simp (config := {contextual := true, implicitDefEqProofs := false, maxSteps := 4000000}) only [go_sem, ↓reduceIte, Bool.false_eq_true, Nat.reduceEqDiff, Nat.reduceAdd, Int.reduceLE, Int.reduceLT, Int.reduceEq, Int.reduceToNat, Int.toNat_natCast, Int.cast_ofNat_Int, Int.natCast_one, Nat.reduceMod, Nat.reduceDiv, UInt8.reduceToNat, Nat.reduceLT, h3, h28, h29, h30, hd, b1, Nat_mul_one, hk1, hk2, s1, ks, d1, w1, n1, n2, n3, n4]
      refine hB er _ cl rfl _ _ rfl h3 ?_ (by simp only; omega)
      simp only [Fw.look]
      rw [if_neg n3, if_neg n1]
      exact look_put_self hk1
    subst her
    rw [if_neg (by decide)] at hA hB
    have d1 : decide ((0 : Int) ≠ 0) = false := rfl
    by_cases hts : ts = []
    · have d2 : decide ((ts.length : Int) = 0) = true := by rw [hts]; rfl
      rw [if_pos hts] at hA hB
      simp (config := {contextual := true, implicitDefEqProofs := false, maxSteps := 4000000}) only [go_sem, ↓reduceIte, Bool.false_eq_true, Nat.reduceEqDiff, Nat.reduceAdd, Int.reduceLE, Int.reduceLT, Int.reduceEq, Int.reduceToNat, Int.toNat_natCast, Int.cast_ofNat_Int, Int.natCast_one, Nat.reduceMod, Nat.reduceDiv, UInt8.reduceToNat, Nat.reduceLT, h3, h28, h29, h30, hd, b1, Nat_mul_one, hk1, hk2, s1, ks, d1, d2, w1, n1, n2, n3, n4]
      have hG2 := ((hG.alloc (.cells (some 46) [.int .i64 ind, slt (true, false) ts.length (encTs ts), .bool hd2, .str com])).alloc (.cells (some 38) [.int .i64 0, .int .i64 0, .int .i64 cl]))
      refine l16 rows full cp hrl hsub N Q n (i + 1) _ _ v w acc (by omega) (by omega) hdp ?_ htv hsh hsf ?_ ?_ (by simp only; omega) h3 h6 h7 h28 h29 rfl hA hB
      · exact hG2.lowered (by first | omega | (simp only; omega)) (by first | omega | (simp only; omega))
      · simp only [Fw.look]
        rw [if_neg n3, if_neg n1]
        exact hk1
      · simp only [Fw.look]
        rw [if_neg n4, if_neg n2]
        exact hk2
    · have d2 : decide ((ts.length : Int) = 0) = false := decide_eq_false (fun h => hts (List.eq_nil_of_length_eq_zero (by omega)))
      rw [if_neg hts] at hA hB
      have hp := hG.a.lenv
      have hq := hG.b.lenv
      obtain ⟨nl, hnl0⟩ : ∃ nl, nl = Line.mk (true, false) ts hd2 (true, false) [] ((i + 1 : Nat) : Int) := ⟨_, rfl⟩
      have hnl : encL nl = [slt (true, false) ts.length (encTs ts), .bool hd2, .nilslice, .int .i64 ((i + 1 : Nat) : Int)] := by rw [hnl0, encL_eq]; rfl
      rw [← hnl0] at hA hB
      clear hnl0
      have hmin : min (min st.low st.next) (st.next + 1) = st.low := by omega
      have hmin2 : min st.low st.next = st.low := by omega
      have hmin3 : min st.low (st.next + 1) = st.low := by omega
      have hG2 := ((hG.alloc (.cells (some 46) [.int .i64 ind, slt (true, false) ts.length (encTs ts), .bool hd2, .str com])).alloc (.cells (some 38) [.int .i64 0, .int .i64 0, .int .i64 cl]))
      have htl : 0 < ts.length := List.length_pos_iff.2 hts
      have b3 : (0 : Int) < (ts.length : Int) := by omega
      have s3 : sub (encTs ts) 3 1 = some [.int .i64 (ts.getD 0 noT).p] := by
        have := sub_tp htl
        rw [Nat.zero_mul, Nat.zero_add] at this
        rw [this]; simp [List.getD, htl]
      by_cases hacc : acc = []
      · obtain ⟨hv, hw⟩ := hsf hacc
        subst hv
        subst hw
        subst hacc
        have kf : ∀ st K, CallW cx 27 [.int .i64 ind, .nilptr, .int .i64 0] st K = K (.bool (fitsB ind [])) st := fun st K => c27n ind 0 st K
        cases hf : fitsB ind ([] : List (Line × Int)) with
        | false =>
          rw [hf] at kf hB
          rw [if_pos rfl] at hB
          simp (config := {contextual := true, implicitDefEqProofs := false, maxSteps := 4000000}) only [go_sem, ↓reduceIte, Bool.false_eq_true, Nat.reduceEqDiff, Nat.reduceAdd, Int.reduceLE, Int.reduceLT, Int.reduceEq, Int.reduceToNat, Int.toNat_natCast, Int.cast_ofNat_Int, Int.natCast_one, Nat.reduceMod, Nat.reduceDiv, UInt8.reduceToNat, Nat.reduceLT, h3, h6, h7, h28, h29, h30, hd, b1, b3, s3, Nat_mul_one, hk1, hk2, s1, ks, d1, d2, w1, n1, n2, n3, n4, hmin, hmin2, hmin3, kf]
          refine hB 2 _ _ rfl _ _ rfl h3 ?_ (by simp only; omega)
          simp only [Fw.look]
          rw [if_neg n3, if_neg n1]
          exact look_put_self hk1
        | true =>
          rw [hf] at kf hA hB
          rw [if_neg (by decide)] at hA hB
          obtain ⟨v', st', ap, G', lw, _, ps, tk, nx⟩ := hG2.app1 (bytes := 64) (k := 1) (y := .slice (encL nl) 1 .full) (new := encL nl) (by simp [cellsOf, encL_length]) rfl (encL_one _) (by rw [encL_length]) (Nat.le_trans (show (([] : List (Line × Int)).length + 1) * 64 ≤ 10000000 by omega) (by decide))
          obtain ⟨kx, ky, kz⟩ := app_keeps hG2.a (bytes := 64) (m := 1) (y := .slice (encL nl) 1 .full) (new := encL nl) (by simp [cellsOf, encL_length]) rfl (encL_one _) (by rw [encL_length]) (Nat.le_trans (show (([] : List (Line × Int)).length + 1) * 64 ≤ 10000000 by omega) (by decide)) ap
          rw [encL_strip, show encLs (([] : List (Line × Int)).map Prod.fst) ++ encL nl = encLs ((([] : List (Line × Int)) ++ [(nl, ind)]).map Prod.fst) by rw [List.map_append, encLs_append]; simp [encLs]] at G'
          obtain ⟨w', st'', ap2, G'', lw2, _, ps2, tk2, nx2⟩ := G'.app2 (bytes := 8) (k := 1) (y := .slice [.int .i64 ind] 1 .full) (new := [.int .i64 ind]) (by simp [cellsOf]) rfl rfl rfl (Nat.le_trans (show (([] : List (Line × Int)).length + 1) * 8 ≤ 10000000 by omega) (by decide))
          obtain ⟨kx2, ky2, kz2⟩ := app_keeps G'.b (bytes := 8) (m := 1) (y := .slice [.int .i64 ind] 1 .full) (new := [.int .i64 ind]) (by simp [cellsOf]) rfl rfl rfl (Nat.le_trans (show (([] : List (Line × Int)).length + 1) * 8 ≤ 10000000 by omega) (by decide)) ap2
          rw [show ([AV.int .i64 ind].map AV.strip) = [AV.int .i64 ind] from rfl, show encI (([] : List (Line × Int)).map Prod.snd) ++ [AV.int .i64 ind] = encI ((([] : List (Line × Int)) ++ [(nl, ind)]).map Prod.snd) by rw [List.map_append, encI_append]; rfl] at G''
          have hl1 : (([] : List (Line × Int)) ++ [(nl, ind)]).length = ([] : List (Line × Int)).length + 1 := by simp
          rw [← hl1] at G''
          have ps3 : ∃ t, tokOf v' = some t := tk (by decide)
          have tkv : ∀ j, st.next ≤ j → tokOf AV.nilslice ≠ some j := fun j _ h => by cases h
          have lkt : Fw.look st.next st'.heap = some (.cells (some 46) [.int .i64 ind, slt (true, false) ts.length (encTs ts), .bool hd2, .str com]) := by
            rw [ky st.next (by simp only; omega) (tkv st.next (by omega))]
            simp [Fw.look]
          have oldl : ∀ j, j < N + 2 → Fw.look j st''.heap = Fw.look j st.heap := by
            intro j hj
            simp only at kx
            rw [ky2 j (by omega) (fun h => by have := htv.2 j h; omega), ky j (by simp only; omega) (fun h => by have := htv.1 j h; omega)]
            simp only [Fw.look]
            rw [if_neg (by omega), if_neg (by omega)]
          rw [hnl] at ap
          simp (config := {contextual := true, implicitDefEqProofs := false, maxSteps := 4000000}) only [go_sem, ↓reduceIte, Bool.false_eq_true, Nat.reduceEqDiff, Nat.reduceAdd, Int.reduceLE, Int.reduceLT, Int.reduceEq, Int.reduceToNat, Int.toNat_natCast, Int.cast_ofNat_Int, Int.natCast_one, Nat.reduceMod, Nat.reduceDiv, UInt8.reduceToNat, Nat.reduceLT, h3, h6, h7, h28, h29, h30, hd, b1, b3, s3, Nat_mul_one, hk1, hk2, s1, ks, d1, d2, w1, n1, n2, n3, n4, hmin, hmin2, hmin3, kf, ap, lkt, ap2]
          refine l16 rows full cp hrl hsub N Q n (i + 1) _ st'' v' w' (([] : List (Line × Int)) ++ [(nl, ind)]) (by omega) (by rw [hl1]; omega) ?_ G'' ⟨fun t h => by
            rcases kz t h with h | h
            · exact htv.1 t h
            · simp only at h; omega, fun t h => by
            rcases kz2 t h with h | h
            · exact htv.2 t h
            · simp only at kx; omega⟩ (fun _ => ⟨ps3, tk2 (by decide)⟩) (fun h => by simp at h) (by rw [oldl _ (by omega)]; exact hk1) (by rw [oldl _ (by omega)]; exact hk2) (by simp only at kx kx2; omega) h3 rfl rfl h28 h29 rfl hA hB
          intro z hz
          rcases List.mem_append.1 hz with hz | hz
          · exact hdp z hz
          · simp only [List.mem_singleton] at hz
            subst hz
            exact hir
      · obtain ⟨⟨t, ht⟩, u, hu⟩ := hsh hacc
        have hv := tok_shape hG.a ht
        have hw := tok_shape hG.b hu
        obtain ⟨l', x, hlx⟩ : ∃ l' x, acc = l' ++ [x] := by
          rcases List.eq_nil_or_concat acc with h | ⟨l', x, h⟩
          · exact absurd h hacc
          · exact ⟨l', x, by simpa using h⟩
        have hlen : acc.length = l'.length + 1 := by rw [hlx]; simp
        have hx6 := hdp x (by rw [hlx]; simp)
        have s4 : sub (encLs (acc.map Prod.fst)) (l'.length * 4 + 1) 1 = some [.bool x.1.head] := by
          have := sub_lhead (ls := acc.map Prod.fst) (i := l'.length) (by rw [List.length_map]; omega)
          rw [this]; subst hlx; simp
        have s5 : sub (encI (acc.map Prod.snd)) l'.length 1 = some [.int .i64 x.2] := by
          have := sub_int (l := acc.map Prod.snd) (i := l'.length) (by rw [List.length_map]; omega)
          rw [this]; subst hlx; simp
        have hfit : fitsB ind acc = (decide (ind ≤ x.2) || (decide (ind = x.2 + 1) && x.1.head)) := by unfold fitsB; rw [hlx]; simp
        have kf := fun st K => c27 ind x.2 (by omega) (by omega) (encLs (acc.map Prod.fst)) (l'.length * 4) x.1.head s4 st K
        rw [← hfit] at kf
        have w5 : IntKind.i64.wrap ((acc.length : Int) - 1) = (l'.length : Int) := by rw [wrap_i64 (by omega) (by omega)]; omega
        have b5 : (0 : Int) ≤ (l'.length : Int) ∧ (l'.length : Int) < (acc.length : Int) := by omega
        have d5 : decide ((0 : Int) < (acc.length : Int)) = true := decide_eq_true (by omega)
        rw [hv] at h6
        rw [hw] at h7
        cases hf : fitsB ind acc with
        | false =>
          rw [hf] at kf hB
          rw [if_pos rfl] at hB
          simp (config := {contextual := true, implicitDefEqProofs := false, maxSteps := 4000000}) only [go_sem, ↓reduceIte, Bool.false_eq_true, Nat.reduceEqDiff, Nat.reduceAdd, Int.reduceLE, Int.reduceLT, Int.reduceEq, Int.reduceToNat, Int.toNat_natCast, Int.cast_ofNat_Int, Int.natCast_one, Nat.reduceMod, Nat.reduceDiv, UInt8.reduceToNat, Nat.reduceLT, h3, h6, h7, h28, h29, h30, hd, b1, b3, s3, Nat_mul_one, hk1, hk2, s1, ks, d1, d2, w1, n1, n2, n3, n4, hmin, hmin2, hmin3, w5, b5, d5, s5, kf]
          refine hB 2 _ _ rfl _ _ rfl h3 ?_ (by simp only; omega)
          simp only [Fw.look]
          rw [if_neg n3, if_neg n1]
          exact look_put_self hk1
        | true =>
          rw [hf] at kf hA hB
          rw [if_neg (by decide)] at hA hB
          obtain ⟨v', st', ap, G', lw, _, ps, tk, nx⟩ := hG2.app1 (bytes := 64) (k := 1) (y := .slice (encL nl) 1 .full) (new := encL nl) (by simp [cellsOf, encL_length]) rfl (encL_one _) (by rw [encL_length]) (Nat.le_trans (show (acc.length + 1) * 64 ≤ 10000000 by omega) (by decide))
          obtain ⟨kx, ky, kz⟩ := app_keeps hG2.a (bytes := 64) (m := 1) (y := .slice (encL nl) 1 .full) (new := encL nl) (by simp [cellsOf, encL_length]) rfl (encL_one _) (by rw [encL_length]) (Nat.le_trans (show (acc.length + 1) * 64 ≤ 10000000 by omega) (by decide)) ap
          rw [encL_strip, show encLs (acc.map Prod.fst) ++ encL nl = encLs ((acc ++ [(nl, ind)]).map Prod.fst) by rw [List.map_append, encLs_append]; simp [encLs]] at G'
          obtain ⟨w', st'', ap2, G'', lw2, _, ps2, tk2, nx2⟩ := G'.app2 (bytes := 8) (k := 1) (y := .slice [.int .i64 ind] 1 .full) (new := [.int .i64 ind]) (by simp [cellsOf]) rfl rfl rfl (Nat.le_trans (show (acc.length + 1) * 8 ≤ 10000000 by omega) (by decide))
          obtain ⟨kx2, ky2, kz2⟩ := app_keeps G'.b (bytes := 8) (m := 1) (y := .slice [.int .i64 ind] 1 .full) (new := [.int .i64 ind]) (by simp [cellsOf]) rfl rfl rfl (Nat.le_trans (show (acc.length + 1) * 8 ≤ 10000000 by omega) (by decide)) ap2
          rw [show ([AV.int .i64 ind].map AV.strip) = [AV.int .i64 ind] from rfl, show encI (acc.map Prod.snd) ++ [AV.int .i64 ind] = encI ((acc ++ [(nl, ind)]).map Prod.snd) by rw [List.map_append, encI_append]; rfl] at G''
          have hl1 : (acc ++ [(nl, ind)]).length = acc.length + 1 := by simp
          rw [← hl1] at G''
          have ps3 : ∃ t, tokOf v' = some t := tk (by decide)
          have tkv : ∀ j, st.next ≤ j → tokOf v ≠ some j := fun j hj h => by have := hG.a.tok_lt h; omega
          have lkt : Fw.look st.next st'.heap = some (.cells (some 46) [.int .i64 ind, slt (true, false) ts.length (encTs ts), .bool hd2, .str com]) := by
            rw [ky st.next (by simp only; omega) (tkv st.next (by omega))]
            simp [Fw.look]
          have oldl : ∀ j, j < N + 2 → Fw.look j st''.heap = Fw.look j st.heap := by
            intro j hj
            simp only at kx
            rw [ky2 j (by omega) (fun h => by have := htv.2 j h; omega), ky j (by simp only; omega) (fun h => by have := htv.1 j h; omega)]
            simp only [Fw.look]
            rw [if_neg (by omega), if_neg (by omega)]
          rw [hnl, hv] at ap
          rw [hw] at ap2
          simp (config := {contextual := true, implicitDefEqProofs := false, maxSteps := 4000000}) only [go_sem, ↓reduceIte, Bool.false_eq_true, Nat.reduceEqDiff, Nat.reduceAdd, Int.reduceLE, Int.reduceLT, Int.reduceEq, Int.reduceToNat, Int.toNat_natCast, Int.cast_ofNat_Int, Int.natCast_one, Nat.reduceMod, Nat.reduceDiv, UInt8.reduceToNat, Nat.reduceLT, h3, h6, h7, h28, h29, h30, hd, b1, b3, s3, Nat_mul_one, hk1, hk2, s1, ks, d1, d2, w1, n1, n2, n3, n4, hmin, hmin2, hmin3, w5, b5, d5, s5, kf, ap, lkt, ap2]
          refine l16 rows full cp hrl hsub N Q n (i + 1) _ st'' v' w' (acc ++ [(nl, ind)]) (by omega) (by rw [hl1]; omega) ?_ G'' ⟨fun t h => by
            rcases kz t h with h | h
            · exact htv.1 t h
            · simp only at h; omega, fun t h => by
            rcases kz2 t h with h | h
            · exact htv.2 t h
            · simp only at kx; omega⟩ (fun _ => ⟨ps3, tk2 (by decide)⟩) (fun h => by simp at h) (by rw [oldl _ (by omega)]; exact hk1) (by rw [oldl _ (by omega)]; exact hk2) (by simp only at kx kx2; omega) h3 rfl rfl h28 h29 rfl hA hB
          intro z hz
          rcases List.mem_append.1 hz with hz | hz
          · exact hdp z hz
          · simp only [List.mem_singleton] at hz
            subst hz
            exact hir
end T08

/- Parse. -/
namespace T08
open Go Fw Go.Proofs
set_option maxRecDepth 100000
set_option maxHeartbeats 4000000
set_option linter.unusedSimpArgs false
set_option linter.unusedVariables false
def parseB (a : List UInt8) : List (Line × Int) ⊕ (Int × Int × Int) := if 65536 < a.length then .inr (7, 1, 1) else parseL (linesB a) 0 []
/-- What Parse answers. -/
def parO : List (Line × Int) ⊕ (Int × Int × Int) → AV
  | .inl acc => .tuple [bldV 0 acc, .agg [.int .i64 0, .int .i64 0, .int .i64 0]]
  | .inr (er, ln, cl) => .tuple [.nilslice, .agg [.int .i64 er, .int .i64 ln, .int .i64 cl]]
theorem trimE_get (l : List (List UInt8)) (i : Nat) (h : i < (trimE l).length) : ∃ h2 : i < l.length, l[i] = (trimE l)[i] := by
  have key : l[i]? = some (trimE l)[i] := by
    rw [← List.getElem?_eq_getElem h]
    rcases List.eq_nil_or_concat l with hn | ⟨m, z, hz⟩
    · subst hn; simp [trimE] at h
    · have hz : l = m ++ [z] := by simpa using hz
      have ht := trimE_take l m z hz
      by_cases hzz : z = []
      · rw [if_pos hzz] at ht
        have hi : i < m.length := by rw [ht] at h; exact h
        rw [ht, hz, List.getElem?_append_left hi]
      · rw [if_neg hzz] at ht
        rw [ht]
  obtain ⟨h2, h3⟩ := List.getElem?_eq_some_iff.1 key
  exact ⟨h2, h3⟩
theorem c16 (a : List UInt8) (s : St) (K : AV → St → Prop) : CallW cx 16 [.str a] s K = K (parO (parseB a)) s := by
  refine CallW.eq (CallW.fn' (fn := ir16) rfl rfl (by kernel_rfl) ir16.eq_1 ?_) K
  unfold parseB
  by_cases h1 : 65536 < a.length
  · have d1 : decide ((65536 : Int) < (a.length : Int)) = true := decide_eq_true (by omega)
    rw [if_pos h1]
    simp (config := {contextual := true, implicitDefEqProofs := false, maxSteps := 4000000}) only [go_sem, ↓reduceIte, Bool.false_eq_true, Nat.reduceEqDiff, Nat.reduceAdd, Int.reduceLE, Int.reduceLT, Int.reduceEq, Int.reduceToNat, Int.toNat_natCast, Int.cast_ofNat_Int, Int.natCast_one, Nat.reduceMod, Nat.reduceDiv, UInt8.reduceToNat, Nat.reduceLT, d1]
    rfl
  rw [if_neg h1]
  have d1 : decide ((65536 : Int) < (a.length : Int)) = false := decide_eq_false (by omega)
  have d0 : decide ((0 : Int) ≠ 0) = false := rfl
  have kl := fun st K => c17 a (by omega) st K
  have hll := lines_le a
  have hsub : ∀ i (h : i < (linesB a).length), sub (encS (splitB 10 a)) i 1 = some [.str (linesB a)[i]] := fun i hi => by
    obtain ⟨h3, h4⟩ := trimE_get (splitB 10 a) i hi
    rw [str_at h3, h4]; rfl
  simp (config := {contextual := true, implicitDefEqProofs := false, maxSteps := 4000000}) only [go_sem, ↓reduceIte, Bool.false_eq_true, Nat.reduceEqDiff, Nat.reduceAdd, Int.reduceLE, Int.reduceLT, Int.reduceEq, Int.reduceToNat, Int.toNat_natCast, Int.cast_ofNat_Int, Int.natCast_one, Nat.reduceMod, Nat.reduceDiv, UInt8.reduceToNat, Nat.reduceLT, d1, d0, kl]
  refine l16 (linesB a) (splitB 10 a) (a.count 10 + 1) (by omega) hsub s.next _ (linesB a).length 0 _ _ .nilslice .nilslice [] (by omega) (Nat.le_refl _) (fun x hx => by cases hx) ⟨Gr.nil, Gr.nil, fun t h => (by cases h), fun t h => (by cases h), fun t h => (by cases h), by simp, by simp⟩ ⟨fun t h => (by cases h), fun t h => (by cases h)⟩ (fun h => absurd rfl h) (fun _ => ⟨rfl, rfl⟩) (by simp [Fw.look]) (by simp [Fw.look]) (by simp) rfl rfl rfl rfl rfl rfl ?_ ?_
  · intro acc hp e' st' v w hG hsh hsf hk hl7 h3 h6 h7
    rw [List.drop_zero] at hp
    rw [hp]
    have hlw := hG.low
    have lp : ∀ x, Fw.look s.next (put s.next x st'.heap) = some x := fun x => look_put_self hk
    have hmn : s.next ≤ min st'.low s.next := by omega
    unfold parO
    have hsl : ∃ c d : TN, bldV 0 acc = slt c (bld acc.length 0 acc).length (encLs (bld acc.length 0 acc)) := ⟨(true, false), (true, false), rfl⟩
    have hlv : ∀ (H : List (Nat × AObj)) (X lo : Nat) (K : AV → St → Prop), s.next ≤ lo → LeaveW s { heap := H, next := X, low := lo } (.tuple [bldV 0 acc, .agg [.int .i64 0, .int .i64 0, .int .i64 0]]) K = K (.tuple [bldV 0 acc, .agg [.int .i64 0, .int .i64 0, .int .i64 0]]) s := by
      intro H X lo K h
      unfold bldV slt
      split
      · rw [LeaveW_tfreeA (s := s) (s' := { heap := H, next := X, low := lo }) rfl h]; rfl
      · rw [LeaveW_tfreeA (s := s) (s' := { heap := H, next := X, low := lo }) (by simp [AV.freeA, AV.free0, Own.free, ow, encLs_al, AV.al]) h]; rfl
    by_cases hacc : acc = []
    · obtain ⟨hv, hw⟩ := hsf hacc
      subst hacc
      have hb0 : bldV 0 [] = .nilslice := rfl
      rw [hb0] at hlv
      simp (config := {contextual := true, implicitDefEqProofs := false, maxSteps := 4000000}) only [go_sem, ↓reduceIte, Bool.false_eq_true, Nat.reduceEqDiff, Nat.reduceAdd, Int.reduceLE, Int.reduceLT, Int.reduceEq, Int.reduceToNat, Int.toNat_natCast, Int.cast_ofNat_Int, Int.natCast_one, Nat.reduceMod, Nat.reduceDiv, UInt8.reduceToNat, Nat.reduceLT, h3, h6, h7, hv, hw, c28n, hk, lp, hlv, hmn]
      rfl
    · obtain ⟨⟨t, ht⟩, u, hu⟩ := hsh hacc
      have hv := tok_shape hG.a ht
      have hw := tok_shape hG.b hu
      rw [hv] at h6
      rw [hw] at h7
      have kb := fun o1 o2 st K => c28 acc.length acc (Nat.le_refl _) o1 o2 0 st K (by decide) (by omega)
      simp (config := {contextual := true, implicitDefEqProofs := false, maxSteps := 4000000}) only [go_sem, ↓reduceIte, Bool.false_eq_true, Nat.reduceEqDiff, Nat.reduceAdd, Int.reduceLE, Int.reduceLT, Int.reduceEq, Int.reduceToNat, Int.toNat_natCast, Int.cast_ofNat_Int, Int.natCast_one, Nat.reduceMod, Nat.reduceDiv, UInt8.reduceToNat, Nat.reduceLT, h3, h6, h7, kb, hk, lp, hlv, hmn]
  · intro er ln cl hp e' st' h2 h3 hk hl
    rw [List.drop_zero] at hp
    rw [hp]
    have hl := fun K => LeaveW_tfreeA (s := s) (s' := st') (vs := [.nilslice, .agg [.int .i64 er, .int .i64 ln, .int .i64 cl]]) rfl hl K
    simp (config := {contextual := true, implicitDefEqProofs := false, maxSteps := 4000000}) only [go_sem, ↓reduceIte, Bool.false_eq_true, Nat.reduceEqDiff, Nat.reduceAdd, Int.reduceLE, Int.reduceLT, Int.reduceEq, Int.reduceToNat, Int.toNat_natCast, Int.cast_ofNat_Int, Int.natCast_one, Nat.reduceMod, Nat.reduceDiv, UInt8.reduceToNat, Nat.reduceLT, h2, h3, hk, hl]
    rfl
end T08

/- Counts, depths, words of lines. -/
namespace T08
open Go Fw Go.Proofs
set_option maxRecDepth 100000
set_option maxHeartbeats 4000000
set_option linter.unusedSimpArgs false
set_option linter.unusedVariables false
theorem cnt_drop {ls : List Line} {i : Nat} (h : i < ls.length) : cntLs (ls.drop i) = cntL ls[i] + cntLs (ls.drop (i + 1)) := by
  rw [List.drop_eq_getElem_cons h]; simp only [cntLs]
theorem cnt_le_drop : ∀ (ls : List Line) (i : Nat), cntLs (ls.drop i) ≤ cntLs ls
  | [], i => by simp
  | l :: ls, 0 => Nat.le_refl _
  | l :: ls, i + 1 => by
    simp only [List.drop_succ_cons, cntLs]
    have := cnt_le_drop ls i
    omega
theorem l21 (b : TN) (ls : List Line) (hl : ls.length ≤ 1000000) (hcn : cntLs ls ≤ 1000000) (hc : ∀ l ∈ ls, ∀ (s : St) (K : AV → St → Prop), CallW cx 21 [slt l.kn l.kids.length (encLs l.kids)] s K = K (.int .i64 (cntLs l.kids : Int)) s) (L : Nat) (Q : Sig → FE → St → Prop) :
    ∀ (n i m : Nat) (e : FE) (st : St), i + n = ls.length → m + cntLs (ls.drop i) ≤ 3000000 + i → st.low = L → L ≤ st.next → e 3 = .int .i64 (m : Int) → e 8 = slt b ls.length (encLs ls) → e 9 = .int .i64 (ls.length : Int) → e 10 = .int .i64 (i : Int) →
    (∀ e' st', st'.low = L → ∀ m' : Nat, m' + (ls.length - i) = m + cntLs (ls.drop i) → e' 3 = .int .i64 (m' : Int) → Q (.exit 0) e' st') → WLoop cx ir21L0 e st Q
  | 0, i, m, e, st, hi, hm, hL, hLn, h3, h8, h9, h10, hQ => by
    refine WLoop.rnd (c := _) ir21L0.eq_1 ?_
    have hd : decide ((i : Int) < (ls.length : Int)) = false := decide_eq_false (by omega)
    rw [List.drop_eq_nil_of_le (by omega)] at hQ
    simp (config := {contextual := true, implicitDefEqProofs := false, maxSteps := 4000000}) only [go_sem, ↓reduceIte, Bool.false_eq_true, Nat.reduceEqDiff, Nat.reduceAdd, Int.reduceLE, Int.reduceLT, Int.reduceEq, Int.reduceToNat, Int.toNat_natCast, Int.cast_ofNat_Int, Int.natCast_one, Nat.reduceMod, Nat.reduceDiv, UInt8.reduceToNat, Nat.reduceLT, h8, h9, h10, hd]
    exact hQ _ _ hL m (by simp only [cntLs]; omega) h3
  | n + 1, i, m, e, st, hi, hm, hL, hLn, h3, h8, h9, h10, hQ => by
    refine WLoop.rnd (c := _) ir21L0.eq_1 ?_
    have hlt : i < ls.length := by omega
    have hd : decide ((i : Int) < (ls.length : Int)) = true := decide_eq_true (by omega)
    have b1 : (0 : Int) ≤ (i : Int) ∧ (i : Int) < (ls.length : Int) := by omega
    have w1 := wrap_one (i := i) (by omega)
    have s1 := sub_line hlt
    have hcd := cnt_drop hlt
    have kc := hc ls[i] (List.getElem_mem hlt)
    rw [hcd] at hQ hm
    obtain ⟨l, hl2⟩ : ∃ l, ls[i] = l := ⟨_, rfl⟩
    rw [hl2] at s1 kc hQ hm
    rw [cntL_eq] at hQ hm
    have hmin : min (min st.low st.next) st.next = st.low := by omega
    have hmin2 : min st.low st.next = st.low := by omega
    have w2 : IntKind.i64.wrap ((m : Int) + (cntLs l.kids : Int)) = ((m + cntLs l.kids : Nat) : Int) := by rw [wrap_i64 (by omega) (by omega)]; omega
    simp (config := {contextual := true, implicitDefEqProofs := false, maxSteps := 4000000}) only [go_sem, ↓reduceIte, Bool.false_eq_true, Nat.reduceEqDiff, Nat.reduceAdd, Int.reduceLE, Int.reduceLT, Int.reduceEq, Int.reduceToNat, Int.toNat_natCast, Int.cast_ofNat_Int, Int.natCast_one, Nat.reduceMod, Nat.reduceDiv, UInt8.reduceToNat, Nat.reduceLT, h3, h8, h9, h10, hd, b1, s1, kc, w1, w2, hmin, hmin2]
    refine l21 b ls hl hcn hc L Q n (i + 1) (m + cntLs l.kids) _ _ (by omega) (by omega) hL (by simp only; omega) rfl h8 h9 rfl ?_
    intro e' st' hL2 m' hm' h3'
    exact hQ e' st' hL2 m' (by omega) h3'
theorem c21 : ∀ (ls : List Line), cntLs ls ≤ 1000000 → ∀ (b : TN) (s : St) (K : AV → St → Prop), CallW cx 21 [slt b ls.length (encLs ls)] s K = K (.int .i64 (cntLs ls : Int)) s := by
  refine lines_ind fun ls ih => ?_
  intro hcn b s K
  have hlc := len_cnt ls
  refine CallW.eq (CallW.fn' (fn := ir21) rfl rfl (by kernel_rfl) ir21.eq_1 ?_) K
  simp (config := {contextual := true, implicitDefEqProofs := false, maxSteps := 4000000}) only [go_sem, ↓reduceIte, Bool.false_eq_true, Nat.reduceEqDiff, Nat.reduceAdd, Int.reduceLE, Int.reduceLT, Int.reduceEq, Int.reduceToNat, Int.toNat_natCast, Int.cast_ofNat_Int, Int.natCast_one, Nat.reduceMod, Nat.reduceDiv, UInt8.reduceToNat, Nat.reduceLT]
  refine l21 b ls (by omega) hcn (fun l hl s K => ih l hl (by have := cnt_mem l hl; rw [cntL_eq] at this; omega) l.kn s K) s.next _ ls.length 0 ls.length _ { heap := s.heap, next := s.next, low := s.next } (by omega) (by rw [List.drop_zero]; omega) rfl (Nat.le_refl _) rfl rfl rfl rfl ?_
  intro e' st' hL m' hm h3
  rw [List.drop_zero] at hm
  have hm2 : m' = cntLs ls := by omega
  subst hm2
  simp (config := {contextual := true, implicitDefEqProofs := false, maxSteps := 4000000}) only [go_sem, ↓reduceIte, Bool.false_eq_true, Nat.reduceEqDiff, Nat.reduceAdd, Int.reduceLE, Int.reduceLT, Int.reduceEq, Int.reduceToNat, Int.toNat_natCast, Int.cast_ofNat_Int, Int.natCast_one, Nat.reduceMod, Nat.reduceDiv, UInt8.reduceToNat, Nat.reduceLT, h3, hL]
mutual
/-- How many lines lie within each other. -/
def depL : Line → Nat
  | .mk _ _ _ _ k _ => 1 + depLs k
def depLs : List Line → Nat
  | [] => 0
  | l :: ls => max (depL l) (depLs ls)
end
theorem depL_eq (l : Line) : depL l = 1 + depLs l.kids := by cases l; simp only [depL, Line.kids]
theorem dep_cnt : ∀ ls : List Line, depLs ls ≤ cntLs ls := by
  refine lines_ind fun ls ih => ?_
  induction ls with
  | nil => exact Nat.le_refl _
  | cons l ls ih2 =>
    have h1 := ih l (by simp)
    have h2 := ih2 fun x hx => ih x (by simp [hx])
    simp only [depLs, cntLs, depL_eq, cntL_eq]
    omega
theorem l20 (b : TN) (ls : List Line) (hl : ls.length ≤ 1000000) (hcn : cntLs ls ≤ 1000000) (hc : ∀ l ∈ ls, ∀ (s : St) (K : AV → St → Prop), CallW cx 20 [slt l.kn l.kids.length (encLs l.kids)] s K = K (.int .i64 (depLs l.kids : Int)) s) (L : Nat) (Q : Sig → FE → St → Prop) :
    ∀ (n i m : Nat) (e : FE) (st : St), i + n = ls.length → st.low = L → L ≤ st.next → e 3 = .int .i64 (m : Int) → e 6 = slt b ls.length (encLs ls) → e 7 = .int .i64 (ls.length : Int) → e 8 = .int .i64 (i : Int) →
    (∀ e' st', st'.low = L → e' 3 = .int .i64 ((max m (depLs (ls.drop i)) : Nat) : Int) → Q (.exit 0) e' st') → WLoop cx ir20L0 e st Q
  | 0, i, m, e, st, hi, hL, hLn, h3, h8, h9, h10, hQ => by
    refine WLoop.rnd (c := _) ir20L0.eq_1 ?_
    have hd : decide ((i : Int) < (ls.length : Int)) = false := decide_eq_false (by omega)
    rw [List.drop_eq_nil_of_le (by omega)] at hQ
    simp (config := {contextual := true, implicitDefEqProofs := false, maxSteps := 4000000}) only [go_sem, ↓reduceIte, Bool.false_eq_true, Nat.reduceEqDiff, Nat.reduceAdd, Int.reduceLE, Int.reduceLT, Int.reduceEq, Int.reduceToNat, Int.toNat_natCast, Int.cast_ofNat_Int, Int.natCast_one, Nat.reduceMod, Nat.reduceDiv, UInt8.reduceToNat, Nat.reduceLT, h8, h9, h10, hd]
    have h3' : e 3 = .int .i64 ((max m (depLs []) : Nat) : Int) := by rw [h3]; simp only [depLs]; congr 1; omega
    exact hQ _ _ hL h3'
  | n + 1, i, m, e, st, hi, hL, hLn, h3, h8, h9, h10, hQ => by
    refine WLoop.rnd (c := _) ir20L0.eq_1 ?_
    have hlt : i < ls.length := by omega
    have hd : decide ((i : Int) < (ls.length : Int)) = true := decide_eq_true (by omega)
    have b1 : (0 : Int) ≤ (i : Int) ∧ (i : Int) < (ls.length : Int) := by omega
    have w1 := wrap_one (i := i) (by omega)
    have s1 := sub_line hlt
    have kc := hc ls[i] (List.getElem_mem hlt)
    have hcm := cnt_mem ls[i] (List.getElem_mem hlt)
    have hdc := dep_cnt ls[i].kids
    rw [List.drop_eq_getElem_cons hlt] at hQ
    simp only [depLs] at hQ
    obtain ⟨l, hl2⟩ : ∃ l, ls[i] = l := ⟨_, rfl⟩
    rw [hl2] at s1 kc hQ hcm hdc
    rw [depL_eq] at hQ
    rw [cntL_eq] at hcm
    have hmin : min (min st.low st.next) st.next = st.low := by omega
    have hmin2 : min st.low st.next = st.low := by omega
    have w2 : IntKind.i64.wrap (1 + (depLs l.kids : Int)) = ((1 + depLs l.kids : Nat) : Int) := by rw [wrap_i64 (by omega) (by omega)]; omega
    have hmx : max (m : Int) ((1 + depLs l.kids : Nat) : Int) = ((max m (1 + depLs l.kids) : Nat) : Int) := by omega
    simp (config := {contextual := true, implicitDefEqProofs := false, maxSteps := 4000000}) only [go_sem, ↓reduceIte, Bool.false_eq_true, Nat.reduceEqDiff, Nat.reduceAdd, Int.reduceLE, Int.reduceLT, Int.reduceEq, Int.reduceToNat, Int.toNat_natCast, Int.cast_ofNat_Int, Int.natCast_one, Nat.reduceMod, Nat.reduceDiv, UInt8.reduceToNat, Nat.reduceLT, h3, h8, h9, h10, hd, b1, s1, kc, w1, w2, hmin, hmin2, hmx]
    refine l20 b ls hl hcn hc L Q n (i + 1) (max m (1 + depLs l.kids)) _ _ (by omega) hL (by simp only; omega) rfl h8 h9 rfl ?_
    intro e' st' hL2 h3'
    exact hQ e' st' hL2 (by rw [h3']; congr 1; omega)
theorem c20 : ∀ (ls : List Line), cntLs ls ≤ 1000000 → ∀ (b : TN) (s : St) (K : AV → St → Prop), CallW cx 20 [slt b ls.length (encLs ls)] s K = K (.int .i64 (depLs ls : Int)) s := by
  refine lines_ind fun ls ih => ?_
  intro hcn b s K
  have hlc := len_cnt ls
  refine CallW.eq (CallW.fn' (fn := ir20) rfl rfl (by kernel_rfl) ir20.eq_1 ?_) K
  simp (config := {contextual := true, implicitDefEqProofs := false, maxSteps := 4000000}) only [go_sem, ↓reduceIte, Bool.false_eq_true, Nat.reduceEqDiff, Nat.reduceAdd, Int.reduceLE, Int.reduceLT, Int.reduceEq, Int.reduceToNat, Int.toNat_natCast, Int.cast_ofNat_Int, Int.natCast_one, Nat.reduceMod, Nat.reduceDiv, UInt8.reduceToNat, Nat.reduceLT]
  refine l20 b ls (by omega) hcn (fun l hl s K => ih l hl (by have := cnt_mem l hl; rw [cntL_eq] at this; omega) l.kn s K) s.next _ ls.length 0 0 _ { heap := s.heap, next := s.next, low := s.next } (by omega) rfl (Nat.le_refl _) rfl rfl rfl rfl ?_
  intro e' st' hL h3
  rw [List.drop_zero, Nat.zero_max] at h3
  simp (config := {contextual := true, implicitDefEqProofs := false, maxSteps := 4000000}) only [go_sem, ↓reduceIte, Bool.false_eq_true, Nat.reduceEqDiff, Nat.reduceAdd, Int.reduceLE, Int.reduceLT, Int.reduceEq, Int.reduceToNat, Int.toNat_natCast, Int.cast_ofNat_Int, Int.natCast_one, Nat.reduceMod, Nat.reduceDiv, UInt8.reduceToNat, Nat.reduceLT, h3, hL]
def wordL (l : Line) : List UInt8 := if l.toks = [] then [] else if (l.toks.getD 0 noT).k = 1 then (l.toks.getD 0 noT).t else []
theorem c23 (l : Line) (s : St) (K : AV → St → Prop) : CallW cx 23 [.agg [slt l.tn l.toks.length (encTs l.toks), .bool l.head, slt l.kn l.kids.length (encLs l.kids), .int .i64 l.pos]] s K = K (.str (wordL l)) s := by
  refine CallW.eq (CallW.fn' (fn := ir23) rfl rfl (by kernel_rfl) ir23.eq_1 ?_) K
  unfold wordL
  by_cases h : l.toks = []
  · have d1 : decide ((l.toks.length : Int) = 0) = true := by rw [h]; rfl
    rw [if_pos h]
    simp (config := {contextual := true, implicitDefEqProofs := false, maxSteps := 4000000}) only [go_sem, ↓reduceIte, Bool.false_eq_true, Nat.reduceEqDiff, Nat.reduceAdd, Int.reduceLE, Int.reduceLT, Int.reduceEq, Int.reduceToNat, Int.toNat_natCast, Int.cast_ofNat_Int, Int.natCast_one, Nat.reduceMod, Nat.reduceDiv, UInt8.reduceToNat, Nat.reduceLT, d1]
  have hlt : 0 < l.toks.length := List.length_pos_iff.2 h
  have d1 : decide ((l.toks.length : Int) = 0) = false := decide_eq_false (by omega)
  have b1 : (0 : Int) < (l.toks.length : Int) := by omega
  have hg : l.toks.getD 0 noT = l.toks[0] := by simp [List.getD, hlt]
  have s1 := sub_tk hlt
  have s2 := sub_tt hlt
  rw [← hg] at s1 s2
  rw [Nat.zero_mul] at s1 s2
  rw [Nat.zero_add] at s2
  rw [if_neg h]
  generalize l.toks.getD 0 noT = t at *
  by_cases hk : t.k = 1
  · have d2 : decide (t.k ≠ 1) = false := decide_eq_false (by omega)
    rw [if_pos hk]
    simp (config := {contextual := true, implicitDefEqProofs := false, maxSteps := 4000000}) only [go_sem, ↓reduceIte, Bool.false_eq_true, Nat.reduceEqDiff, Nat.reduceAdd, Int.reduceLE, Int.reduceLT, Int.reduceEq, Int.reduceToNat, Int.toNat_natCast, Int.cast_ofNat_Int, Int.natCast_one, Nat.reduceMod, Nat.reduceDiv, UInt8.reduceToNat, Nat.reduceLT, d1, d2, b1, s1, s2]
  · have d2 : decide (t.k ≠ 1) = true := decide_eq_true hk
    rw [if_neg hk]
    simp (config := {contextual := true, implicitDefEqProofs := false, maxSteps := 4000000}) only [go_sem, ↓reduceIte, Bool.false_eq_true, Nat.reduceEqDiff, Nat.reduceAdd, Int.reduceLE, Int.reduceLT, Int.reduceEq, Int.reduceToNat, Int.toNat_natCast, Int.cast_ofNat_Int, Int.natCast_one, Nat.reduceMod, Nat.reduceDiv, UInt8.reduceToNat, Nat.reduceLT, d1, d2, b1, s1]
end T08

/- The examples of the chapter, in whatever state. -/
namespace T08
open Go Fw Go.Proofs
set_option maxRecDepth 100000
set_option maxHeartbeats 4000000
set_option linter.unusedSimpArgs false
set_option linter.unusedVariables false
def exA : List UInt8 := [115, 105, 116, 101, 32, 104, 97, 108, 108, 58, 10, 32, 32, 100, 101, 118, 105, 99, 101, 32, 97, 58, 10, 32, 32, 32, 32, 112, 111, 105, 110, 116, 32, 116, 10, 110, 111, 116, 101, 10]
def exB : List UInt8 := [115, 105, 116, 101, 32, 104, 97, 108, 108, 58, 10, 32, 32, 100, 101, 118, 105, 99, 101, 32, 97, 58, 10, 32, 32, 32, 32, 32, 32, 112, 111, 105, 110, 116, 32, 116, 10]
def exL : List (Line × Int) := [(.mk (true, false) [⟨1, [115, 105, 116, 101], 0, 1⟩, ⟨1, [104, 97, 108, 108], 0, 6⟩] true (true, false) [] 1, 0), (.mk (true, false) [⟨1, [100, 101, 118, 105, 99, 101], 0, 3⟩, ⟨1, [97], 0, 10⟩] true (true, false) [] 2, 1), (.mk (true, false) [⟨1, [112, 111, 105, 110, 116], 0, 5⟩, ⟨1, [116], 0, 11⟩] false (true, false) [] 3, 2), (.mk (true, false) [⟨1, [110, 111, 116, 101], 0, 1⟩] false (true, false) [] 4, 0)]
def exT : List Line := [.mk (true, false) [⟨1, [115, 105, 116, 101], 0, 1⟩, ⟨1, [104, 97, 108, 108], 0, 6⟩] true (true, false) [.mk (true, false) [⟨1, [100, 101, 118, 105, 99, 101], 0, 3⟩, ⟨1, [97], 0, 10⟩] true (true, false) [.mk (true, false) [⟨1, [112, 111, 105, 110, 116], 0, 5⟩, ⟨1, [116], 0, 11⟩] false (true, false) [] 3] 2] 1, .mk (true, false) [⟨1, [110, 111, 116, 101], 0, 1⟩] false (true, false) [] 4]
theorem exA_eq : parseB exA = .inl exL := by kernel_rfl
theorem exB_eq : parseB exB = .inr (2, 3, 7) := by kernel_rfl
theorem exT_eq : bld exL.length 0 exL = exT := by kernel_rfl
theorem ex_few : fewLs exT := by
  simp only [exT, fewLs, fewL, and_true]
  decide
theorem c9 (s : St) (K : AV → St → Prop) : CallW cx 9 [] s K = K (.bool true) s := by
  refine CallW.eq (CallW.fn' (fn := ir9) rfl rfl (by kernel_rfl) ir9.eq_1 ?_) K
  have k1 : ∀ st K, CallW cx 16 [.str [115, 105, 116, 101, 32, 104, 97, 108, 108, 58, 10, 32, 32, 100, 101, 118, 105, 99, 101, 32, 97, 58, 10, 32, 32, 32, 32, 112, 111, 105, 110, 116, 32, 116, 10, 110, 111, 116, 101, 10]] st K = K (.tuple [slt (true, false) exT.length (encLs exT), .agg [.int .i64 0, .int .i64 0, .int .i64 0]]) st := fun st K => by
    have h := c16 exA st K
    rw [exA_eq] at h
    unfold parO bldV at h
    simp only at h
    rw [exT_eq] at h
    exact h
  have k2 : ∀ st K, CallW cx 16 [.str [115, 105, 116, 101, 32, 104, 97, 108, 108, 58, 10, 32, 32, 100, 101, 118, 105, 99, 101, 32, 97, 58, 10, 32, 32, 32, 32, 32, 32, 112, 111, 105, 110, 116, 32, 116, 10]] st K = K (.tuple [.nilslice, .agg [.int .i64 2, .int .i64 3, .int .i64 7]]) st := fun st K => by
    have h := c16 exB st K
    rw [exB_eq] at h
    exact h
  have k3 : ∀ st K, CallW cx 14 [slt (true, false) exT.length (encLs exT), .int .i64 3] st K = K (.tuple [.slice [.int .i64 0, .int .i64 0, .int .i64 0] 3 .no, .int .i64 0]) st := fun st K => by
    have h := c14 3 exT (by decide) (true, false) st K
    have hw : wayLs 3 exT 0 = some [0, 0, 0] := by kernel_rfl
    rw [hw] at h
    exact h
  have k4 : ∀ st K, CallW cx 10 [slt (true, false) exT.length (encLs exT)] st K = K (.tuple [slt (true, false) 4 (encLs (flLs clT exT)), slt (true, false) 4 [.int .i64 0, .int .i64 1, .int .i64 2, .int .i64 0]]) st := fun st K => by
    have h := c10 exT ex_few (by decide) (true, false) st K
    have h1 : cntLs exT = 4 := by kernel_rfl
    have h2 : dpLs 0 exT = [0, 1, 2, 0] := by kernel_rfl
    rw [h1, h2] at h
    exact h
  have k5 : ∀ st K, CallW cx 21 [slt (true, false) exT.length (encLs exT)] st K = K (.int .i64 4) st := fun st K => by
    have h := c21 exT (by decide) (true, false) st K
    have h1 : cntLs exT = 4 := by kernel_rfl
    rw [h1] at h
    exact h
  have k6 : ∀ st K, CallW cx 20 [slt (true, false) exT.length (encLs exT)] st K = K (.int .i64 3) st := fun st K => by
    have h := c20 exT (by decide) (true, false) st K
    have h1 : depLs exT = 3 := by kernel_rfl
    rw [h1] at h
    exact h
  have hl2 : exT.length = 2 := rfl
  have s1 := sub_line (ls := exT) (i := 1) (by decide)
  have k7 := fun st K => c23 (exT[1]'(by decide)) st K
  rw [show wordL (exT[1]'(by decide)) = [110, 111, 116, 101] by kernel_rfl] at k7
  generalize (exT[1]'(by decide)) = l1 at *
  have k8 : ∀ st K, CallW cx 13 [.slice [.int .i64 0, .int .i64 0, .int .i64 0] 3 .no, .slice [.int .i64 0, .int .i64 0, .int .i64 0] 3 .full] st K = K (.bool true) st := fun st K => c13 (false, false) (false, true) [0, 0, 0] [0, 0, 0] (by decide) st K
  have k9 : ∀ st K, CallW cx 13 [slt (true, false) 4 [.int .i64 0, .int .i64 1, .int .i64 2, .int .i64 0], .slice [.int .i64 0, .int .i64 1, .int .i64 2, .int .i64 0] 4 .full] st K = K (.bool true) st := fun st K => c13 (true, false) (false, true) [0, 1, 2, 0] [0, 1, 2, 0] (by decide) st K
  generalize flLs clT exT = fl at *
  generalize encLs exT = cs at *
  rw [hl2] at k1 k3 k4 k5 k6
  rw [show (1 * 4 : Nat) = 4 from rfl] at s1
  simp (config := {contextual := true, implicitDefEqProofs := false, maxSteps := 4000000}) only [go_sem, ↓reduceIte, Bool.false_eq_true, Nat.reduceEqDiff, Nat.reduceAdd, Int.reduceLE, Int.reduceLT, Int.reduceEq, Int.reduceToNat, Int.toNat_natCast, Int.cast_ofNat_Int, Int.natCast_one, Nat.reduceMod, Nat.reduceDiv, UInt8.reduceToNat, Nat.reduceLT, k1, k2, k3, k4, k5, k6, s1, k7, k8, k9, show decide ((2 : Int) = 2) = true from rfl, show decide ((4 : Int) = 4) = true from rfl, show decide ((3 : Int) = 3) = true from rfl, show decide ((0 : Int) = 0) = true from rfl, show decide (([110, 111, 116, 101] : List UInt8) = [110, 111, 116, 101]) = true from rfl]
end T08

/- What is parsed is well nested; the tree flattens to its lines: the plain law. -/
namespace T08
open Go Fw Go.Proofs
set_option maxRecDepth 100000
/-- The lines of rows that have tokens, with their depths. -/
def rowsL : List (List UInt8) → Nat → List (Line × Int)
  | [], _ => []
  | r :: rs, i => if (scanB r).1.ts = [] then rowsL rs (i + 1) else (.mk (true, false) (scanB r).1.ts (scanB r).1.head (true, false) [] ((i + 1 : Nat) : Int), (scanB r).1.ind) :: rowsL rs (i + 1)
/-- Each line fits behind the ones ahead of it. -/
def chainB (acc : List (Line × Int)) : List (Line × Int) → Prop
  | [] => True
  | x :: xs => fitsB x.2 acc = true ∧ chainB (acc ++ [x]) xs
theorem parseL_inl : ∀ (rs : List (List UInt8)) (i : Nat) (acc acc' : List (Line × Int)), parseL rs i acc = .inl acc' → acc' = acc ++ rowsL rs i ∧ (∀ r ∈ rs, (scanB r).2.1 = 0) ∧ chainB acc (rowsL rs i)
  | [], i, acc, acc', h => by
    simp only [parseL] at h
    cases h
    exact ⟨by simp [rowsL], (fun r hr => by cases hr), trivial⟩
  | r :: rs, i, acc, acc', h => by
    simp only [parseL] at h
    split at h
    · cases h
    rename_i h0
    have h0 : (scanB r).2.1 = 0 := by simpa using h0
    split at h
    · rename_i ht
      obtain ⟨h1, h2, h3⟩ := parseL_inl rs (i + 1) acc acc' h
      simp only [rowsL]
      rw [if_pos ht]
      refine ⟨h1, fun x hx => ?_, h3⟩
      rcases List.mem_cons.1 hx with rfl | hx
      · exact h0
      · exact h2 x hx
    rename_i ht
    split at h
    · cases h
    rename_i hf
    have hf : fitsB (scanB r).1.ind acc = true := by simpa using hf
    obtain ⟨h1, h2, h3⟩ := parseL_inl rs (i + 1) _ acc' h
    simp only [rowsL]
    rw [if_neg ht]
    refine ⟨by rw [h1]; simp, fun x hx => ?_, hf, h3⟩
    rcases List.mem_cons.1 hx with rfl | hx
    · exact h0
    · exact h2 x hx
/-- Depths from a base on, each at most one more than the one ahead. -/
def steps (d : Int) : List (Line × Int) → Prop
  | [] => True
  | x :: xs => x.2 ≤ d + 1 ∧ steps x.2 xs
def nice (b : Int) (xs : List (Line × Int)) : Prop := (∀ x ∈ xs, b ≤ x.2) ∧ steps (b - 1) xs
theorem steps_mono : ∀ (xs : List (Line × Int)) (d e : Int), d ≤ e → steps d xs → steps e xs
  | [], _, _, _, _ => trivial
  | x :: xs, d, e, h, hs => ⟨by have := hs.1; omega, hs.2⟩
theorem chain_steps : ∀ (xs acc : List (Line × Int)) (x : Line × Int), chainB (acc ++ [x]) xs → steps x.2 xs
  | [], _, _, _ => trivial
  | y :: xs, acc, x, h => by
    simp only [chainB] at h
    refine ⟨?_, chain_steps xs (acc ++ [x]) y h.2⟩
    have := h.1
    unfold fitsB at this
    simp only [List.getLast?_append, List.getLast?_singleton, Option.some_or] at this
    simp only [Bool.or_eq_true, Bool.and_eq_true, decide_eq_true_eq] at this
    omega
theorem chain_nice (xs : List (Line × Int)) (h : chainB [] xs) (h0 : ∀ x ∈ xs, 0 ≤ x.2) : nice 0 xs := by
  refine ⟨h0, ?_⟩
  cases xs with
  | nil => trivial
  | cons x xs =>
    simp only [chainB, List.nil_append] at h
    have h1 := h.1
    unfold fitsB at h1
    simp only [List.getLast?_nil, decide_eq_true_eq] at h1
    exact ⟨by omega, chain_steps xs [] x h.2⟩
theorem deep_take (b : Int) : ∀ (xs : List (Line × Int)), ∀ x ∈ xs.take (deepN b xs), b < x.2
  | [], x, h => by simp at h
  | y :: xs, x, h => by
    simp only [deepN] at h
    split at h
    · rename_i hy
      rw [List.take_succ_cons] at h
      rcases List.mem_cons.1 h with rfl | h
      · exact hy
      · exact deep_take b xs x h
    · simp at h
theorem deep_drop (b : Int) : ∀ (xs : List (Line × Int)) (y : Line × Int) (ys : List (Line × Int)), xs.drop (deepN b xs) = y :: ys → y.2 ≤ b
  | [], y, ys, h => by simp at h
  | z :: xs, y, ys, h => by
    simp only [deepN] at h
    split at h
    · rw [List.drop_succ_cons] at h
      exact deep_drop b xs y ys h
    · rename_i hz
      simp only [List.drop_zero, List.cons.injEq] at h
      rw [← h.1]; omega
theorem steps_take : ∀ (xs : List (Line × Int)) (n : Nat) (d : Int), steps d xs → steps d (xs.take n)
  | xs, 0, d, _ => by simp [steps]
  | [], n + 1, d, _ => by simp [steps]
  | x :: xs, n + 1, d, h => ⟨h.1, steps_take xs n x.2 h.2⟩
theorem steps_drop : ∀ (xs : List (Line × Int)) (n : Nat) (d b : Int), steps d xs → (∀ y ys, xs.drop n = y :: ys → y.2 ≤ b) → steps (b - 1) (xs.drop n)
  | [], n, d, b, _, _ => by simp [steps]
  | x :: xs, 0, d, b, h, hb => by
    have := hb x xs rfl
    exact ⟨by omega, h.2⟩
  | x :: xs, n + 1, d, b, h, hb => by
    rw [List.drop_succ_cons] at hb ⊢
    exact steps_drop xs n x.2 b h.2 hb
theorem nice_split {b : Int} {x : Line × Int} {xs : List (Line × Int)} (h : nice b (x :: xs)) : x.2 = b ∧ nice (b + 1) (xs.take (deepN b xs)) ∧ nice b (xs.drop (deepN b xs)) := by
  obtain ⟨h1, h2, h3⟩ := h
  have hx := h1 x (by simp)
  have hxb : x.2 = b := by omega
  refine ⟨hxb, ⟨fun y hy => by have := deep_take b xs y hy; omega, ?_⟩, fun y hy => h1 y (by simp [List.mem_of_mem_drop hy]), ?_⟩
  · rw [show b + 1 - 1 = x.2 by omega]
    exact steps_take xs _ x.2 h3
  · exact steps_drop xs _ x.2 b h3 (fun y ys hy => deep_drop b xs y ys hy)
theorem kids_setK (l : Line) (ks : List Line) : (setK l ks).kids = ks := rfl
/-- The tree's lines and depths are those that it was built of. -/
theorem flat_bld (g : TN → List Tok → TN) : ∀ (k : Nat) (b : Int) (xs : List (Line × Int)), xs.length ≤ k → nice b xs → flLs g (bld k b xs) = xs.map (fun x => bare g x.1) ∧ dpLs b (bld k b xs) = xs.map Prod.snd
  | 0, b, xs, hk, _ => by
    have : xs = [] := List.eq_nil_of_length_eq_zero (by omega)
    subst this
    simp [bld, flLs, dpLs]
  | k + 1, b, [], _, _ => by simp [bld, flLs, dpLs]
  | k + 1, b, x :: xs, hk, hn => by
    simp only [List.length_cons] at hk
    obtain ⟨hx, h1, h2⟩ := nice_split hn
    have hdl := deepN_le b xs
    obtain ⟨a1, a2⟩ := flat_bld g k (b + 1) _ (by rw [List.length_take]; omega) h1
    obtain ⟨b1, b2⟩ := flat_bld g k b _ (by rw [List.length_drop]; omega) h2
    simp only [bld, flLs, dpLs, flL_eq, dpL_eq, kids_setK, a1, a2, b1, b2]
    have hb : bare g (setK x.1 (bld k (b + 1) (xs.take (deepN b xs)))) = bare g x.1 := rfl
    rw [hb]
    constructor
    · rw [List.map_cons, List.cons_append, ← List.map_append, List.take_append_drop]
    · rw [List.map_cons, List.cons_append, ← List.map_append, List.take_append_drop, hx]
theorem dep_bld : ∀ (k : Nat) (b : Int) (xs : List (Line × Int)), xs.length ≤ k → nice b xs → (∀ x ∈ xs, x.2 ≤ 6) → (depLs (bld k b xs) : Int) ≤ if xs = [] then 0 else 7 - b
  | 0, b, xs, hk, _, _ => by
    have : xs = [] := List.eq_nil_of_length_eq_zero (by omega)
    subst this
    simp [bld, depLs]
  | k + 1, b, [], _, _, _ => by simp [bld, depLs]
  | k + 1, b, x :: xs, hk, hn, h6 => by
    simp only [List.length_cons] at hk
    obtain ⟨hx, h1, h2⟩ := nice_split hn
    have hx6 := h6 x (by simp)
    have hdl := deepN_le b xs
    have a1 := dep_bld k (b + 1) _ (by rw [List.length_take]; omega) h1 (fun y hy => h6 y (by simp [List.mem_of_mem_take hy]))
    have b1 := dep_bld k b _ (by rw [List.length_drop]; omega) h2 (fun y hy => h6 y (by simp [List.mem_of_mem_drop hy]))
    simp only [bld, depLs, depL_eq, kids_setK]
    rw [if_neg (by simp)]
    split at a1 <;> split at b1 <;> omega
theorem cnt_bld (k : Nat) (b : Int) (xs : List (Line × Int)) (hk : xs.length ≤ k) (h : nice b xs) : cntLs (bld k b xs) = xs.length := by
  rw [← flLs_len keepT, (flat_bld keepT k b xs hk h).1, List.length_map]
end T08

/- Runs of figures: what they are. -/
namespace T08
open Go Fw Go.Proofs
set_option maxRecDepth 100000
theorem run_full (p : Nat → Bool) : ∀ k i, (∀ j, i ≤ j → j < i + k → p j = true) → runI p k i = i + k
  | 0, i, _ => rfl
  | k + 1, i, h => by
    simp only [runI]
    rw [if_pos (h i (Nat.le_refl _) (by omega)), run_full p k (i + 1) (fun j h1 h2 => h j (by omega) (by omega))]
    omega
theorem cut_whole (a : List UInt8) : cut a ((0 : Nat) : Int) (a.length : Int) = a := by unfold cut; simp
theorem clock_range (a : List UInt8) (h : (clockB a).2.2 = true) : 0 ≤ (clockB a).1 ∧ (clockB a).1 < 1440 := by
  unfold clockB at h ⊢
  split at h
  · rename_i hf
    rw [if_pos hf]
    simp only [Bool.and_eq_true, decide_eq_true_eq] at h ⊢
    have h1 : 0 ≤ clockH a := by unfold clockH dg; omega
    have h2 : 0 ≤ clockM a := by unfold clockM dg; omega
    omega
  · cases h
theorem number_range (a : List UInt8) (h : (numberB a).2 = 0) : -1000000000000 ≤ (numberB a).1 ∧ (numberB a).1 ≤ 1000000000000 := by
  unfold numberB at h ⊢
  generalize decide (a.head? = some (45 : UInt8)) = neg at *
  generalize (cutB 46 (bodyB a)).1 = w at *
  generalize (cutB 46 (bodyB a)).2.1 = f at *
  generalize (cutB 46 (bodyB a)).2.2 = pt at *
  unfold numbB at h ⊢
  split at h
  · cases h
  rename_i h1
  rw [if_neg h1]
  split at h
  · cases h
  rename_i h2
  rw [if_neg h2]
  split at h
  · cases h
  rename_i h3
  rw [if_neg h3]
  split at h
  · cases h
  rename_i h4
  rw [if_neg h4]
  split at h
  · cases h
  rename_i h5
  rw [if_neg h5]
  simp only
  split <;> omega
/-- What a run of figures is. -/
theorem fig_cases (s : List UInt8) (h : (figT s).2 = 0) : (∃ n, (figT s).1 = ⟨4, [], n, 0⟩ ∧ 0 ≤ n ∧ n < 1440) ∨ ((figT s).1 = ⟨5, s, 0, 0⟩) ∨ ∃ n, (figT s).1 = ⟨2, [], n, 0⟩ ∧ -1000000000000 ≤ n ∧ n ≤ 1000000000000 := by
  unfold figT at h ⊢
  split at h
  · rename_i h1
    rw [if_pos h1]
    split at h
    · rename_i h2
      rw [if_pos h2]
      exact .inl ⟨_, rfl, clock_range s h2⟩
    · cases h
  rename_i h1
  rw [if_neg h1]
  split at h
  · rename_i h2
    rw [if_pos h2]
    split at h
    · rename_i h3
      rw [if_pos h3]
      exact .inr (.inl rfl)
    · cases h
  rename_i h2
  rw [if_neg h2]
  split at h
  · rename_i h3
    exact absurd h h3
  · rename_i h3
    rw [if_neg h3]
    exact .inr (.inr ⟨_, rfl, number_range s (by simpa using h3)⟩)
end T08

/- How many tokens and how long texts a scan gives. -/
namespace T08
open Go Fw Go.Proofs
set_option maxRecDepth 100000
theorem next_sz (a : List UInt8) (i : Nat) (h : (nextB a i).2.2 = 0) : (nextB a i).1.t.length ≤ a.length := by
  unfold nextB at h ⊢
  by_cases h1 : isLet (a.getD i 0) = true
  · rw [if_pos h1] at h ⊢
    unfold wordB
    split
    · exact Nat.zero_le _
    · exact cut_le a _ _
  rw [if_neg h1] at h ⊢
  by_cases h2 : (isD (a.getD i 0) || (decide (a.getD i 0 = 45) || decide (a.getD i 0 = 42))) = true
  · rw [if_pos h2] at h ⊢
    unfold numB at h ⊢
    simp only at h ⊢
    rcases fig_cases _ h with ⟨n, hf, _⟩ | hf | ⟨n, hf, _⟩
    · rw [hf]; exact Nat.zero_le _
    · rw [hf]; exact cut_le a _ _
    · rw [hf]; exact Nat.zero_le _
  rw [if_neg h2] at h ⊢
  by_cases h3 : decide (a.getD i 0 = 34) = true
  · rw [if_pos h3] at h ⊢
    unfold textB at h ⊢
    rcases findByte_spec 34 (a.drop (i + 1)) 0 with hf | ⟨n, hf, _, hn⟩
    · rw [hf]; exact Nat.zero_le _
    · rw [hf]
      simp only
      split
      · split
        · exact cut_le a _ _
        · exact Nat.zero_le _
      · exact Nat.zero_le _
  rw [if_neg h3] at h ⊢
  split
  · exact cut_le a _ _
  · exact Nat.zero_le _
theorem scanL_sz (a : List UInt8) : ∀ (k i : Nat) (ts us : List Tok) (c : List UInt8), ts.length ≤ 64 → (∀ x ∈ ts, x.t.length ≤ a.length) → scanL a k i ts = .inl (us, c) → us.length ≤ 64 ∧ ∀ x ∈ us, x.t.length ≤ a.length
  | 0, i, ts, us, c, h1, h2, h => by
    simp only [scanL] at h
    cases h; exact ⟨h1, h2⟩
  | k + 1, i, ts, us, c, h1, h2, h => by
    simp only [scanL] at h
    split at h
    · cases h; exact ⟨h1, h2⟩
    split at h
    · cases h; exact ⟨h1, h2⟩
    split at h
    · cases h
    rename_i h3
    split at h
    · cases h
    rename_i h4
    refine scanL_sz a k _ _ us c (by simp; omega) (fun x hx => ?_) h
    rcases List.mem_append.1 hx with hx | hx
    · exact h2 x hx
    · simp only [List.mem_singleton] at hx
      subst hx
      exact next_sz a i (by simpa using h4)
theorem scan_sz (a : List UInt8) : (scanB a).1.ts.length ≤ 64 ∧ ∀ x ∈ (scanB a).1.ts, x.t.length ≤ a.length := by
  have h0 : (noS.ts.length ≤ 64 ∧ ∀ x ∈ noS.ts, x.t.length ≤ a.length) := ⟨Nat.zero_le _, fun x hx => by cases hx⟩
  unfold scanB
  split
  · exact h0
  split
  · exact h0
  split
  · exact h0
  · rename_i us c h
    have h1 := scanL_sz a _ _ [] us c (Nat.zero_le _) (fun x hx => by cases hx) h
    unfold endB
    split
    · split
      · exact h0
      · exact ⟨by simp only [List.length_dropLast]; omega, fun x hx => h1.2 x (List.dropLast_subset _ hx)⟩
    · exact h1
end T08

/- Sizes of what is parsed; neighbours. -/
namespace T08
open Go Fw Go.Proofs
set_option maxRecDepth 100000
theorem scan_short (r : List UInt8) (h : (scanB r).2.1 = 0) : r.length ≤ 1000 := by
  unfold scanB at h
  split at h
  · exact absurd h (by decide)
  · omega
theorem row_ok (r : List UInt8) (h : (scanB r).2.1 = 0) : (scanB r).1.ts.length ≤ 70 ∧ ∀ t ∈ (scanB r).1.ts, t.t.length ≤ 2000 := by
  obtain ⟨h1, h2⟩ := scan_sz r
  have h3 := scan_short r h
  exact ⟨by omega, fun t ht => by have := h2 t ht; omega⟩
theorem rowsL_all (Q : Line × Int → Prop) : ∀ (rs : List (List UInt8)) (i : Nat), (∀ r ∈ rs, ∀ j : Nat, (scanB r).1.ts ≠ [] → Q (.mk (true, false) (scanB r).1.ts (scanB r).1.head (true, false) [] ((j + 1 : Nat) : Int), (scanB r).1.ind)) → ∀ x ∈ rowsL rs i, Q x
  | [], i, _, x, hx => by cases hx
  | r :: rs, i, h, x, hx => by
    simp only [rowsL] at hx
    have ih := rowsL_all Q rs (i + 1) (fun r' hr' => h r' (by simp [hr']))
    split at hx
    · exact ih x hx
    · rename_i ht
      rcases List.mem_cons.1 hx with rfl | hx
      · exact h r (by simp) i ht
      · exact ih x hx
def sumR : List (List UInt8) → Nat
  | [] => 0
  | r :: rs => r.length + 1 + sumR rs
theorem scan_nil : (scanB []).1.ts = [] := rfl
theorem rowsL_len : ∀ (rs : List (List UInt8)) (i : Nat), 2 * (rowsL rs i).length ≤ sumR rs
  | [], i => Nat.le_refl _
  | r :: rs, i => by
    have ih := rowsL_len rs (i + 1)
    simp only [rowsL, sumR]
    split
    · omega
    · rename_i ht
      have : r ≠ [] := fun h => ht (by rw [h]; exact scan_nil)
      have := List.length_pos_iff.2 this
      simp only [List.length_cons]
      omega
theorem sum_split (c : UInt8) : ∀ a : List UInt8, sumR (splitB c a) = a.length + 1
  | [] => rfl
  | b :: l => by
    have ih := sum_split c l
    simp only [splitB]
    split
    · simp only [sumR, List.length_cons, ih, List.length_nil]; omega
    · cases hs : splitB c l with
      | nil => exact absurd hs (splitB_ne c l)
      | cons x xs =>
        rw [hs] at ih
        simp only [sumR, List.length_cons] at ih ⊢
        omega
theorem sum_trim : ∀ l : List (List UInt8), sumR (trimE l) ≤ sumR l
  | [] => Nat.le_refl _
  | [x] => by
    simp only [trimE]
    split <;> simp [sumR]
  | x :: y :: r => by
    have := sum_trim (y :: r)
    simp only [trimE, sumR] at this ⊢
    omega
theorem acc_len (a : List UInt8) : 2 * (rowsL (linesB a) 0).length ≤ a.length + 1 := by
  have h1 := rowsL_len (linesB a) 0
  have h2 := sum_trim (splitB 10 a)
  rw [sum_split] at h2
  unfold linesB at h1 ⊢
  omega
theorem few_bld : ∀ (k : Nat) (b : Int) (xs : List (Line × Int)), (∀ x ∈ xs, x.1.toks.length ≤ 70 ∧ ∀ t ∈ x.1.toks, t.t.length ≤ 2000) → fewLs (bld k b xs)
  | 0, b, xs, _ => trivial
  | k + 1, b, [], _ => trivial
  | k + 1, b, x :: xs, h => by
    simp only [bld, fewLs, fewL_eq]
    have hx := h x (by simp)
    refine ⟨⟨hx.1, hx.2, few_bld k (b + 1) _ (fun y hy => h y (by simp [List.mem_of_mem_take hy]))⟩, few_bld k b _ (fun y hy => h y (by simp [List.mem_of_mem_drop hy]))⟩
theorem chain_pair : ∀ (xs acc : List (Line × Int)), chainB acc xs → ∀ (j : Nat) (h : j + 1 < xs.length), xs[j + 1].2 ≤ xs[j].2 ∨ (xs[j + 1].2 = xs[j].2 + 1 ∧ xs[j].1.head = true)
  | [], _, _, j, h => by simp at h
  | [x], _, _, j, h => by simp at h
  | x :: y :: xs, acc, hc, 0, h => by
    simp only [chainB] at hc
    have := hc.2.1
    unfold fitsB at this
    simp only [List.getLast?_append, List.getLast?_singleton, Option.some_or, Bool.or_eq_true, Bool.and_eq_true, decide_eq_true_eq] at this
    simpa using this
  | x :: y :: xs, acc, hc, j + 1, h => by
    have := chain_pair (y :: xs) (acc ++ [x]) hc.2 j (by simpa using h)
    simpa using this
/-- What a source without fault gives. -/
structure Parsed (a : List UInt8) (acc : List (Line × Int)) : Prop where
  rows : acc = rowsL (linesB a) 0
  ok : ∀ r ∈ linesB a, (scanB r).2.1 = 0
  nice : nice 0 acc
  six : ∀ x ∈ acc, 0 ≤ x.2 ∧ x.2 ≤ 6
  pair : ∀ (j : Nat) (h : j + 1 < acc.length), acc[j + 1].2 ≤ acc[j].2 ∨ (acc[j + 1].2 = acc[j].2 + 1 ∧ acc[j].1.head = true)
  few : ∀ x ∈ acc, x.1.toks.length ≤ 70 ∧ ∀ t ∈ x.1.toks, t.t.length ≤ 2000
  len : 2 * acc.length ≤ a.length + 1
  chain : chainB [] acc
theorem parsed {a : List UInt8} {acc : List (Line × Int)} (h : parseB a = .inl acc) : Parsed a acc := by
  unfold parseB at h
  split at h
  · cases h
  obtain ⟨h1, h2, h3⟩ := parseL_inl _ _ _ _ h
  rw [List.nil_append] at h1
  have h6 : ∀ x ∈ acc, 0 ≤ x.2 ∧ x.2 ≤ 6 := by
    rw [h1]
    exact rowsL_all (fun x => 0 ≤ x.2 ∧ x.2 ≤ 6) _ _ (fun r _ j _ => ind_range r)
  refine ⟨h1, h2, ?_, h6, ?_, ?_, ?_, ?_⟩
  · rw [h1] at h6 ⊢
    exact chain_nice _ h3 (fun x hx => (h6 x hx).1)
  · subst h1
    exact chain_pair _ [] h3
  · rw [h1]
    exact rowsL_all (fun x => x.1.toks.length ≤ 70 ∧ ∀ t ∈ x.1.toks, t.t.length ≤ 2000) _ _ (fun r hr j _ => row_ok r (h2 r hr))
  · rw [h1]; exact acc_len a
  · rw [h1]; exact h3
end T08
