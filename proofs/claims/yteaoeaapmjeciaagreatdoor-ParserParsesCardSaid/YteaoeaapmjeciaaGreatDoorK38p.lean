/- Parts of the proof, one behind the other. -/
import Derived.Test.YteaoeaapmjeciaaGreatDoorK38h
import Derived.Test.YteaoeaapmjeciaaGreatDoorFwX
import Derived.Test.YteaoeaapmjeciaaGreatDoorK38a
set_option linter.unusedSimpArgs false
set_option linter.unusedVariables false

/- The parser's tree: fits, build. -/
namespace T18
open Go Fw Go.Proofs
set_option maxRecDepth 100000
set_option maxHeartbeats 4000000
set_option linter.unusedSimpArgs false
set_option linter.unusedVariables false
theorem c16n (d ab : Int) (s : St) (K : AV → St → Prop) : CallW cx 16 [.int .i64 d, .nilptr, .int .i64 ab] s K = K (.bool (decide (d = 0))) s := by
  refine CallW.eq (CallW.fn' (fn := ir16) rfl rfl (by kernel_rfl) ir16.eq_1 ?_) K
  have q1 : evEq EqK.ptr AV.nilptr AV.nilptr = some true := rfl
  simp (config := {contextual := true, implicitDefEqProofs := false, maxSteps := 4000000}) only [go_sem, ↓reduceIte, Bool.false_eq_true, Nat.reduceEqDiff, Nat.reduceAdd, Int.reduceLE, Int.reduceLT, Int.reduceEq, Int.reduceToNat, Int.toNat_natCast, Int.cast_ofNat_Int, Int.natCast_one, Nat.reduceMod, Nat.reduceDiv, UInt8.reduceToNat, Nat.reduceLT, q1]
theorem c16 (d ab : Int) (h0 : -1000000 ≤ ab) (h1 : ab ≤ 1000000) (cs : List AV) (off : Nat) (h : Bool) (hs : sub cs (off + 1) 1 = some [.bool h]) (s : St) (K : AV → St → Prop) : CallW cx 16 [.int .i64 d, .vptr cs off, .int .i64 ab] s K = K (.bool (decide (d ≤ ab) || (decide (d = ab + 1) && h))) s := by
  refine CallW.eq (CallW.fn' (fn := ir16) rfl rfl (by kernel_rfl) ir16.eq_1 ?_) K
  have w1 : IntKind.i64.wrap (ab + 1) = ab + 1 := wrap_i64 (by omega) (by omega)
  have q1 : evEq EqK.ptr (AV.vptr cs off) AV.nilptr = some false := rfl
  cases e1 : decide (d ≤ ab) with
  | true => simp (config := {contextual := true, implicitDefEqProofs := false, maxSteps := 4000000}) only [go_sem, ↓reduceIte, Bool.false_eq_true, Nat.reduceEqDiff, Nat.reduceAdd, Int.reduceLE, Int.reduceLT, Int.reduceEq, Int.reduceToNat, Int.toNat_natCast, Int.cast_ofNat_Int, Int.natCast_one, Nat.reduceMod, Nat.reduceDiv, UInt8.reduceToNat, Nat.reduceLT, q1, e1, w1]
  | false =>
    cases e2 : decide (d = ab + 1) with
    | false => simp (config := {contextual := true, implicitDefEqProofs := false, maxSteps := 4000000}) only [go_sem, ↓reduceIte, Bool.false_eq_true, Nat.reduceEqDiff, Nat.reduceAdd, Int.reduceLE, Int.reduceLT, Int.reduceEq, Int.reduceToNat, Int.toNat_natCast, Int.cast_ofNat_Int, Int.natCast_one, Nat.reduceMod, Nat.reduceDiv, UInt8.reduceToNat, Nat.reduceLT, q1, e1, e2, w1]
    | true => simp (config := {contextual := true, implicitDefEqProofs := false, maxSteps := 4000000}) only [go_sem, ↓reduceIte, Bool.false_eq_true, Nat.reduceEqDiff, Nat.reduceAdd, Int.reduceLE, Int.reduceLT, Int.reduceEq, Int.reduceToNat, Int.toNat_natCast, Int.cast_ofNat_Int, Int.natCast_one, Nat.reduceMod, Nat.reduceDiv, UInt8.reduceToNat, Nat.reduceLT, q1, e1, e2, w1, hs]
def setK (l : Line) (ks : List Line) : Line := .mk l.tn l.toks l.head (true, false) ks l.pos
theorem encL_setK (l : Line) (ks : List Line) : encL (setK l ks) = [slt l.tn l.toks.length (encTs l.toks), .bool l.head, slt (true, false) ks.length (encLs ks), .int .i64 l.pos] := by rw [encL_eq]; rfl
/-- How many of the next lines lie deeper. -/
def deepN (b : Int) : List (Line × Int) → Nat
  | [] => 0
  | x :: xs => if b < x.2 then deepN b xs + 1 else 0
theorem deepN_le (b : Int) : ∀ xs, deepN b xs ≤ xs.length
  | [] => Nat.le_refl _
  | x :: xs => by
    simp only [deepN, List.length_cons]
    have := deepN_le b xs
    split <;> omega
/-- The tree of lines with depths. -/
def bld : Nat → Int → List (Line × Int) → List Line
  | 0, _, _ => []
  | _ + 1, _, [] => []
  | k + 1, b, x :: xs => setK x.1 (bld k (b + 1) (xs.take (deepN b xs))) :: bld k b (xs.drop (deepN b xs))
theorem bld_fuel : ∀ (k m : Nat) (b : Int) (xs : List (Line × Int)), xs.length ≤ k → xs.length ≤ m → bld k b xs = bld m b xs
  | 0, 0, _, _, _, _ => rfl
  | 0, m + 1, b, xs, h, _ => by
    have : xs = [] := List.eq_nil_of_length_eq_zero (by omega)
    subst this; rfl
  | k + 1, 0, b, xs, _, h => by
    have : xs = [] := List.eq_nil_of_length_eq_zero (by omega)
    subst this; rfl
  | k + 1, m + 1, b, [], _, _ => rfl
  | k + 1, m + 1, b, x :: xs, h1, h2 => by
    simp only [List.length_cons] at h1 h2
    have := deepN_le b xs
    simp only [bld]
    rw [bld_fuel k m (b + 1) _ (by rw [List.length_take]; omega) (by rw [List.length_take]; omega), bld_fuel k m b _ (by rw [List.length_drop]; omega) (by rw [List.length_drop]; omega)]
theorem encLs_take : ∀ (ls : List Line) (i : Nat), (encLs ls).take (i * 4) = encLs (ls.take i)
  | ls, 0 => by simp [encLs]
  | [], i + 1 => by simp [encLs]
  | l :: ls, i + 1 => by
    simp only [encLs, List.take_succ_cons]
    rw [show (i + 1) * 4 = (encL l).length + i * 4 by rw [encL_length]; omega, List.take_length_add_append, encLs_take ls i]
theorem encLs_drop : ∀ (ls : List Line) (i : Nat), (encLs ls).drop (i * 4) = encLs (ls.drop i)
  | ls, 0 => by simp
  | [], i + 1 => by simp [encLs]
  | l :: ls, i + 1 => by
    simp only [encLs, List.drop_succ_cons]
    rw [show (i + 1) * 4 = (encL l).length + i * 4 by rw [encL_length]; omega, List.drop_length_add_append, encLs_drop ls i]
theorem sl_lines (ls : List Line) (o : Own) (i e : Nat) (h1 : i ≤ e) (h2 : e ≤ ls.length) : sliceA 4 (.slice (encLs ls) ls.length o) (some (.int .i64 (i : Int))) (some (.int .i64 (e : Int))) (some (.int .i64 (e : Int))) = some (.slice (encLs ((ls.drop i).take (e - i))) (e - i) .full) := by
  have hb : bounds ls.length (some (.int .i64 (i : Int))) (some (.int .i64 (e : Int))) = some (i, e) := by
    simp only [bounds]
    rw [if_pos (by omega), if_pos (by omega)]
    simp
  simp only [sliceA]
  rw [if_pos (by rw [encLs_length]), hb]
  simp only [Option.bind_some, encLs_drop, encLs_take, Option.isSome_some, and_self, if_true]
theorem sl_ints (ls : List Int) (o : Own) (i e : Nat) (h1 : i ≤ e) (h2 : e ≤ ls.length) : sliceA 1 (.slice (encI ls) ls.length o) (some (.int .i64 (i : Int))) (some (.int .i64 (e : Int))) (some (.int .i64 (e : Int))) = some (.slice (encI ((ls.drop i).take (e - i))) (e - i) .full) := by
  have hb : bounds ls.length (some (.int .i64 (i : Int))) (some (.int .i64 (e : Int))) = some (i, e) := by
    simp only [bounds]
    rw [if_pos (by omega), if_pos (by omega)]
    simp
  simp only [sliceA]
  rw [if_pos (by rw [encI_length]; omega), hb]
  simp only [Option.bind_some, Nat.mul_one, Option.isSome_some, and_self, if_true]
  congr 2
  unfold encI
  rw [List.map_take, List.map_drop]
theorem l17a (xs : List (Line × Int)) (hl : xs.length ≤ 1000000) (o1 o2 : Own) (b : Int) (x7 x8 x9 : AV) (st : St) (Q : Sig → FE → St → Prop) : ∀ (n j : Nat) (e : FE), j + n = xs.length → e 0 = .slice (encLs (xs.map Prod.fst)) xs.length o1 → e 1 = .slice (encI (xs.map Prod.snd)) xs.length o2 → e 2 = .int .i64 b → e 7 = x7 → e 8 = x8 → e 9 = x9 → e 10 = .int .i64 (j : Int) →
    (∀ e', e' 0 = .slice (encLs (xs.map Prod.fst)) xs.length o1 → e' 1 = .slice (encI (xs.map Prod.snd)) xs.length o2 → e' 2 = .int .i64 b → e' 7 = x7 → e' 8 = x8 → e' 9 = x9 → e' 10 = .int .i64 ((j + deepN b (xs.drop j) : Nat) : Int) → Q (.exit 2) e' st) → WLoop cx ir17L0 e st Q
  | 0, j, e, hj, h0, h1, h2, h7, h8, h9, h10, hQ => by
    refine WLoop.rnd (c := _) ir17L0.eq_1 ?_
    have hd : decide ((j : Int) < (xs.length : Int)) = false := decide_eq_false (by omega)
    rw [List.drop_eq_nil_of_le (by omega)] at hQ
    simp (config := {contextual := true, implicitDefEqProofs := false, maxSteps := 4000000}) only [go_sem, ↓reduceIte, Bool.false_eq_true, Nat.reduceEqDiff, Nat.reduceAdd, Int.reduceLE, Int.reduceLT, Int.reduceEq, Int.reduceToNat, Int.toNat_natCast, Int.cast_ofNat_Int, Int.natCast_one, Nat.reduceMod, Nat.reduceDiv, UInt8.reduceToNat, Nat.reduceLT, h0, h10, hd]
    exact hQ _ h0 h1 h2 h7 h8 h9 h10
  | n + 1, j, e, hj, h0, h1, h2, h7, h8, h9, h10, hQ => by
    refine WLoop.rnd (c := _) ir17L0.eq_1 ?_
    have hlt : j < xs.length := by omega
    have hd : decide ((j : Int) < (xs.length : Int)) = true := decide_eq_true (by omega)
    have hw := wrap_one (i := j) (by omega)
    have b1 : (0 : Int) ≤ (j : Int) ∧ (j : Int) < (xs.length : Int) := by omega
    have s1 : sub (encI (xs.map Prod.snd)) j 1 = some [.int .i64 xs[j].2] := by
      have := sub_int (l := xs.map Prod.snd) (i := j) (by simpa using hlt)
      simpa using this
    rw [List.drop_eq_getElem_cons hlt] at hQ
    simp only [deepN] at hQ
    obtain ⟨x, hx⟩ : ∃ x, xs[j] = x := ⟨_, rfl⟩
    rw [hx] at s1 hQ
    by_cases hc : b < x.2
    · have d1 : decide (x.2 ≤ b) = false := decide_eq_false (by omega)
      rw [if_pos hc] at hQ
      simp (config := {contextual := true, implicitDefEqProofs := false, maxSteps := 4000000}) only [go_sem, ↓reduceIte, Bool.false_eq_true, Nat.reduceEqDiff, Nat.reduceAdd, Int.reduceLE, Int.reduceLT, Int.reduceEq, Int.reduceToNat, Int.toNat_natCast, Int.cast_ofNat_Int, Int.natCast_one, Nat.reduceMod, Nat.reduceDiv, UInt8.reduceToNat, Nat.reduceLT, h0, h1, h2, h10, hd, b1, Nat_mul_one, s1, d1, hw]
      refine l17a xs hl o1 o2 b x7 x8 x9 st Q n (j + 1) _ (by omega) h0 h1 h2 h7 h8 h9 rfl ?_
      intro e' a0 a1 a2 a7 a8 a9 a10
      exact hQ e' a0 a1 a2 a7 a8 a9 (by rw [a10]; congr 1; omega)
    · have d1 : decide (x.2 ≤ b) = true := decide_eq_true (by omega)
      rw [if_neg hc, Nat.add_zero] at hQ
      simp (config := {contextual := true, implicitDefEqProofs := false, maxSteps := 4000000}) only [go_sem, ↓reduceIte, Bool.false_eq_true, Nat.reduceEqDiff, Nat.reduceAdd, Int.reduceLE, Int.reduceLT, Int.reduceEq, Int.reduceToNat, Int.toNat_natCast, Int.cast_ofNat_Int, Int.natCast_one, Nat.reduceMod, Nat.reduceDiv, UInt8.reduceToNat, Nat.reduceLT, h0, h1, h2, h10, hd, b1, Nat_mul_one, s1, d1]
      exact hQ _ h0 h1 h2 h7 h8 h9 h10
end T18


/- The parser's tree: build. -/
namespace T18
open Go Fw Go.Proofs
set_option maxRecDepth 100000
set_option maxHeartbeats 4000000
set_option linter.unusedSimpArgs false
set_option linter.unusedVariables false
theorem encL_one (l : Line) : (encL l).all AV.one = true := by
  have := encLs_one [l]
  simpa only [encLs, List.append_nil] using this
theorem encL_strip (l : Line) : (encL l).map AV.strip = encL l := by
  have := encLs_strip [l]
  simpa only [encLs, List.append_nil] using this
/-- What build answers. -/
def bldV (b : Int) (xs : List (Line × Int)) : AV := slt (true, false) (bld xs.length b xs).length (encLs (bld xs.length b xs))
def bldSpec (xs : List (Line × Int)) : Prop := ∀ (o1 o2 : Own) (b : Int) (s : St) (K : AV → St → Prop), 0 ≤ b → b + xs.length ≤ 1000000 → CallW cx 17 [.slice (encLs (xs.map Prod.fst)) xs.length o1, .slice (encI (xs.map Prod.snd)) xs.length o2, .int .i64 b] s K = K (bldV b xs) s
theorem l17b (xs : List (Line × Int)) (o1 o2 : Own) (b : Int) (hb : 0 ≤ b) (hbl : b + xs.length ≤ 1000000) (hc : ∀ ys : List (Line × Int), ys.length < xs.length → bldSpec ys) (L : Nat) (T : List Line) (Q : Sig → FE → St → Prop) : ∀ (n i : Nat) (e : FE) (st : St) (v : AV) (os : List Line), xs.length - i < n → i ≤ xs.length → os.length ≤ i → T = os ++ bld xs.length b (xs.drop i) → G2 40 4 0 0 L st v .nilslice (encLs os) os.length [] 0 → (os ≠ [] → ∃ t, tokOf v = some t) → (os = [] → v = .nilslice) →
    e 0 = .slice (encLs (xs.map Prod.fst)) xs.length o1 → e 1 = .slice (encI (xs.map Prod.snd)) xs.length o2 → e 2 = .int .i64 b → e 7 = v → e 8 = .int .i64 (i : Int) →
    (∀ e' st' v', G2 40 4 0 0 L st' v' .nilslice (encLs T) T.length [] 0 → (T ≠ [] → ∃ t, tokOf v' = some t) → (T = [] → v' = .nilslice) → e' 7 = v' → Q (.exit 0) e' st') → WLoop cx ir17L1 e st Q
  | 0, i, e, st, v, os, hn, _, _, _, _, _, _, _, _, _, _, _, _ => by omega
  | n + 1, i, e, st, v, os, hn, hi, hoi, hT, hG, hsh, hsf, h0, h1, h2, h7, h8, hQ => by
    refine WLoop.rnd (c := _) ir17L1.eq_1 ?_
    by_cases hd : i < xs.length
    case neg =>
      have d1 : decide ((i : Int) < (xs.length : Int)) = false := decide_eq_false (by omega)
      have hT2 : T = os := by
        rw [hT, List.drop_eq_nil_of_le (by omega)]
        cases xs.length <;> simp [bld]
      subst hT2
      simp (config := {contextual := true, implicitDefEqProofs := false, maxSteps := 4000000}) only [go_sem, ↓reduceIte, Bool.false_eq_true, Nat.reduceEqDiff, Nat.reduceAdd, Int.reduceLE, Int.reduceLT, Int.reduceEq, Int.reduceToNat, Int.toNat_natCast, Int.cast_ofNat_Int, Int.natCast_one, Nat.reduceMod, Nat.reduceDiv, UInt8.reduceToNat, Nat.reduceLT, h0, h8, d1]
      exact hQ _ st v hG hsh hsf h7
    have d1 : decide ((i : Int) < (xs.length : Int)) = true := decide_eq_true (by omega)
    have b1 : (0 : Int) ≤ (i : Int) ∧ (i : Int) < (xs.length : Int) := by omega
    have w1 := wrap_one (i := i) (by omega)
    have s1 : sub (encLs (xs.map Prod.fst)) (i * 4) 4 = some [slt xs[i].1.tn xs[i].1.toks.length (encTs xs[i].1.toks), .bool xs[i].1.head, slt xs[i].1.kn xs[i].1.kids.length (encLs xs[i].1.kids), .int .i64 xs[i].1.pos] := by
      have := sub_line (ls := xs.map Prod.fst) (i := i) (by simpa using hd)
      simpa using this
    obtain ⟨x, hx⟩ : ∃ x, xs[i] = x := ⟨_, rfl⟩
    rw [hx] at s1
    have hdr : xs.drop i = x :: xs.drop (i + 1) := by rw [List.drop_eq_getElem_cons hd, hx]
    simp (config := {contextual := true, implicitDefEqProofs := false, maxSteps := 4000000}) only [go_sem, ↓reduceIte, Bool.false_eq_true, Nat.reduceEqDiff, Nat.reduceAdd, Int.reduceLE, Int.reduceLT, Int.reduceEq, Int.reduceToNat, Int.toNat_natCast, Int.cast_ofNat_Int, Int.natCast_one, Nat.reduceMod, Nat.reduceDiv, UInt8.reduceToNat, Nat.reduceLT, h0, h8, d1, b1, s1, w1]
    refine l17a xs (by omega) o1 o2 b _ _ _ _ _ (xs.length - (i + 1)) (i + 1) _ (by omega) h0 h1 h2 h7 h8 rfl rfl ?_
    intro e1 h0 h1 h2 h7 h8 h9 h10
    obtain ⟨m, hm⟩ : ∃ m, xs.length = m + 1 := ⟨xs.length - 1, by omega⟩
    have hdl := deepN_le b (xs.drop (i + 1))
    rw [List.length_drop] at hdl
    obtain ⟨d, hdd⟩ : ∃ d, deepN b (xs.drop (i + 1)) = d := ⟨_, rfl⟩
    rw [hdd] at h10 hdl
    have hkl : ((xs.drop (i + 1)).take d).length = d := by rw [List.length_take, List.length_drop]; omega
    have hT3 : T = (os ++ [setK x.1 (bld ((xs.drop (i + 1)).take d).length (b + 1) ((xs.drop (i + 1)).take d))]) ++ bld xs.length b (xs.drop (i + 1 + d)) := by
      rw [hT, hdr, hm]
      simp only [bld]
      rw [hdd, bld_fuel m ((xs.drop (i + 1)).take d).length (b + 1) _ (by rw [hkl]; omega) (Nat.le_refl _), List.drop_drop, bld_fuel m (m + 1) b _ (by rw [List.length_drop]; omega) (by rw [List.length_drop]; omega)]
      simp
    have sA := sl_lines (xs.map Prod.fst) o1 (i + 1) (i + 1 + d) (by omega) (by rw [List.length_map]; omega)
    have sB := sl_ints (xs.map Prod.snd) o2 (i + 1) (i + 1 + d) (by omega) (by rw [List.length_map]; omega)
    rw [List.length_map, show i + 1 + d - (i + 1) = d by omega] at sA sB
    rw [← List.map_drop, ← List.map_take] at sA sB
    have kb := fun o1 o2 st K => hc ((xs.drop (i + 1)).take d) (by rw [hkl]; omega) o1 o2 (b + 1) st K (by omega) (by rw [hkl]; omega)
    rw [hkl] at kb
    unfold bldV at kb
    rw [hkl] at kb hT3
    obtain ⟨q, hq⟩ : ∃ q, i + 1 + d = q := ⟨_, rfl⟩
    rw [hq] at h10 sA sB hT3
    have w2 : IntKind.i64.wrap (b + 1) = b + 1 := wrap_i64 (by omega) (by omega)
    generalize bld d (b + 1) ((xs.drop (i + 1)).take d) = ks at *
    generalize (xs.drop (i + 1)).take d = ys at *
    have hlown := hG.lown
    have hlow := hG.low
    have hnn : ¬ st.next + 1 = st.next := by omega
    have hmin : min (min st.low st.next) st.next = st.low := by omega
    have hmin2 : min st.low st.next = st.low := by omega
    obtain ⟨v', st', ap, G', lw, _, ps, tk, nx⟩ := (hG.alloc (.cells (some 40) (encL (setK x.1 ks)))).app1 (bytes := 64) (k := 1) (y := .slice (encL (setK x.1 ks)) 1 .full) (new := encL (setK x.1 ks)) (by simp [cellsOf, encL_length]) rfl (encL_one _) (by rw [encL_length]) (Nat.le_trans (show (os.length + 1) * 64 ≤ 100000000 by omega) (by decide))
    have hst : (encL (setK x.1 ks)).map AV.strip = encL (setK x.1 ks) := encL_strip _
    rw [hst, show encLs os ++ encL (setK x.1 ks) = encLs (os ++ [setK x.1 ks]) by rw [encLs_append]; simp [encLs]] at G'
    have hl1 : (os ++ [setK x.1 ks]).length = os.length + 1 := by simp
    rw [← hl1] at G'
    rw [encL_setK] at ap
    simp (config := {contextual := true, implicitDefEqProofs := false, maxSteps := 4000000}) only [go_sem, ↓reduceIte, Bool.false_eq_true, Nat.reduceEqDiff, Nat.reduceAdd, Int.reduceLE, Int.reduceLT, Int.reduceEq, Int.reduceToNat, Int.toNat_natCast, Int.cast_ofNat_Int, Int.natCast_one, Nat.reduceMod, Nat.reduceDiv, UInt8.reduceToNat, Nat.reduceLT, h0, h1, h2, h7, h8, h9, h10, sA, sB, kb, w1, w2, hmin, hmin2, ap]
    exact l17b xs o1 o2 b hb hbl hc L T Q n q _ st' v' (os ++ [setK x.1 ks]) (by omega) (by omega) (by rw [hl1]; omega) hT3 G' (fun _ => tk (by decide)) (fun h => by simp at h) h0 h1 h2 rfl rfl hQ
theorem c17 : ∀ (N : Nat) (xs : List (Line × Int)), xs.length ≤ N → bldSpec xs
  | N, xs, hN => by
    intro o1 o2 b s K hb hbl
    have hc : ∀ ys : List (Line × Int), ys.length < xs.length → bldSpec ys := fun ys h => by
      match N, hN with
      | 0, hN => omega
      | N + 1, hN => exact c17 N ys (by omega)
    refine CallW.eq (CallW.fn' (fn := ir17) rfl rfl (by kernel_rfl) ir17.eq_1 ?_) K
    simp (config := {contextual := true, implicitDefEqProofs := false, maxSteps := 4000000}) only [go_sem, ↓reduceIte, Bool.false_eq_true, Nat.reduceEqDiff, Nat.reduceAdd, Int.reduceLE, Int.reduceLT, Int.reduceEq, Int.reduceToNat, Int.toNat_natCast, Int.cast_ofNat_Int, Int.natCast_one, Nat.reduceMod, Nat.reduceDiv, UInt8.reduceToNat, Nat.reduceLT]
    refine l17b xs o1 o2 b hb hbl hc s.next (bld xs.length b xs) _ (xs.length + 1) 0 _ { heap := s.heap, next := s.next, low := s.next } .nilslice [] (by omega) (Nat.zero_le _) (Nat.le_refl _) rfl ⟨Gr.nil, Gr.nil, fun t h => (by cases h), fun t h => (by cases h), fun t h => (by cases h), Nat.le_refl _, Nat.le_refl _⟩ (fun h => absurd rfl h) (fun _ => rfl) rfl rfl rfl rfl rfl ?_
    intro e' st' v' hG hsh hsf h7
    unfold bldV
    generalize bld xs.length b xs = T at *
    by_cases hT : T = []
    · have hv := hsf hT
      subst hT
      subst hv
      simp (config := {contextual := true, implicitDefEqProofs := false, maxSteps := 4000000}) only [go_sem, ↓reduceIte, Bool.false_eq_true, Nat.reduceEqDiff, Nat.reduceAdd, Int.reduceLE, Int.reduceLT, Int.reduceEq, Int.reduceToNat, Int.toNat_natCast, Int.cast_ofNat_Int, Int.natCast_one, Nat.reduceMod, Nat.reduceDiv, UInt8.reduceToNat, Nat.reduceLT, h7]
      rw [LeaveW_nils hG.low]
      exact ⟨rfl, rfl⟩
    · obtain ⟨t, ht⟩ := hsh hT
      have hvs := tok_shape hG.a ht
      have hz : slt (true, false) T.length (encLs T) = .slice (encLs T) T.length .no := by
        unfold slt
        rw [if_neg (fun hh => hT (List.eq_nil_of_length_eq_zero hh.2))]
        rfl
      have hlv : ∀ K : AV → St → Prop, LeaveW s st' v' K = K (.slice (encLs T) T.length .no) s := by
        intro K
        rw [LeaveW_free (hG.a.free hG.la (encLs_al _)) hG.low (fun vs h => by rw [hvs] at h; cases h), hvs]
        rfl
      rw [hz]
      simp (config := {contextual := true, implicitDefEqProofs := false, maxSteps := 4000000}) only [go_sem, ↓reduceIte, Bool.false_eq_true, Nat.reduceEqDiff, Nat.reduceAdd, Int.reduceLE, Int.reduceLT, Int.reduceEq, Int.reduceToNat, Int.toNat_natCast, Int.cast_ofNat_Int, Int.natCast_one, Nat.reduceMod, Nat.reduceDiv, UInt8.reduceToNat, Nat.reduceLT, h7, hlv]
theorem c17n (b : Int) (s : St) (K : AV → St → Prop) : CallW cx 17 [.nilslice, .nilslice, .int .i64 b] s K = K .nilslice s := by
  refine CallW.eq (CallW.fn' (fn := ir17) rfl rfl (by kernel_rfl) ir17.eq_1 ?_) K
  simp (config := {contextual := true, implicitDefEqProofs := false, maxSteps := 4000000}) only [go_sem, ↓reduceIte, Bool.false_eq_true, Nat.reduceEqDiff, Nat.reduceAdd, Int.reduceLE, Int.reduceLT, Int.reduceEq, Int.reduceToNat, Int.toNat_natCast, Int.cast_ofNat_Int, Int.natCast_one, Nat.reduceMod, Nat.reduceDiv, UInt8.reduceToNat, Nat.reduceLT]
  refine WLoop.rnd (c := _) ir17L1.eq_1 ?_
  simp (config := {contextual := true, implicitDefEqProofs := false, maxSteps := 4000000}) only [go_sem, ↓reduceIte, Bool.false_eq_true, Nat.reduceEqDiff, Nat.reduceAdd, Int.reduceLE, Int.reduceLT, Int.reduceEq, Int.reduceToNat, Int.toNat_natCast, Int.cast_ofNat_Int, Int.natCast_one, Nat.reduceMod, Nat.reduceDiv, UInt8.reduceToNat, Nat.reduceLT, show decide ((0 : Int) < 0) = false from rfl]
end T18


/- Parse: its loop over the lines. -/
namespace T18
open Go Fw Go.Proofs
set_option maxRecDepth 100000
set_option maxHeartbeats 4000000
set_option linter.unusedSimpArgs false
set_option linter.unusedVariables false
/-- Whether a line of a depth fits behind the lines so far. -/
def fitsB (d : Int) (acc : List (Line × Int)) : Bool := match acc.getLast? with
  | none => decide (d = 0)
  | some x => decide (d ≤ x.2) || (decide (d = x.2 + 1) && x.1.head)
/-- The lines with tokens and their depths, or the first fault. -/
def parseL : List (List UInt8) → Nat → List (Line × Int) → List (Line × Int) ⊕ (Int × Int × Int)
  | [], _, acc => .inl acc
  | r :: rs, i, acc => if (scanB r).2.1 ≠ 0 then .inr ((scanB r).2.1, ((i + 1 : Nat) : Int), (scanB r).2.2)
    else if (scanB r).1.ts = [] then parseL rs (i + 1) acc
    else if fitsB (scanB r).1.ind acc = false then .inr (2, ((i + 1 : Nat) : Int), ((scanB r).1.ts.getD 0 noT).p)
    else parseL rs (i + 1) (acc ++ [(.mk (true, false) (scanB r).1.ts (scanB r).1.head (true, false) [] ((i + 1 : Nat) : Int), (scanB r).1.ind)])
theorem ind_range (a : List UInt8) : 0 ≤ (scanB a).1.ind ∧ (scanB a).1.ind ≤ 6 := by
  have hf : 0 ≤ (firstI a).1 ∧ (firstI a).1 ≤ 6 := by
    unfold firstI
    split
    · unfold indB
      split
      · exact ⟨Int.le_refl _, by decide⟩
      split
      · exact ⟨Int.le_refl _, by decide⟩
      · simp only; omega
    · exact ⟨Int.le_refl _, by decide⟩
  have h0 : 0 ≤ noS.ind ∧ noS.ind ≤ 6 := ⟨Int.le_refl _, by decide⟩
  unfold scanB
  split
  · exact h0
  split
  · exact h0
  split
  · exact h0
  · unfold endB
    split
    · split
      · exact h0
      · exact hf
    · exact hf
theorem app_keeps {ty z bytes : Nat} {st st' : St} {v v' y : AV} {cs new : List AV} {n m : Nat} (h : Gr ty z st v cs n) (hy : cellsOf st z y = some new) (hc : y.count = some m) (hone : new.all AV.one = true) (hl : new.length = m * z) (hr : (n + m) * bytes ≤ room) (ap : appendA st ty z bytes v y = some (v', st')) :
    st.next ≤ st'.next ∧ (∀ i, i < st.next → tokOf v ≠ some i → Fw.look i st'.heap = Fw.look i st.heap) ∧ ∀ t, tokOf v' = some t → tokOf v = some t ∨ st.next ≤ t := by
  obtain ⟨v2, st2, ap2, _, hk, htk, _⟩ := h.app hy hc hone hl hr
  rw [ap] at ap2
  cases ap2
  exact ⟨hk.1, hk.2, htk⟩
theorem l5 (rows full : List (List UInt8)) (cp : Nat) (hrl : rows.length ≤ 70000) (hsub : ∀ i (h : i < rows.length), sub (encS full) i 1 = some [.str rows[i]]) (N : Nat) (Q : Sig → FE → St → Prop) :
    ∀ (n i : Nat) (e : FE) (st : St) (v w : AV) (acc : List (Line × Int)), i + n = rows.length → acc.length ≤ i → (∀ x ∈ acc, 0 ≤ x.2 ∧ x.2 ≤ 6) → G2 40 4 3 1 N st v w (encLs (acc.map Prod.fst)) acc.length (encI (acc.map Prod.snd)) acc.length → ((∀ t, tokOf v = some t → N + 2 ≤ t) ∧ ∀ t, tokOf w = some t → N + 2 ≤ t) → (acc ≠ [] → (∃ t, tokOf v = some t) ∧ ∃ t, tokOf w = some t) → (acc = [] → v = .nilslice ∧ w = .nilslice) →
    Fw.look N st.heap = some (.cells (some 26) [.int .i64 0, .int .i64 0, .int .i64 0]) → Fw.look (N + 1) st.heap = some (.cells none (encS full)) → N + 2 ≤ st.next → e 3 = .ptr N 0 → e 6 = v → e 7 = w → e 28 = .mslice (N + 1) 0 rows.length (some cp) → e 29 = .int .i64 (rows.length : Int) → e 30 = .int .i64 (i : Int) →
    (∀ acc', parseL (rows.drop i) i acc = .inl acc' → ∀ e' st' v' w', G2 40 4 3 1 N st' v' w' (encLs (acc'.map Prod.fst)) acc'.length (encI (acc'.map Prod.snd)) acc'.length → (acc' ≠ [] → (∃ t, tokOf v' = some t) ∧ ∃ t, tokOf w' = some t) → (acc' = [] → v' = .nilslice ∧ w' = .nilslice) → Fw.look N st'.heap = some (.cells (some 26) [.int .i64 0, .int .i64 0, .int .i64 0]) → acc'.length ≤ 70000 → e' 3 = .ptr N 0 → e' 6 = v' → e' 7 = w' → Q (.exit 0) e' st') →
    (∀ er ln cl, parseL (rows.drop i) i acc = .inr (er, ln, cl) → ∀ e' st', e' 2 = .nilslice → e' 3 = .ptr N 0 → Fw.look N st'.heap = some (.cells (some 26) [.int .i64 er, .int .i64 ln, .int .i64 cl]) → N ≤ st'.low → Q .ret e' st') → WLoop cx ir5L0 e st Q
  | 0, i, e, st, v, w, acc, hi, hai, hdp, hG, htv, hsh, hsf, hk1, hk2, hnx, h3, h6, h7, h28, h29, h30, hA, hB => by
    refine WLoop.rnd (c := _) ir5L0.eq_1 ?_
    have hd : decide ((i : Int) < (rows.length : Int)) = false := decide_eq_false (by omega)
    rw [List.drop_eq_nil_of_le (by omega)] at hA
    simp (config := {contextual := true, implicitDefEqProofs := false, maxSteps := 4000000}) only [go_sem, ↓reduceIte, Bool.false_eq_true, Nat.reduceEqDiff, Nat.reduceAdd, Int.reduceLE, Int.reduceLT, Int.reduceEq, Int.reduceToNat, Int.toNat_natCast, Int.cast_ofNat_Int, Int.natCast_one, Nat.reduceMod, Nat.reduceDiv, UInt8.reduceToNat, Nat.reduceLT, h28, h29, h30, hd]
    exact hA acc rfl _ _ v w hG hsh hsf hk1 (by omega) h3 h6 h7
  | n + 1, i, e, st, v, w, acc, hi, hai, hdp, hG, htv, hsh, hsf, hk1, hk2, hnx, h3, h6, h7, h28, h29, h30, hA, hB => by
    refine WLoop.rnd (c := _) ir5L0.eq_1 ?_
    have hlt : i < rows.length := by omega
    have hd : decide ((i : Int) < (rows.length : Int)) = true := decide_eq_true (by omega)
    have b1 : (0 : Int) ≤ (i : Int) ∧ (i : Int) < (rows.length : Int) := by omega
    have w1 := wrap_one (i := i) (by omega)
    have s1 := hsub i hlt
    rw [List.drop_eq_getElem_cons hlt] at hA hB
    obtain ⟨r, hr⟩ : ∃ r, rows[i] = r := ⟨_, rfl⟩
    rw [hr] at s1 hA hB
    simp only [parseL] at hA hB
    have ks := fun st K => c15 r st K
    have hir := ind_range r
    generalize scanB r = x at *
    obtain ⟨⟨ind, ts, hd2, com⟩, er, cl⟩ := x
    simp only at hA hB hir
    simp only [scO] at ks
    have hlown := hG.lown
    have hlow := hG.low
    have n1 : ¬ st.next = N := by omega
    have n2 : ¬ st.next = N + 1 := by omega
    have n3 : ¬ st.next + 1 = N := by omega
    have n4 : ¬ st.next + 1 = N + 1 := by omega
    by_cases her : er = 0
    case neg =>
      have d1 : decide (er ≠ 0) = true := decide_eq_true her
      rw [if_pos her] at hB
      simp (config := {contextual := true, implicitDefEqProofs := false, maxSteps := 4000000}) only [go_sem, ↓reduceIte, Bool.false_eq_true, Nat.reduceEqDiff, Nat.reduceAdd, Int.reduceLE, Int.reduceLT, Int.reduceEq, Int.reduceToNat, Int.toNat_natCast, Int.cast_ofNat_Int, Int.natCast_one, Nat.reduceMod, Nat.reduceDiv, UInt8.reduceToNat, Nat.reduceLT, h3, h28, h29, h30, hd, b1, Nat_mul_one, hk1, hk2, s1, ks, d1, w1, n1, n2, n3, n4]
      refine hB er _ cl rfl _ _ rfl h3 ?_ (by simp only; omega)
      simp only [Fw.look]
      rw [if_neg n3, if_neg n1]
      exact look_put_self hk1
    subst her
    rw [if_neg (by decide)] at hA hB
    have d1 : decide ((0 : Int) ≠ 0) = false := rfl
    by_cases hts : ts = []
    · have d2 : decide ((ts.length : Int) = 0) = true := by rw [hts]; rfl
      rw [if_pos hts] at hA hB
      simp (config := {contextual := true, implicitDefEqProofs := false, maxSteps := 4000000}) only [go_sem, ↓reduceIte, Bool.false_eq_true, Nat.reduceEqDiff, Nat.reduceAdd, Int.reduceLE, Int.reduceLT, Int.reduceEq, Int.reduceToNat, Int.toNat_natCast, Int.cast_ofNat_Int, Int.natCast_one, Nat.reduceMod, Nat.reduceDiv, UInt8.reduceToNat, Nat.reduceLT, h3, h28, h29, h30, hd, b1, Nat_mul_one, hk1, hk2, s1, ks, d1, d2, w1, n1, n2, n3, n4]
      have hG2 := ((hG.alloc (.cells (some 46) [.int .i64 ind, slt (true, false) ts.length (encTs ts), .bool hd2, .str com])).alloc (.cells (some 26) [.int .i64 0, .int .i64 0, .int .i64 cl]))
      refine l5 rows full cp hrl hsub N Q n (i + 1) _ _ v w acc (by omega) (by omega) hdp ?_ htv hsh hsf ?_ ?_ (by simp only; omega) h3 h6 h7 h28 h29 rfl hA hB
      · exact hG2.lowered (by first | omega | (simp only; omega)) (by first | omega | (simp only; omega))
      · simp only [Fw.look]
        rw [if_neg n3, if_neg n1]
        exact hk1
      · simp only [Fw.look]
        rw [if_neg n4, if_neg n2]
        exact hk2
    · have d2 : decide ((ts.length : Int) = 0) = false := decide_eq_false (fun h => hts (List.eq_nil_of_length_eq_zero (by omega)))
      rw [if_neg hts] at hA hB
      have hp := hG.a.lenv
      have hq := hG.b.lenv
      obtain ⟨nl, hnl0⟩ : ∃ nl, nl = Line.mk (true, false) ts hd2 (true, false) [] ((i + 1 : Nat) : Int) := ⟨_, rfl⟩
      have hnl : encL nl = [slt (true, false) ts.length (encTs ts), .bool hd2, .nilslice, .int .i64 ((i + 1 : Nat) : Int)] := by rw [hnl0, encL_eq]; rfl
      rw [← hnl0] at hA hB
      clear hnl0
      have hmin : min (min st.low st.next) (st.next + 1) = st.low := by omega
      have hmin2 : min st.low st.next = st.low := by omega
      have hmin3 : min st.low (st.next + 1) = st.low := by omega
      have hG2 := ((hG.alloc (.cells (some 46) [.int .i64 ind, slt (true, false) ts.length (encTs ts), .bool hd2, .str com])).alloc (.cells (some 26) [.int .i64 0, .int .i64 0, .int .i64 cl]))
      have htl : 0 < ts.length := List.length_pos_iff.2 hts
      have b3 : (0 : Int) < (ts.length : Int) := by omega
      have s3 : sub (encTs ts) 3 1 = some [.int .i64 (ts.getD 0 noT).p] := by
        have := sub_tp htl
        rw [Nat.zero_mul, Nat.zero_add] at this
        rw [this]; simp [List.getD, htl]
      by_cases hacc : acc = []
      · obtain ⟨hv, hw⟩ := hsf hacc
        subst hv
        subst hw
        subst hacc
        have kf : ∀ st K, CallW cx 16 [.int .i64 ind, .nilptr, .int .i64 0] st K = K (.bool (fitsB ind [])) st := fun st K => c16n ind 0 st K
        cases hf : fitsB ind ([] : List (Line × Int)) with
        | false =>
          rw [hf] at kf hB
          rw [if_pos rfl] at hB
          simp (config := {contextual := true, implicitDefEqProofs := false, maxSteps := 4000000}) only [go_sem, ↓reduceIte, Bool.false_eq_true, Nat.reduceEqDiff, Nat.reduceAdd, Int.reduceLE, Int.reduceLT, Int.reduceEq, Int.reduceToNat, Int.toNat_natCast, Int.cast_ofNat_Int, Int.natCast_one, Nat.reduceMod, Nat.reduceDiv, UInt8.reduceToNat, Nat.reduceLT, h3, h6, h7, h28, h29, h30, hd, b1, b3, s3, Nat_mul_one, hk1, hk2, s1, ks, d1, d2, w1, n1, n2, n3, n4, hmin, hmin2, hmin3, kf]
          refine hB 2 _ _ rfl _ _ rfl h3 ?_ (by simp only; omega)
          simp only [Fw.look]
          rw [if_neg n3, if_neg n1]
          exact look_put_self hk1
        | true =>
          rw [hf] at kf hA hB
          rw [if_neg (by decide)] at hA hB
          obtain ⟨v', st', ap, G', lw, _, ps, tk, nx⟩ := hG2.app1 (bytes := 64) (k := 1) (y := .slice (encL nl) 1 .full) (new := encL nl) (by simp [cellsOf, encL_length]) rfl (encL_one _) (by rw [encL_length]) (Nat.le_trans (show (([] : List (Line × Int)).length + 1) * 64 ≤ 10000000 by omega) (by decide))
          obtain ⟨kx, ky, kz⟩ := app_keeps hG2.a (bytes := 64) (m := 1) (y := .slice (encL nl) 1 .full) (new := encL nl) (by simp [cellsOf, encL_length]) rfl (encL_one _) (by rw [encL_length]) (Nat.le_trans (show (([] : List (Line × Int)).length + 1) * 64 ≤ 10000000 by omega) (by decide)) ap
          rw [encL_strip, show encLs (([] : List (Line × Int)).map Prod.fst) ++ encL nl = encLs ((([] : List (Line × Int)) ++ [(nl, ind)]).map Prod.fst) by rw [List.map_append, encLs_append]; simp [encLs]] at G'
          obtain ⟨w', st'', ap2, G'', lw2, _, ps2, tk2, nx2⟩ := G'.app2 (bytes := 8) (k := 1) (y := .slice [.int .i64 ind] 1 .full) (new := [.int .i64 ind]) (by simp [cellsOf]) rfl rfl rfl (Nat.le_trans (show (([] : List (Line × Int)).length + 1) * 8 ≤ 10000000 by omega) (by decide))
          obtain ⟨kx2, ky2, kz2⟩ := app_keeps G'.b (bytes := 8) (m := 1) (y := .slice [.int .i64 ind] 1 .full) (new := [.int .i64 ind]) (by simp [cellsOf]) rfl rfl rfl (Nat.le_trans (show (([] : List (Line × Int)).length + 1) * 8 ≤ 10000000 by omega) (by decide)) ap2
          rw [show ([AV.int .i64 ind].map AV.strip) = [AV.int .i64 ind] from rfl, show encI (([] : List (Line × Int)).map Prod.snd) ++ [AV.int .i64 ind] = encI ((([] : List (Line × Int)) ++ [(nl, ind)]).map Prod.snd) by rw [List.map_append, encI_append]; rfl] at G''
          have hl1 : (([] : List (Line × Int)) ++ [(nl, ind)]).length = ([] : List (Line × Int)).length + 1 := by simp
          rw [← hl1] at G''
          have ps3 : ∃ t, tokOf v' = some t := tk (by decide)
          have tkv : ∀ j, st.next ≤ j → tokOf AV.nilslice ≠ some j := fun j _ h => by cases h
          have lkt : Fw.look st.next st'.heap = some (.cells (some 46) [.int .i64 ind, slt (true, false) ts.length (encTs ts), .bool hd2, .str com]) := by
            rw [ky st.next (by simp only; omega) (tkv st.next (by omega))]
            simp [Fw.look]
          have oldl : ∀ j, j < N + 2 → Fw.look j st''.heap = Fw.look j st.heap := by
            intro j hj
            simp only at kx
            rw [ky2 j (by omega) (fun h => by have := htv.2 j h; omega), ky j (by simp only; omega) (fun h => by have := htv.1 j h; omega)]
            simp only [Fw.look]
            rw [if_neg (by omega), if_neg (by omega)]
          rw [hnl] at ap
          simp (config := {contextual := true, implicitDefEqProofs := false, maxSteps := 4000000}) only [go_sem, ↓reduceIte, Bool.false_eq_true, Nat.reduceEqDiff, Nat.reduceAdd, Int.reduceLE, Int.reduceLT, Int.reduceEq, Int.reduceToNat, Int.toNat_natCast, Int.cast_ofNat_Int, Int.natCast_one, Nat.reduceMod, Nat.reduceDiv, UInt8.reduceToNat, Nat.reduceLT, h3, h6, h7, h28, h29, h30, hd, b1, b3, s3, Nat_mul_one, hk1, hk2, s1, ks, d1, d2, w1, n1, n2, n3, n4, hmin, hmin2, hmin3, kf, ap, lkt, ap2]
          refine l5 rows full cp hrl hsub N Q n (i + 1) _ st'' v' w' (([] : List (Line × Int)) ++ [(nl, ind)]) (by omega) (by rw [hl1]; omega) ?_ G'' ⟨fun t h => by
            rcases kz t h with h | h
            · exact htv.1 t h
            · simp only at h; omega, fun t h => by
            rcases kz2 t h with h | h
            · exact htv.2 t h
            · simp only at kx; omega⟩ (fun _ => ⟨ps3, tk2 (by decide)⟩) (fun h => by simp at h) (by rw [oldl _ (by omega)]; exact hk1) (by rw [oldl _ (by omega)]; exact hk2) (by simp only at kx kx2; omega) h3 rfl rfl h28 h29 rfl hA hB
          intro z hz
          rcases List.mem_append.1 hz with hz | hz
          · exact hdp z hz
          · simp only [List.mem_singleton] at hz
            subst hz
            exact hir
      · obtain ⟨⟨t, ht⟩, u, hu⟩ := hsh hacc
        have hv := tok_shape hG.a ht
        have hw := tok_shape hG.b hu
        obtain ⟨l', x, hlx⟩ : ∃ l' x, acc = l' ++ [x] := by
          rcases List.eq_nil_or_concat acc with h | ⟨l', x, h⟩
          · exact absurd h hacc
          · exact ⟨l', x, by simpa using h⟩
        have hlen : acc.length = l'.length + 1 := by rw [hlx]; simp
        have hx6 := hdp x (by rw [hlx]; simp)
        have s4 : sub (encLs (acc.map Prod.fst)) (l'.length * 4 + 1) 1 = some [.bool x.1.head] := by
          have := sub_lhead (ls := acc.map Prod.fst) (i := l'.length) (by rw [List.length_map]; omega)
          rw [this]; subst hlx; simp
        have s5 : sub (encI (acc.map Prod.snd)) l'.length 1 = some [.int .i64 x.2] := by
          have := sub_int (l := acc.map Prod.snd) (i := l'.length) (by rw [List.length_map]; omega)
          rw [this]; subst hlx; simp
        have hfit : fitsB ind acc = (decide (ind ≤ x.2) || (decide (ind = x.2 + 1) && x.1.head)) := by unfold fitsB; rw [hlx]; simp
        have kf := fun st K => c16 ind x.2 (by omega) (by omega) (encLs (acc.map Prod.fst)) (l'.length * 4) x.1.head s4 st K
        rw [← hfit] at kf
        have w5 : IntKind.i64.wrap ((acc.length : Int) - 1) = (l'.length : Int) := by rw [wrap_i64 (by omega) (by omega)]; omega
        have b5 : (0 : Int) ≤ (l'.length : Int) ∧ (l'.length : Int) < (acc.length : Int) := by omega
        have d5 : decide ((0 : Int) < (acc.length : Int)) = true := decide_eq_true (by omega)
        rw [hv] at h6
        rw [hw] at h7
        cases hf : fitsB ind acc with
        | false =>
          rw [hf] at kf hB
          rw [if_pos rfl] at hB
          simp (config := {contextual := true, implicitDefEqProofs := false, maxSteps := 4000000}) only [go_sem, ↓reduceIte, Bool.false_eq_true, Nat.reduceEqDiff, Nat.reduceAdd, Int.reduceLE, Int.reduceLT, Int.reduceEq, Int.reduceToNat, Int.toNat_natCast, Int.cast_ofNat_Int, Int.natCast_one, Nat.reduceMod, Nat.reduceDiv, UInt8.reduceToNat, Nat.reduceLT, h3, h6, h7, h28, h29, h30, hd, b1, b3, s3, Nat_mul_one, hk1, hk2, s1, ks, d1, d2, w1, n1, n2, n3, n4, hmin, hmin2, hmin3, w5, b5, d5, s5, kf]
          refine hB 2 _ _ rfl _ _ rfl h3 ?_ (by simp only; omega)
          simp only [Fw.look]
          rw [if_neg n3, if_neg n1]
          exact look_put_self hk1
        | true =>
          rw [hf] at kf hA hB
          rw [if_neg (by decide)] at hA hB
          obtain ⟨v', st', ap, G', lw, _, ps, tk, nx⟩ := hG2.app1 (bytes := 64) (k := 1) (y := .slice (encL nl) 1 .full) (new := encL nl) (by simp [cellsOf, encL_length]) rfl (encL_one _) (by rw [encL_length]) (Nat.le_trans (show (acc.length + 1) * 64 ≤ 10000000 by omega) (by decide))
          obtain ⟨kx, ky, kz⟩ := app_keeps hG2.a (bytes := 64) (m := 1) (y := .slice (encL nl) 1 .full) (new := encL nl) (by simp [cellsOf, encL_length]) rfl (encL_one _) (by rw [encL_length]) (Nat.le_trans (show (acc.length + 1) * 64 ≤ 10000000 by omega) (by decide)) ap
          rw [encL_strip, show encLs (acc.map Prod.fst) ++ encL nl = encLs ((acc ++ [(nl, ind)]).map Prod.fst) by rw [List.map_append, encLs_append]; simp [encLs]] at G'
          obtain ⟨w', st'', ap2, G'', lw2, _, ps2, tk2, nx2⟩ := G'.app2 (bytes := 8) (k := 1) (y := .slice [.int .i64 ind] 1 .full) (new := [.int .i64 ind]) (by simp [cellsOf]) rfl rfl rfl (Nat.le_trans (show (acc.length + 1) * 8 ≤ 10000000 by omega) (by decide))
          obtain ⟨kx2, ky2, kz2⟩ := app_keeps G'.b (bytes := 8) (m := 1) (y := .slice [.int .i64 ind] 1 .full) (new := [.int .i64 ind]) (by simp [cellsOf]) rfl rfl rfl (Nat.le_trans (show (acc.length + 1) * 8 ≤ 10000000 by omega) (by decide)) ap2
          rw [show ([AV.int .i64 ind].map AV.strip) = [AV.int .i64 ind] from rfl, show encI (acc.map Prod.snd) ++ [AV.int .i64 ind] = encI ((acc ++ [(nl, ind)]).map Prod.snd) by rw [List.map_append, encI_append]; rfl] at G''
          have hl1 : (acc ++ [(nl, ind)]).length = acc.length + 1 := by simp
          rw [← hl1] at G''
          have ps3 : ∃ t, tokOf v' = some t := tk (by decide)
          have tkv : ∀ j, st.next ≤ j → tokOf v ≠ some j := fun j hj h => by have := hG.a.tok_lt h; omega
          have lkt : Fw.look st.next st'.heap = some (.cells (some 46) [.int .i64 ind, slt (true, false) ts.length (encTs ts), .bool hd2, .str com]) := by
            rw [ky st.next (by simp only; omega) (tkv st.next (by omega))]
            simp [Fw.look]
          have oldl : ∀ j, j < N + 2 → Fw.look j st''.heap = Fw.look j st.heap := by
            intro j hj
            simp only at kx
            rw [ky2 j (by omega) (fun h => by have := htv.2 j h; omega), ky j (by simp only; omega) (fun h => by have := htv.1 j h; omega)]
            simp only [Fw.look]
            rw [if_neg (by omega), if_neg (by omega)]
          rw [hnl, hv] at ap
          rw [hw] at ap2
          simp (config := {contextual := true, implicitDefEqProofs := false, maxSteps := 4000000}) only [go_sem, ↓reduceIte, Bool.false_eq_true, Nat.reduceEqDiff, Nat.reduceAdd, Int.reduceLE, Int.reduceLT, Int.reduceEq, Int.reduceToNat, Int.toNat_natCast, Int.cast_ofNat_Int, Int.natCast_one, Nat.reduceMod, Nat.reduceDiv, UInt8.reduceToNat, Nat.reduceLT, h3, h6, h7, h28, h29, h30, hd, b1, b3, s3, Nat_mul_one, hk1, hk2, s1, ks, d1, d2, w1, n1, n2, n3, n4, hmin, hmin2, hmin3, w5, b5, d5, s5, kf, ap, lkt, ap2]
          refine l5 rows full cp hrl hsub N Q n (i + 1) _ st'' v' w' (acc ++ [(nl, ind)]) (by omega) (by rw [hl1]; omega) ?_ G'' ⟨fun t h => by
            rcases kz t h with h | h
            · exact htv.1 t h
            · simp only at h; omega, fun t h => by
            rcases kz2 t h with h | h
            · exact htv.2 t h
            · simp only at kx; omega⟩ (fun _ => ⟨ps3, tk2 (by decide)⟩) (fun h => by simp at h) (by rw [oldl _ (by omega)]; exact hk1) (by rw [oldl _ (by omega)]; exact hk2) (by simp only at kx kx2; omega) h3 rfl rfl h28 h29 rfl hA hB
          intro z hz
          rcases List.mem_append.1 hz with hz | hz
          · exact hdp z hz
          · simp only [List.mem_singleton] at hz
            subst hz
            exact hir
end T18


/- Parse. -/
namespace T18
open Go Fw Go.Proofs
set_option maxRecDepth 100000
set_option maxHeartbeats 4000000
set_option linter.unusedSimpArgs false
set_option linter.unusedVariables false
def parseB (a : List UInt8) : List (Line × Int) ⊕ (Int × Int × Int) := if 65536 < a.length then .inr (7, 1, 1) else parseL (linesB a) 0 []
/-- What Parse answers. -/
def parO : List (Line × Int) ⊕ (Int × Int × Int) → AV
  | .inl acc => .tuple [bldV 0 acc, .agg [.int .i64 0, .int .i64 0, .int .i64 0]]
  | .inr (er, ln, cl) => .tuple [.nilslice, .agg [.int .i64 er, .int .i64 ln, .int .i64 cl]]
theorem trimE_get (l : List (List UInt8)) (i : Nat) (h : i < (trimE l).length) : ∃ h2 : i < l.length, l[i] = (trimE l)[i] := by
  have key : l[i]? = some (trimE l)[i] := by
    rw [← List.getElem?_eq_getElem h]
    rcases List.eq_nil_or_concat l with hn | ⟨m, z, hz⟩
    · subst hn; simp [trimE] at h
    · have hz : l = m ++ [z] := by simpa using hz
      have ht := trimE_take l m z hz
      by_cases hzz : z = []
      · rw [if_pos hzz] at ht
        have hi : i < m.length := by rw [ht] at h; exact h
        rw [ht, hz, List.getElem?_append_left hi]
      · rw [if_neg hzz] at ht
        rw [ht]
  obtain ⟨h2, h3⟩ := List.getElem?_eq_some_iff.1 key
  exact ⟨h2, h3⟩
theorem c5 (a : List UInt8) (s : St) (K : AV → St → Prop) : CallW cx 5 [.str a] s K = K (parO (parseB a)) s := by
  refine CallW.eq (CallW.fn' (fn := ir5) rfl rfl (by kernel_rfl) ir5.eq_1 ?_) K
  unfold parseB
  by_cases h1 : 65536 < a.length
  · have d1 : decide ((65536 : Int) < (a.length : Int)) = true := decide_eq_true (by omega)
    rw [if_pos h1]
    simp (config := {contextual := true, implicitDefEqProofs := false, maxSteps := 4000000}) only [go_sem, ↓reduceIte, Bool.false_eq_true, Nat.reduceEqDiff, Nat.reduceAdd, Int.reduceLE, Int.reduceLT, Int.reduceEq, Int.reduceToNat, Int.toNat_natCast, Int.cast_ofNat_Int, Int.natCast_one, Nat.reduceMod, Nat.reduceDiv, UInt8.reduceToNat, Nat.reduceLT, d1]
    rfl
  rw [if_neg h1]
  have d1 : decide ((65536 : Int) < (a.length : Int)) = false := decide_eq_false (by omega)
  have d0 : decide ((0 : Int) ≠ 0) = false := rfl
  have kl := fun st K => c14 a (by omega) st K
  have hll := lines_le a
  have hsub : ∀ i (h : i < (linesB a).length), sub (encS (splitB 10 a)) i 1 = some [.str (linesB a)[i]] := fun i hi => by
    obtain ⟨h3, h4⟩ := trimE_get (splitB 10 a) i hi
    rw [str_at h3, h4]; rfl
  simp (config := {contextual := true, implicitDefEqProofs := false, maxSteps := 4000000}) only [go_sem, ↓reduceIte, Bool.false_eq_true, Nat.reduceEqDiff, Nat.reduceAdd, Int.reduceLE, Int.reduceLT, Int.reduceEq, Int.reduceToNat, Int.toNat_natCast, Int.cast_ofNat_Int, Int.natCast_one, Nat.reduceMod, Nat.reduceDiv, UInt8.reduceToNat, Nat.reduceLT, d1, d0, kl]
  refine l5 (linesB a) (splitB 10 a) (a.count 10 + 1) (by omega) hsub s.next _ (linesB a).length 0 _ _ .nilslice .nilslice [] (by omega) (Nat.le_refl _) (fun x hx => by cases hx) ⟨Gr.nil, Gr.nil, fun t h => (by cases h), fun t h => (by cases h), fun t h => (by cases h), by simp, by simp⟩ ⟨fun t h => (by cases h), fun t h => (by cases h)⟩ (fun h => absurd rfl h) (fun _ => ⟨rfl, rfl⟩) (by simp [Fw.look]) (by simp [Fw.look]) (by simp) rfl rfl rfl rfl rfl rfl ?_ ?_
  · intro acc hp e' st' v w hG hsh hsf hk hl7 h3 h6 h7
    rw [List.drop_zero] at hp
    rw [hp]
    have hlw := hG.low
    have lp : ∀ x, Fw.look s.next (put s.next x st'.heap) = some x := fun x => look_put_self hk
    have hmn : s.next ≤ min st'.low s.next := by omega
    unfold parO
    have hsl : ∃ c d : TN, bldV 0 acc = slt c (bld acc.length 0 acc).length (encLs (bld acc.length 0 acc)) := ⟨(true, false), (true, false), rfl⟩
    have hlv : ∀ (H : List (Nat × AObj)) (X lo : Nat) (K : AV → St → Prop), s.next ≤ lo → LeaveW s { heap := H, next := X, low := lo } (.tuple [bldV 0 acc, .agg [.int .i64 0, .int .i64 0, .int .i64 0]]) K = K (.tuple [bldV 0 acc, .agg [.int .i64 0, .int .i64 0, .int .i64 0]]) s := by
      intro H X lo K h
      unfold bldV slt
      split
      · rw [LeaveW_tfreeA (s := s) (s' := { heap := H, next := X, low := lo }) rfl h]; rfl
      · rw [LeaveW_tfreeA (s := s) (s' := { heap := H, next := X, low := lo }) (by simp [AV.freeA, AV.free0, Own.free, ow, encLs_al, AV.al]) h]; rfl
    by_cases hacc : acc = []
    · obtain ⟨hv, hw⟩ := hsf hacc
      subst hacc
      have hb0 : bldV 0 [] = .nilslice := rfl
      rw [hb0] at hlv
      simp (config := {contextual := true, implicitDefEqProofs := false, maxSteps := 4000000}) only [go_sem, ↓reduceIte, Bool.false_eq_true, Nat.reduceEqDiff, Nat.reduceAdd, Int.reduceLE, Int.reduceLT, Int.reduceEq, Int.reduceToNat, Int.toNat_natCast, Int.cast_ofNat_Int, Int.natCast_one, Nat.reduceMod, Nat.reduceDiv, UInt8.reduceToNat, Nat.reduceLT, h3, h6, h7, hv, hw, c17n, hk, lp, hlv, hmn]
      rfl
    · obtain ⟨⟨t, ht⟩, u, hu⟩ := hsh hacc
      have hv := tok_shape hG.a ht
      have hw := tok_shape hG.b hu
      rw [hv] at h6
      rw [hw] at h7
      have kb := fun o1 o2 st K => c17 acc.length acc (Nat.le_refl _) o1 o2 0 st K (by decide) (by omega)
      simp (config := {contextual := true, implicitDefEqProofs := false, maxSteps := 4000000}) only [go_sem, ↓reduceIte, Bool.false_eq_true, Nat.reduceEqDiff, Nat.reduceAdd, Int.reduceLE, Int.reduceLT, Int.reduceEq, Int.reduceToNat, Int.toNat_natCast, Int.cast_ofNat_Int, Int.natCast_one, Nat.reduceMod, Nat.reduceDiv, UInt8.reduceToNat, Nat.reduceLT, h3, h6, h7, kb, hk, lp, hlv, hmn]
  · intro er ln cl hp e' st' h2 h3 hk hl
    rw [List.drop_zero] at hp
    rw [hp]
    have hl := fun K => LeaveW_tfreeA (s := s) (s' := st') (vs := [.nilslice, .agg [.int .i64 er, .int .i64 ln, .int .i64 cl]]) rfl hl K
    simp (config := {contextual := true, implicitDefEqProofs := false, maxSteps := 4000000}) only [go_sem, ↓reduceIte, Bool.false_eq_true, Nat.reduceEqDiff, Nat.reduceAdd, Int.reduceLE, Int.reduceLT, Int.reduceEq, Int.reduceToNat, Int.toNat_natCast, Int.cast_ofNat_Int, Int.natCast_one, Nat.reduceMod, Nat.reduceDiv, UInt8.reduceToNat, Nat.reduceLT, h2, h3, hk, hl]
    rfl
end T18


/- Counts, depths, words of lines. -/
namespace T18
open Go Fw Go.Proofs
set_option maxRecDepth 100000
set_option maxHeartbeats 4000000
set_option linter.unusedSimpArgs false
set_option linter.unusedVariables false
theorem cnt_drop {ls : List Line} {i : Nat} (h : i < ls.length) : cntLs (ls.drop i) = cntL ls[i] + cntLs (ls.drop (i + 1)) := by
  rw [List.drop_eq_getElem_cons h]; simp only [cntLs]
theorem l10 (b : TN) (ls : List Line) (hl : ls.length ≤ 1000000) (hcn : cntLs ls ≤ 1000000) (hc : ∀ l ∈ ls, ∀ (s : St) (K : AV → St → Prop), CallW cx 10 [slt l.kn l.kids.length (encLs l.kids)] s K = K (.int .i64 (cntLs l.kids : Int)) s) (L : Nat) (Q : Sig → FE → St → Prop) :
    ∀ (n i m : Nat) (e : FE) (st : St), i + n = ls.length → m + cntLs (ls.drop i) ≤ 3000000 + i → st.low = L → L ≤ st.next → e 3 = .int .i64 (m : Int) → e 8 = slt b ls.length (encLs ls) → e 9 = .int .i64 (ls.length : Int) → e 10 = .int .i64 (i : Int) →
    (∀ e' st', st'.low = L → ∀ m' : Nat, m' + (ls.length - i) = m + cntLs (ls.drop i) → e' 3 = .int .i64 (m' : Int) → Q (.exit 0) e' st') → WLoop cx ir10L0 e st Q
  | 0, i, m, e, st, hi, hm, hL, hLn, h3, h8, h9, h10, hQ => by
    refine WLoop.rnd (c := _) ir10L0.eq_1 ?_
    have hd : decide ((i : Int) < (ls.length : Int)) = false := decide_eq_false (by omega)
    rw [List.drop_eq_nil_of_le (by omega)] at hQ
    simp (config := {contextual := true, implicitDefEqProofs := false, maxSteps := 4000000}) only [go_sem, ↓reduceIte, Bool.false_eq_true, Nat.reduceEqDiff, Nat.reduceAdd, Int.reduceLE, Int.reduceLT, Int.reduceEq, Int.reduceToNat, Int.toNat_natCast, Int.cast_ofNat_Int, Int.natCast_one, Nat.reduceMod, Nat.reduceDiv, UInt8.reduceToNat, Nat.reduceLT, h8, h9, h10, hd]
    exact hQ _ _ hL m (by simp only [cntLs]; omega) h3
  | n + 1, i, m, e, st, hi, hm, hL, hLn, h3, h8, h9, h10, hQ => by
    refine WLoop.rnd (c := _) ir10L0.eq_1 ?_
    have hlt : i < ls.length := by omega
    have hd : decide ((i : Int) < (ls.length : Int)) = true := decide_eq_true (by omega)
    have b1 : (0 : Int) ≤ (i : Int) ∧ (i : Int) < (ls.length : Int) := by omega
    have w1 := wrap_one (i := i) (by omega)
    have s1 := sub_line hlt
    have hcd := cnt_drop hlt
    have kc := hc ls[i] (List.getElem_mem hlt)
    rw [hcd] at hQ hm
    obtain ⟨l, hl2⟩ : ∃ l, ls[i] = l := ⟨_, rfl⟩
    rw [hl2] at s1 kc hQ hm
    rw [cntL_eq] at hQ hm
    have hmin : min (min st.low st.next) st.next = st.low := by omega
    have hmin2 : min st.low st.next = st.low := by omega
    have w2 : IntKind.i64.wrap ((m : Int) + (cntLs l.kids : Int)) = ((m + cntLs l.kids : Nat) : Int) := by rw [wrap_i64 (by omega) (by omega)]; omega
    simp (config := {contextual := true, implicitDefEqProofs := false, maxSteps := 4000000}) only [go_sem, ↓reduceIte, Bool.false_eq_true, Nat.reduceEqDiff, Nat.reduceAdd, Int.reduceLE, Int.reduceLT, Int.reduceEq, Int.reduceToNat, Int.toNat_natCast, Int.cast_ofNat_Int, Int.natCast_one, Nat.reduceMod, Nat.reduceDiv, UInt8.reduceToNat, Nat.reduceLT, h3, h8, h9, h10, hd, b1, s1, kc, w1, w2, hmin, hmin2]
    refine l10 b ls hl hcn hc L Q n (i + 1) (m + cntLs l.kids) _ _ (by omega) (by omega) hL (by simp only; omega) rfl h8 h9 rfl ?_
    intro e' st' hL2 m' hm' h3'
    exact hQ e' st' hL2 m' (by omega) h3'
theorem c10 : ∀ (ls : List Line), cntLs ls ≤ 1000000 → ∀ (b : TN) (s : St) (K : AV → St → Prop), CallW cx 10 [slt b ls.length (encLs ls)] s K = K (.int .i64 (cntLs ls : Int)) s := by
  refine lines_ind fun ls ih => ?_
  intro hcn b s K
  have hlc := len_cnt ls
  refine CallW.eq (CallW.fn' (fn := ir10) rfl rfl (by kernel_rfl) ir10.eq_1 ?_) K
  simp (config := {contextual := true, implicitDefEqProofs := false, maxSteps := 4000000}) only [go_sem, ↓reduceIte, Bool.false_eq_true, Nat.reduceEqDiff, Nat.reduceAdd, Int.reduceLE, Int.reduceLT, Int.reduceEq, Int.reduceToNat, Int.toNat_natCast, Int.cast_ofNat_Int, Int.natCast_one, Nat.reduceMod, Nat.reduceDiv, UInt8.reduceToNat, Nat.reduceLT]
  refine l10 b ls (by omega) hcn (fun l hl s K => ih l hl (by have := cnt_mem l hl; rw [cntL_eq] at this; omega) l.kn s K) s.next _ ls.length 0 ls.length _ { heap := s.heap, next := s.next, low := s.next } (by omega) (by rw [List.drop_zero]; omega) rfl (Nat.le_refl _) rfl rfl rfl rfl ?_
  intro e' st' hL m' hm h3
  rw [List.drop_zero] at hm
  have hm2 : m' = cntLs ls := by omega
  subst hm2
  simp (config := {contextual := true, implicitDefEqProofs := false, maxSteps := 4000000}) only [go_sem, ↓reduceIte, Bool.false_eq_true, Nat.reduceEqDiff, Nat.reduceAdd, Int.reduceLE, Int.reduceLT, Int.reduceEq, Int.reduceToNat, Int.toNat_natCast, Int.cast_ofNat_Int, Int.natCast_one, Nat.reduceMod, Nat.reduceDiv, UInt8.reduceToNat, Nat.reduceLT, h3, hL]
mutual
/-- How many lines lie within each other. -/
def depL : Line → Nat
  | .mk _ _ _ _ k _ => 1 + depLs k
def depLs : List Line → Nat
  | [] => 0
  | l :: ls => max (depL l) (depLs ls)
end
theorem depL_eq (l : Line) : depL l = 1 + depLs l.kids := by cases l; simp only [depL, Line.kids]
theorem dep_cnt : ∀ ls : List Line, depLs ls ≤ cntLs ls := by
  refine lines_ind fun ls ih => ?_
  induction ls with
  | nil => exact Nat.le_refl _
  | cons l ls ih2 =>
    have h1 := ih l (by simp)
    have h2 := ih2 fun x hx => ih x (by simp [hx])
    simp only [depLs, cntLs, depL_eq, cntL_eq]
    omega
theorem l11 (b : TN) (ls : List Line) (hl : ls.length ≤ 1000000) (hcn : cntLs ls ≤ 1000000) (hc : ∀ l ∈ ls, ∀ (s : St) (K : AV → St → Prop), CallW cx 11 [slt l.kn l.kids.length (encLs l.kids)] s K = K (.int .i64 (depLs l.kids : Int)) s) (L : Nat) (Q : Sig → FE → St → Prop) :
    ∀ (n i m : Nat) (e : FE) (st : St), i + n = ls.length → st.low = L → L ≤ st.next → e 3 = .int .i64 (m : Int) → e 6 = slt b ls.length (encLs ls) → e 7 = .int .i64 (ls.length : Int) → e 8 = .int .i64 (i : Int) →
    (∀ e' st', st'.low = L → e' 3 = .int .i64 ((max m (depLs (ls.drop i)) : Nat) : Int) → Q (.exit 0) e' st') → WLoop cx ir11L0 e st Q
  | 0, i, m, e, st, hi, hL, hLn, h3, h8, h9, h10, hQ => by
    refine WLoop.rnd (c := _) ir11L0.eq_1 ?_
    have hd : decide ((i : Int) < (ls.length : Int)) = false := decide_eq_false (by omega)
    rw [List.drop_eq_nil_of_le (by omega)] at hQ
    simp (config := {contextual := true, implicitDefEqProofs := false, maxSteps := 4000000}) only [go_sem, ↓reduceIte, Bool.false_eq_true, Nat.reduceEqDiff, Nat.reduceAdd, Int.reduceLE, Int.reduceLT, Int.reduceEq, Int.reduceToNat, Int.toNat_natCast, Int.cast_ofNat_Int, Int.natCast_one, Nat.reduceMod, Nat.reduceDiv, UInt8.reduceToNat, Nat.reduceLT, h8, h9, h10, hd]
    have h3' : e 3 = .int .i64 ((max m (depLs []) : Nat) : Int) := by rw [h3]; simp only [depLs]; congr 1; omega
    exact hQ _ _ hL h3'
  | n + 1, i, m, e, st, hi, hL, hLn, h3, h8, h9, h10, hQ => by
    refine WLoop.rnd (c := _) ir11L0.eq_1 ?_
    have hlt : i < ls.length := by omega
    have hd : decide ((i : Int) < (ls.length : Int)) = true := decide_eq_true (by omega)
    have b1 : (0 : Int) ≤ (i : Int) ∧ (i : Int) < (ls.length : Int) := by omega
    have w1 := wrap_one (i := i) (by omega)
    have s1 := sub_line hlt
    have kc := hc ls[i] (List.getElem_mem hlt)
    have hcm := cnt_mem ls[i] (List.getElem_mem hlt)
    have hdc := dep_cnt ls[i].kids
    rw [List.drop_eq_getElem_cons hlt] at hQ
    simp only [depLs] at hQ
    obtain ⟨l, hl2⟩ : ∃ l, ls[i] = l := ⟨_, rfl⟩
    rw [hl2] at s1 kc hQ hcm hdc
    rw [depL_eq] at hQ
    rw [cntL_eq] at hcm
    have hmin : min (min st.low st.next) st.next = st.low := by omega
    have hmin2 : min st.low st.next = st.low := by omega
    have w2 : IntKind.i64.wrap (1 + (depLs l.kids : Int)) = ((1 + depLs l.kids : Nat) : Int) := by rw [wrap_i64 (by omega) (by omega)]; omega
    have hmx : max (m : Int) ((1 + depLs l.kids : Nat) : Int) = ((max m (1 + depLs l.kids) : Nat) : Int) := by omega
    simp (config := {contextual := true, implicitDefEqProofs := false, maxSteps := 4000000}) only [go_sem, ↓reduceIte, Bool.false_eq_true, Nat.reduceEqDiff, Nat.reduceAdd, Int.reduceLE, Int.reduceLT, Int.reduceEq, Int.reduceToNat, Int.toNat_natCast, Int.cast_ofNat_Int, Int.natCast_one, Nat.reduceMod, Nat.reduceDiv, UInt8.reduceToNat, Nat.reduceLT, h3, h8, h9, h10, hd, b1, s1, kc, w1, w2, hmin, hmin2, hmx]
    refine l11 b ls hl hcn hc L Q n (i + 1) (max m (1 + depLs l.kids)) _ _ (by omega) hL (by simp only; omega) rfl h8 h9 rfl ?_
    intro e' st' hL2 h3'
    exact hQ e' st' hL2 (by rw [h3']; congr 1; omega)
theorem c11 : ∀ (ls : List Line), cntLs ls ≤ 1000000 → ∀ (b : TN) (s : St) (K : AV → St → Prop), CallW cx 11 [slt b ls.length (encLs ls)] s K = K (.int .i64 (depLs ls : Int)) s := by
  refine lines_ind fun ls ih => ?_
  intro hcn b s K
  have hlc := len_cnt ls
  refine CallW.eq (CallW.fn' (fn := ir11) rfl rfl (by kernel_rfl) ir11.eq_1 ?_) K
  simp (config := {contextual := true, implicitDefEqProofs := false, maxSteps := 4000000}) only [go_sem, ↓reduceIte, Bool.false_eq_true, Nat.reduceEqDiff, Nat.reduceAdd, Int.reduceLE, Int.reduceLT, Int.reduceEq, Int.reduceToNat, Int.toNat_natCast, Int.cast_ofNat_Int, Int.natCast_one, Nat.reduceMod, Nat.reduceDiv, UInt8.reduceToNat, Nat.reduceLT]
  refine l11 b ls (by omega) hcn (fun l hl s K => ih l hl (by have := cnt_mem l hl; rw [cntL_eq] at this; omega) l.kn s K) s.next _ ls.length 0 0 _ { heap := s.heap, next := s.next, low := s.next } (by omega) rfl (Nat.le_refl _) rfl rfl rfl rfl ?_
  intro e' st' hL h3
  rw [List.drop_zero, Nat.zero_max] at h3
  simp (config := {contextual := true, implicitDefEqProofs := false, maxSteps := 4000000}) only [go_sem, ↓reduceIte, Bool.false_eq_true, Nat.reduceEqDiff, Nat.reduceAdd, Int.reduceLE, Int.reduceLT, Int.reduceEq, Int.reduceToNat, Int.toNat_natCast, Int.cast_ofNat_Int, Int.natCast_one, Nat.reduceMod, Nat.reduceDiv, UInt8.reduceToNat, Nat.reduceLT, h3, hL]
def wordL (l : Line) : List UInt8 := if l.toks = [] then [] else if (l.toks.getD 0 noT).k = 1 then (l.toks.getD 0 noT).t else []
theorem c12 (l : Line) (s : St) (K : AV → St → Prop) : CallW cx 12 [.agg [slt l.tn l.toks.length (encTs l.toks), .bool l.head, slt l.kn l.kids.length (encLs l.kids), .int .i64 l.pos]] s K = K (.str (wordL l)) s := by
  refine CallW.eq (CallW.fn' (fn := ir12) rfl rfl (by kernel_rfl) ir12.eq_1 ?_) K
  unfold wordL
  by_cases h : l.toks = []
  · have d1 : decide ((l.toks.length : Int) = 0) = true := by rw [h]; rfl
    rw [if_pos h]
    simp (config := {contextual := true, implicitDefEqProofs := false, maxSteps := 4000000}) only [go_sem, ↓reduceIte, Bool.false_eq_true, Nat.reduceEqDiff, Nat.reduceAdd, Int.reduceLE, Int.reduceLT, Int.reduceEq, Int.reduceToNat, Int.toNat_natCast, Int.cast_ofNat_Int, Int.natCast_one, Nat.reduceMod, Nat.reduceDiv, UInt8.reduceToNat, Nat.reduceLT, d1]
  have hlt : 0 < l.toks.length := List.length_pos_iff.2 h
  have d1 : decide ((l.toks.length : Int) = 0) = false := decide_eq_false (by omega)
  have b1 : (0 : Int) < (l.toks.length : Int) := by omega
  have hg : l.toks.getD 0 noT = l.toks[0] := by simp [List.getD, hlt]
  have s1 := sub_tk hlt
  have s2 := sub_tt hlt
  rw [← hg] at s1 s2
  rw [Nat.zero_mul] at s1 s2
  rw [Nat.zero_add] at s2
  rw [if_neg h]
  generalize l.toks.getD 0 noT = t at *
  by_cases hk : t.k = 1
  · have d2 : decide (t.k ≠ 1) = false := decide_eq_false (by omega)
    rw [if_pos hk]
    simp (config := {contextual := true, implicitDefEqProofs := false, maxSteps := 4000000}) only [go_sem, ↓reduceIte, Bool.false_eq_true, Nat.reduceEqDiff, Nat.reduceAdd, Int.reduceLE, Int.reduceLT, Int.reduceEq, Int.reduceToNat, Int.toNat_natCast, Int.cast_ofNat_Int, Int.natCast_one, Nat.reduceMod, Nat.reduceDiv, UInt8.reduceToNat, Nat.reduceLT, d1, d2, b1, s1, s2]
  · have d2 : decide (t.k ≠ 1) = true := decide_eq_true hk
    rw [if_neg hk]
    simp (config := {contextual := true, implicitDefEqProofs := false, maxSteps := 4000000}) only [go_sem, ↓reduceIte, Bool.false_eq_true, Nat.reduceEqDiff, Nat.reduceAdd, Int.reduceLE, Int.reduceLT, Int.reduceEq, Int.reduceToNat, Int.toNat_natCast, Int.cast_ofNat_Int, Int.natCast_one, Nat.reduceMod, Nat.reduceDiv, UInt8.reduceToNat, Nat.reduceLT, d1, d2, b1, s1]
end T18


/- The examples of the chapter, in whatever state. -/
namespace T18
open Go Fw Go.Proofs
set_option maxRecDepth 100000
set_option maxHeartbeats 4000000
set_option linter.unusedSimpArgs false
set_option linter.unusedVariables false
def exA : List UInt8 := [115, 105, 116, 101, 32, 104, 97, 108, 108, 58, 10, 32, 32, 100, 101, 118, 105, 99, 101, 32, 97, 58, 10, 32, 32, 32, 32, 112, 111, 105, 110, 116, 32, 116, 10, 110, 111, 116, 101, 10]
def exB : List UInt8 := [115, 105, 116, 101, 32, 104, 97, 108, 108, 58, 10, 32, 32, 100, 101, 118, 105, 99, 101, 32, 97, 58, 10, 32, 32, 32, 32, 32, 32, 112, 111, 105, 110, 116, 32, 116, 10]
def exL : List (Line × Int) := [(.mk (true, false) [⟨1, [115, 105, 116, 101], 0, 1⟩, ⟨1, [104, 97, 108, 108], 0, 6⟩] true (true, false) [] 1, 0), (.mk (true, false) [⟨1, [100, 101, 118, 105, 99, 101], 0, 3⟩, ⟨1, [97], 0, 10⟩] true (true, false) [] 2, 1), (.mk (true, false) [⟨1, [112, 111, 105, 110, 116], 0, 5⟩, ⟨1, [116], 0, 11⟩] false (true, false) [] 3, 2), (.mk (true, false) [⟨1, [110, 111, 116, 101], 0, 1⟩] false (true, false) [] 4, 0)]
def exT : List Line := [.mk (true, false) [⟨1, [115, 105, 116, 101], 0, 1⟩, ⟨1, [104, 97, 108, 108], 0, 6⟩] true (true, false) [.mk (true, false) [⟨1, [100, 101, 118, 105, 99, 101], 0, 3⟩, ⟨1, [97], 0, 10⟩] true (true, false) [.mk (true, false) [⟨1, [112, 111, 105, 110, 116], 0, 5⟩, ⟨1, [116], 0, 11⟩] false (true, false) [] 3] 2] 1, .mk (true, false) [⟨1, [110, 111, 116, 101], 0, 1⟩] false (true, false) [] 4]
theorem exA_eq : parseB exA = .inl exL := by kernel_rfl
theorem exB_eq : parseB exB = .inr (2, 3, 7) := by kernel_rfl
theorem exT_eq : bld exL.length 0 exL = exT := by kernel_rfl
theorem ex_few : fewLs exT := by
  simp only [exT, fewLs, fewL, and_true]
  decide
theorem c4 (s : St) (K : AV → St → Prop) : CallW cx 4 [] s K = K (.bool true) s := by
  refine CallW.eq (CallW.fn' (fn := ir4) rfl rfl (by kernel_rfl) ir4.eq_1 ?_) K
  have k1 : ∀ st K, CallW cx 5 [.str [115, 105, 116, 101, 32, 104, 97, 108, 108, 58, 10, 32, 32, 100, 101, 118, 105, 99, 101, 32, 97, 58, 10, 32, 32, 32, 32, 112, 111, 105, 110, 116, 32, 116, 10, 110, 111, 116, 101, 10]] st K = K (.tuple [slt (true, false) exT.length (encLs exT), .agg [.int .i64 0, .int .i64 0, .int .i64 0]]) st := fun st K => by
    have h := c5 exA st K
    rw [exA_eq] at h
    unfold parO bldV at h
    simp only at h
    rw [exT_eq] at h
    exact h
  have k2 : ∀ st K, CallW cx 5 [.str [115, 105, 116, 101, 32, 104, 97, 108, 108, 58, 10, 32, 32, 100, 101, 118, 105, 99, 101, 32, 97, 58, 10, 32, 32, 32, 32, 32, 32, 112, 111, 105, 110, 116, 32, 116, 10]] st K = K (.tuple [.nilslice, .agg [.int .i64 2, .int .i64 3, .int .i64 7]]) st := fun st K => by
    have h := c5 exB st K
    rw [exB_eq] at h
    exact h
  have k3 : ∀ st K, CallW cx 8 [slt (true, false) exT.length (encLs exT), .int .i64 3] st K = K (.tuple [.slice [.int .i64 0, .int .i64 0, .int .i64 0] 3 .no, .int .i64 0]) st := fun st K => by
    have h := c8 3 exT (by decide) (true, false) st K
    have hw : wayLs 3 exT 0 = some [0, 0, 0] := by kernel_rfl
    rw [hw] at h
    exact h
  have k4 : ∀ st K, CallW cx 9 [slt (true, false) exT.length (encLs exT)] st K = K (.tuple [slt (true, false) 4 (encLs (flLs clT exT)), slt (true, false) 4 [.int .i64 0, .int .i64 1, .int .i64 2, .int .i64 0]]) st := fun st K => by
    have h := c9 exT ex_few (by decide) (true, false) st K
    have h1 : cntLs exT = 4 := by kernel_rfl
    have h2 : dpLs 0 exT = [0, 1, 2, 0] := by kernel_rfl
    rw [h1, h2] at h
    exact h
  have k5 : ∀ st K, CallW cx 10 [slt (true, false) exT.length (encLs exT)] st K = K (.int .i64 4) st := fun st K => by
    have h := c10 exT (by decide) (true, false) st K
    have h1 : cntLs exT = 4 := by kernel_rfl
    rw [h1] at h
    exact h
  have k6 : ∀ st K, CallW cx 11 [slt (true, false) exT.length (encLs exT)] st K = K (.int .i64 3) st := fun st K => by
    have h := c11 exT (by decide) (true, false) st K
    have h1 : depLs exT = 3 := by kernel_rfl
    rw [h1] at h
    exact h
  have hl2 : exT.length = 2 := rfl
  have s1 := sub_line (ls := exT) (i := 1) (by decide)
  have k7 := fun st K => c12 (exT[1]'(by decide)) st K
  rw [show wordL (exT[1]'(by decide)) = [110, 111, 116, 101] by kernel_rfl] at k7
  generalize (exT[1]'(by decide)) = l1 at *
  have k8 : ∀ st K, CallW cx 13 [.slice [.int .i64 0, .int .i64 0, .int .i64 0] 3 .no, .slice [.int .i64 0, .int .i64 0, .int .i64 0] 3 .full] st K = K (.bool true) st := fun st K => c13 (false, false) (false, true) [0, 0, 0] [0, 0, 0] (by decide) st K
  have k9 : ∀ st K, CallW cx 13 [slt (true, false) 4 [.int .i64 0, .int .i64 1, .int .i64 2, .int .i64 0], .slice [.int .i64 0, .int .i64 1, .int .i64 2, .int .i64 0] 4 .full] st K = K (.bool true) st := fun st K => c13 (true, false) (false, true) [0, 1, 2, 0] [0, 1, 2, 0] (by decide) st K
  generalize flLs clT exT = fl at *
  generalize encLs exT = cs at *
  rw [hl2] at k1 k3 k4 k5 k6
  rw [show (1 * 4 : Nat) = 4 from rfl] at s1
  simp (config := {contextual := true, implicitDefEqProofs := false, maxSteps := 4000000}) only [go_sem, ↓reduceIte, Bool.false_eq_true, Nat.reduceEqDiff, Nat.reduceAdd, Int.reduceLE, Int.reduceLT, Int.reduceEq, Int.reduceToNat, Int.toNat_natCast, Int.cast_ofNat_Int, Int.natCast_one, Nat.reduceMod, Nat.reduceDiv, UInt8.reduceToNat, Nat.reduceLT, k1, k2, k3, k4, k5, k6, s1, k7, k8, k9, show decide ((2 : Int) = 2) = true from rfl, show decide ((4 : Int) = 4) = true from rfl, show decide ((3 : Int) = 3) = true from rfl, show decide ((0 : Int) = 0) = true from rfl, show decide (([110, 111, 116, 101] : List UInt8) = [110, 111, 116, 101]) = true from rfl]
end T18


/- The reference's tree. -/
namespace T18
open Go Fw Go.Proofs
set_option maxRecDepth 100000
set_option maxHeartbeats 4000000
set_option linter.unusedSimpArgs false
set_option linter.unusedVariables false
theorem c20 (d before : Int) (h : Bool) (h0 : -1000000 ≤ before) (h1 : before ≤ 1000000) (s : St) (K : AV → St → Prop) : CallW cx 20 [.int .i64 d, .int .i64 before, .bool h] s K = K (.bool (if before < 0 then decide (d = 0) else decide (0 ≤ d) && (decide (d ≤ before) || (h && decide (d = before + 1))))) s := by
  refine CallW.eq (CallW.fn' (fn := ir20) rfl rfl (by kernel_rfl) ir20.eq_1 ?_) K
  have w1 : IntKind.i64.wrap (before + 1) = before + 1 := wrap_i64 (by omega) (by omega)
  by_cases hb : before < 0
  · have d1 : decide (before < 0) = true := decide_eq_true hb
    rw [if_pos hb]
    simp (config := {contextual := true, implicitDefEqProofs := false, maxSteps := 4000000}) only [go_sem, ↓reduceIte, Bool.false_eq_true, Nat.reduceEqDiff, Nat.reduceAdd, Int.reduceLE, Int.reduceLT, Int.reduceEq, Int.reduceToNat, Int.toNat_natCast, Int.cast_ofNat_Int, Int.natCast_one, Nat.reduceMod, Nat.reduceDiv, UInt8.reduceToNat, Nat.reduceLT, d1]
  have d1 : decide (before < 0) = false := decide_eq_false hb
  rw [if_neg hb]
  cases e1 : decide (0 ≤ d) with
  | false => simp (config := {contextual := true, implicitDefEqProofs := false, maxSteps := 4000000}) only [go_sem, ↓reduceIte, Bool.false_eq_true, Nat.reduceEqDiff, Nat.reduceAdd, Int.reduceLE, Int.reduceLT, Int.reduceEq, Int.reduceToNat, Int.toNat_natCast, Int.cast_ofNat_Int, Int.natCast_one, Nat.reduceMod, Nat.reduceDiv, UInt8.reduceToNat, Nat.reduceLT, d1, e1]
  | true =>
  cases e2 : decide (d ≤ before) with
  | true => simp (config := {contextual := true, implicitDefEqProofs := false, maxSteps := 4000000}) only [go_sem, ↓reduceIte, Bool.false_eq_true, Nat.reduceEqDiff, Nat.reduceAdd, Int.reduceLE, Int.reduceLT, Int.reduceEq, Int.reduceToNat, Int.toNat_natCast, Int.cast_ofNat_Int, Int.natCast_one, Nat.reduceMod, Nat.reduceDiv, UInt8.reduceToNat, Nat.reduceLT, d1, e1, e2]
  | false =>
  cases h with
  | false => simp (config := {contextual := true, implicitDefEqProofs := false, maxSteps := 4000000}) only [go_sem, ↓reduceIte, Bool.false_eq_true, Nat.reduceEqDiff, Nat.reduceAdd, Int.reduceLE, Int.reduceLT, Int.reduceEq, Int.reduceToNat, Int.toNat_natCast, Int.cast_ofNat_Int, Int.natCast_one, Nat.reduceMod, Nat.reduceDiv, UInt8.reduceToNat, Nat.reduceLT, d1, e1, e2]
  | true => simp (config := {contextual := true, implicitDefEqProofs := false, maxSteps := 4000000}) only [go_sem, ↓reduceIte, Bool.false_eq_true, Nat.reduceEqDiff, Nat.reduceAdd, Int.reduceLE, Int.reduceLT, Int.reduceEq, Int.reduceToNat, Int.toNat_natCast, Int.cast_ofNat_Int, Int.natCast_one, Nat.reduceMod, Nat.reduceDiv, UInt8.reduceToNat, Nat.reduceLT, d1, e1, e2, w1]
def setR (l : Line) (ks : List Line) : Line := .mk l.tn l.toks l.head (false, ks.isEmpty) ks l.pos
theorem encL_setR (l : Line) (ks : List Line) : encL (setR l ks) = [slt l.tn l.toks.length (encTs l.toks), .bool l.head, slt (false, ks.isEmpty) ks.length (encLs ks), .int .i64 l.pos] := by rw [encL_eq]; rfl
def rbld : Nat → Int → List (Line × Int) → List Line
  | 0, _, _ => []
  | _ + 1, _, [] => []
  | k + 1, b, x :: xs => setR x.1 (rbld k (b + 1) (xs.take (deepN b xs))) :: rbld k b (xs.drop (deepN b xs))
theorem rbld_fuel : ∀ (k m : Nat) (b : Int) (xs : List (Line × Int)), xs.length ≤ k → xs.length ≤ m → rbld k b xs = rbld m b xs
  | 0, 0, _, _, _, _ => rfl
  | 0, m + 1, b, xs, h, _ => by
    have : xs = [] := List.eq_nil_of_length_eq_zero (by omega)
    subst this; rfl
  | k + 1, 0, b, xs, _, h => by
    have : xs = [] := List.eq_nil_of_length_eq_zero (by omega)
    subst this; rfl
  | k + 1, m + 1, b, [], _, _ => rfl
  | k + 1, m + 1, b, x :: xs, h1, h2 => by
    simp only [List.length_cons] at h1 h2
    have := deepN_le b xs
    simp only [rbld]
    rw [rbld_fuel k m (b + 1) _ (by rw [List.length_take]; omega) (by rw [List.length_take]; omega), rbld_fuel k m b _ (by rw [List.length_drop]; omega) (by rw [List.length_drop]; omega)]
theorem same_rbld (p : Bool) : ∀ (k : Nat) (b : Int) (xs : List (Line × Int)), sameLs p (bld k b xs) (rbld k b xs) = true
  | 0, b, xs => by simp [bld, rbld, sameLs]
  | k + 1, b, [] => by simp [bld, rbld, sameLs]
  | k + 1, b, x :: xs => by
    have h1 := same_rbld p k (b + 1) (xs.take (deepN b xs))
    simp only [bld, rbld, sameLs]
    rw [same_rbld p k b (xs.drop (deepN b xs)), Bool.and_true, sameL_eq]
    have e1 : ∀ l ks, (setK l ks).toks = l.toks ∧ (setK l ks).head = l.head ∧ (setK l ks).pos = l.pos ∧ (setK l ks).kids = ks := fun l ks => ⟨rfl, rfl, rfl, rfl⟩
    have e2 : ∀ l ks, (setR l ks).toks = l.toks ∧ (setR l ks).head = l.head ∧ (setR l ks).pos = l.pos ∧ (setR l ks).kids = ks := fun l ks => ⟨rfl, rfl, rfl, rfl⟩
    rw [(e1 _ _).1, (e1 _ _).2.1, (e1 _ _).2.2.1, (e1 _ _).2.2.2, (e2 _ _).1, (e2 _ _).2.1, (e2 _ _).2.2.1, (e2 _ _).2.2.2, h1, sameTs_refl]
    simp
theorem sl2_lines (ls : List Line) (o : Own) (i e : Nat) (h1 : i ≤ e) (h2 : e ≤ ls.length) : ∃ o2, sliceA 4 (.slice (encLs ls) ls.length o) (some (.int .i64 (i : Int))) (some (.int .i64 (e : Int))) none = some (.slice (encLs ((ls.drop i).take (e - i))) (e - i) o2) := by
  have hb : bounds ls.length (some (.int .i64 (i : Int))) (some (.int .i64 (e : Int))) = some (i, e) := by
    simp only [bounds]
    rw [if_pos (by omega), if_pos (by omega)]
    simp
  refine ⟨if e = ls.length ∧ i < ls.length then o else .no, ?_⟩
  simp only [sliceA]
  rw [if_pos (by rw [encLs_length]), hb]
  simp only [Option.bind_some, encLs_drop, encLs_take]
theorem sl2_ints (ls : List Int) (o : Own) (i e : Nat) (h1 : i ≤ e) (h2 : e ≤ ls.length) : ∃ o2, sliceA 1 (.slice (encI ls) ls.length o) (some (.int .i64 (i : Int))) (some (.int .i64 (e : Int))) none = some (.slice (encI ((ls.drop i).take (e - i))) (e - i) o2) := by
  have hb : bounds ls.length (some (.int .i64 (i : Int))) (some (.int .i64 (e : Int))) = some (i, e) := by
    simp only [bounds]
    rw [if_pos (by omega), if_pos (by omega)]
    simp
  refine ⟨if e = ls.length ∧ i < ls.length then o else .no, ?_⟩
  simp only [sliceA]
  rw [if_pos (by rw [encI_length]; omega), hb]
  simp only [Option.bind_some, Nat.mul_one]
  unfold encI
  rw [List.map_take, List.map_drop]
theorem l21a (xs : List (Line × Int)) (hl : xs.length ≤ 1000000) (o1 o2 : Own) (b : Int) (x7 x8 : AV) (st : St) (Q : Sig → FE → St → Prop) : ∀ (n j : Nat) (e : FE), j + n = xs.length → e 0 = .slice (encLs (xs.map Prod.fst)) xs.length o1 → e 1 = .slice (encI (xs.map Prod.snd)) xs.length o2 → e 2 = .int .i64 b → e 7 = x7 → e 8 = x8 → e 9 = .int .i64 (j : Int) →
    (∀ e', e' 0 = .slice (encLs (xs.map Prod.fst)) xs.length o1 → e' 1 = .slice (encI (xs.map Prod.snd)) xs.length o2 → e' 2 = .int .i64 b → e' 7 = x7 → e' 8 = x8 → e' 9 = .int .i64 ((j + deepN b (xs.drop j) : Nat) : Int) → Q (.exit 2) e' st) → WLoop cx ir21L0 e st Q
  | 0, j, e, hj, h0, h1, h2, h7, h8, h9, hQ => by
    refine WLoop.rnd (c := _) ir21L0.eq_1 ?_
    have hd : decide ((j : Int) < (xs.length : Int)) = false := decide_eq_false (by omega)
    rw [List.drop_eq_nil_of_le (by omega)] at hQ
    simp (config := {contextual := true, implicitDefEqProofs := false, maxSteps := 4000000}) only [go_sem, ↓reduceIte, Bool.false_eq_true, Nat.reduceEqDiff, Nat.reduceAdd, Int.reduceLE, Int.reduceLT, Int.reduceEq, Int.reduceToNat, Int.toNat_natCast, Int.cast_ofNat_Int, Int.natCast_one, Nat.reduceMod, Nat.reduceDiv, UInt8.reduceToNat, Nat.reduceLT, h0, h9, hd]
    exact hQ _ h0 h1 h2 h7 h8 h9
  | n + 1, j, e, hj, h0, h1, h2, h7, h8, h9, hQ => by
    refine WLoop.rnd (c := _) ir21L0.eq_1 ?_
    have hlt : j < xs.length := by omega
    have hd : decide ((j : Int) < (xs.length : Int)) = true := decide_eq_true (by omega)
    have hw := wrap_one (i := j) (by omega)
    have b1 : (0 : Int) ≤ (j : Int) ∧ (j : Int) < (xs.length : Int) := by omega
    have s1 : sub (encI (xs.map Prod.snd)) j 1 = some [.int .i64 xs[j].2] := by
      have := sub_int (l := xs.map Prod.snd) (i := j) (by simpa using hlt)
      simpa using this
    rw [List.drop_eq_getElem_cons hlt] at hQ
    simp only [deepN] at hQ
    obtain ⟨x, hx⟩ : ∃ x, xs[j] = x := ⟨_, rfl⟩
    rw [hx] at s1 hQ
    by_cases hc : b < x.2
    · have d1 : decide (b < x.2) = true := decide_eq_true hc
      rw [if_pos hc] at hQ
      simp (config := {contextual := true, implicitDefEqProofs := false, maxSteps := 4000000}) only [go_sem, ↓reduceIte, Bool.false_eq_true, Nat.reduceEqDiff, Nat.reduceAdd, Int.reduceLE, Int.reduceLT, Int.reduceEq, Int.reduceToNat, Int.toNat_natCast, Int.cast_ofNat_Int, Int.natCast_one, Nat.reduceMod, Nat.reduceDiv, UInt8.reduceToNat, Nat.reduceLT, h0, h1, h2, h9, hd, b1, Nat_mul_one, s1, d1, hw]
      refine l21a xs hl o1 o2 b x7 x8 st Q n (j + 1) _ (by omega) h0 h1 h2 h7 h8 rfl ?_
      intro e' a0 a1 a2 a7 a8 a9
      exact hQ e' a0 a1 a2 a7 a8 (by rw [a9]; congr 1; omega)
    · have d1 : decide (b < x.2) = false := decide_eq_false hc
      rw [if_neg hc, Nat.add_zero] at hQ
      simp (config := {contextual := true, implicitDefEqProofs := false, maxSteps := 4000000}) only [go_sem, ↓reduceIte, Bool.false_eq_true, Nat.reduceEqDiff, Nat.reduceAdd, Int.reduceLE, Int.reduceLT, Int.reduceEq, Int.reduceToNat, Int.toNat_natCast, Int.cast_ofNat_Int, Int.natCast_one, Nat.reduceMod, Nat.reduceDiv, UInt8.reduceToNat, Nat.reduceLT, h0, h1, h2, h9, hd, b1, Nat_mul_one, s1, d1]
      exact hQ _ h0 h1 h2 h7 h8 h9
/-- What build answers. -/
def rbV (b : Int) (xs : List (Line × Int)) : AV := slt (false, (rbld xs.length b xs).isEmpty) (rbld xs.length b xs).length (encLs (rbld xs.length b xs))
def rbSpec (xs : List (Line × Int)) : Prop := ∀ (o1 o2 : Own) (b : Int) (s : St) (K : AV → St → Prop), 0 ≤ b → b + xs.length ≤ 1000000 → CallW cx 21 [.slice (encLs (xs.map Prod.fst)) xs.length o1, .slice (encI (xs.map Prod.snd)) xs.length o2, .int .i64 b] s K = K (rbV b xs) s
theorem l21b (xs : List (Line × Int)) (o1 o2 : Own) (b : Int) (hb : 0 ≤ b) (hbl : b + xs.length ≤ 1000000) (hc : ∀ ys : List (Line × Int), ys.length < xs.length → rbSpec ys) (L : Nat) (T : List Line) (Q : Sig → FE → St → Prop) : ∀ (n i : Nat) (e : FE) (st : St) (v : AV) (os : List Line), xs.length - i < n → i ≤ xs.length → os.length ≤ i → T = os ++ rbld xs.length b (xs.drop i) → G2 40 4 0 0 L st v .nilslice (encLs os) os.length [] 0 → (os ≠ [] → ∃ t, tokOf v = some t) → (os = [] → v = .slice [] 0 .full) →
    e 0 = .slice (encLs (xs.map Prod.fst)) xs.length o1 → e 1 = .slice (encI (xs.map Prod.snd)) xs.length o2 → e 2 = .int .i64 b → e 7 = v → e 8 = .int .i64 (i : Int) →
    (∀ e' st' v', G2 40 4 0 0 L st' v' .nilslice (encLs T) T.length [] 0 → (T ≠ [] → ∃ t, tokOf v' = some t) → (T = [] → v' = .slice [] 0 .full) → e' 7 = v' → Q (.exit 0) e' st') → WLoop cx ir21L1 e st Q
  | 0, i, e, st, v, os, hn, _, _, _, _, _, _, _, _, _, _, _, _ => by omega
  | n + 1, i, e, st, v, os, hn, hi, hoi, hT, hG, hsh, hsf, h0, h1, h2, h7, h8, hQ => by
    refine WLoop.rnd (c := _) ir21L1.eq_1 ?_
    by_cases hd : i < xs.length
    case neg =>
      have d1 : decide ((i : Int) < (xs.length : Int)) = false := decide_eq_false (by omega)
      have hT2 : T = os := by
        rw [hT, List.drop_eq_nil_of_le (by omega)]
        cases xs.length <;> simp [rbld]
      subst hT2
      simp (config := {contextual := true, implicitDefEqProofs := false, maxSteps := 4000000}) only [go_sem, ↓reduceIte, Bool.false_eq_true, Nat.reduceEqDiff, Nat.reduceAdd, Int.reduceLE, Int.reduceLT, Int.reduceEq, Int.reduceToNat, Int.toNat_natCast, Int.cast_ofNat_Int, Int.natCast_one, Nat.reduceMod, Nat.reduceDiv, UInt8.reduceToNat, Nat.reduceLT, h0, h8, d1]
      exact hQ _ st v hG hsh hsf h7
    have d1 : decide ((i : Int) < (xs.length : Int)) = true := decide_eq_true (by omega)
    have b1 : (0 : Int) ≤ (i : Int) ∧ (i : Int) < (xs.length : Int) := by omega
    have w1 := wrap_one (i := i) (by omega)
    have s1 : sub (encLs (xs.map Prod.fst)) (i * 4) 4 = some [slt xs[i].1.tn xs[i].1.toks.length (encTs xs[i].1.toks), .bool xs[i].1.head, slt xs[i].1.kn xs[i].1.kids.length (encLs xs[i].1.kids), .int .i64 xs[i].1.pos] := by
      have := sub_line (ls := xs.map Prod.fst) (i := i) (by simpa using hd)
      simpa using this
    obtain ⟨x, hx⟩ : ∃ x, xs[i] = x := ⟨_, rfl⟩
    rw [hx] at s1
    have hdr : xs.drop i = x :: xs.drop (i + 1) := by rw [List.drop_eq_getElem_cons hd, hx]
    simp (config := {contextual := true, implicitDefEqProofs := false, maxSteps := 4000000}) only [go_sem, ↓reduceIte, Bool.false_eq_true, Nat.reduceEqDiff, Nat.reduceAdd, Int.reduceLE, Int.reduceLT, Int.reduceEq, Int.reduceToNat, Int.toNat_natCast, Int.cast_ofNat_Int, Int.natCast_one, Nat.reduceMod, Nat.reduceDiv, UInt8.reduceToNat, Nat.reduceLT, h0, h8, d1, w1]
    refine l21a xs (by omega) o1 o2 b _ _ _ _ (xs.length - (i + 1)) (i + 1) _ (by omega) h0 h1 h2 h7 h8 rfl ?_
    intro e1 h0 h1 h2 h7 h8 h10
    obtain ⟨m, hm⟩ : ∃ m, xs.length = m + 1 := ⟨xs.length - 1, by omega⟩
    have hdl := deepN_le b (xs.drop (i + 1))
    rw [List.length_drop] at hdl
    obtain ⟨d, hdd⟩ : ∃ d, deepN b (xs.drop (i + 1)) = d := ⟨_, rfl⟩
    rw [hdd] at h10 hdl
    have hkl : ((xs.drop (i + 1)).take d).length = d := by rw [List.length_take, List.length_drop]; omega
    have hT3 : T = (os ++ [setR x.1 (rbld ((xs.drop (i + 1)).take d).length (b + 1) ((xs.drop (i + 1)).take d))]) ++ rbld xs.length b (xs.drop (i + 1 + d)) := by
      rw [hT, hdr, hm]
      simp only [rbld]
      rw [hdd, rbld_fuel m ((xs.drop (i + 1)).take d).length (b + 1) _ (by rw [hkl]; omega) (Nat.le_refl _), List.drop_drop, rbld_fuel m (m + 1) b _ (by rw [List.length_drop]; omega) (by rw [List.length_drop]; omega)]
      simp
    obtain ⟨oA, sA⟩ := sl2_lines (xs.map Prod.fst) o1 (i + 1) (i + 1 + d) (by omega) (by rw [List.length_map]; omega)
    obtain ⟨oB, sB⟩ := sl2_ints (xs.map Prod.snd) o2 (i + 1) (i + 1 + d) (by omega) (by rw [List.length_map]; omega)
    rw [List.length_map, show i + 1 + d - (i + 1) = d by omega] at sA sB
    rw [← List.map_drop, ← List.map_take] at sA sB
    have kb := fun o1 o2 st K => hc ((xs.drop (i + 1)).take d) (by rw [hkl]; omega) o1 o2 (b + 1) st K (by omega) (by rw [hkl]; omega)
    rw [hkl] at kb
    unfold rbV at kb
    rw [hkl] at kb hT3
    obtain ⟨q, hq⟩ : ∃ q, i + 1 + d = q := ⟨_, rfl⟩
    rw [hq] at h10 sA sB hT3
    have w2 : IntKind.i64.wrap (b + 1) = b + 1 := wrap_i64 (by omega) (by omega)
    generalize rbld d (b + 1) ((xs.drop (i + 1)).take d) = ks at *
    generalize (xs.drop (i + 1)).take d = ys at *
    have hlown := hG.lown
    have hlow := hG.low
    have hnn : ¬ st.next + 1 = st.next := by omega
    have hmin : min (min st.low st.next) st.next = st.low := by omega
    have hmin2 : min st.low st.next = st.low := by omega
    obtain ⟨v', st', ap, G', lw, _, ps, tk, nx⟩ := (hG.alloc (.cells (some 40) (encL (setR x.1 ks)))).app1 (bytes := 64) (k := 1) (y := .slice (encL (setR x.1 ks)) 1 .full) (new := encL (setR x.1 ks)) (by simp [cellsOf, encL_length]) rfl (encL_one _) (by rw [encL_length]) (Nat.le_trans (show (os.length + 1) * 64 ≤ 100000000 by omega) (by decide))
    have hst : (encL (setR x.1 ks)).map AV.strip = encL (setR x.1 ks) := encL_strip _
    rw [hst, show encLs os ++ encL (setR x.1 ks) = encLs (os ++ [setR x.1 ks]) by rw [encLs_append]; simp [encLs]] at G'
    have hl1 : (os ++ [setR x.1 ks]).length = os.length + 1 := by simp
    rw [← hl1] at G'
    rw [encL_setR] at ap
    simp (config := {contextual := true, implicitDefEqProofs := false, maxSteps := 4000000}) only [go_sem, ↓reduceIte, Bool.false_eq_true, Nat.reduceEqDiff, Nat.reduceAdd, Int.reduceLE, Int.reduceLT, Int.reduceEq, Int.reduceToNat, Int.toNat_natCast, Int.cast_ofNat_Int, Int.natCast_one, Nat.reduceMod, Nat.reduceDiv, UInt8.reduceToNat, Nat.reduceLT, h0, h1, h2, h7, h8, h10, b1, s1, sA, sB, kb, w1, w2, hmin, hmin2, ap]
    exact l21b xs o1 o2 b hb hbl hc L T Q n q _ st' v' (os ++ [setR x.1 ks]) (by omega) (by omega) (by rw [hl1]; omega) hT3 G' (fun _ => tk (by decide)) (fun h => by simp at h) h0 h1 h2 rfl rfl hQ
theorem c21 : ∀ (N : Nat) (xs : List (Line × Int)), xs.length ≤ N → rbSpec xs
  | N, xs, hN => by
    intro o1 o2 b s K hb hbl
    have hc : ∀ ys : List (Line × Int), ys.length < xs.length → rbSpec ys := fun ys h => by
      match N, hN with
      | 0, hN => omega
      | N + 1, hN => exact c21 N ys (by omega)
    refine CallW.eq (CallW.fn' (fn := ir21) rfl rfl (by kernel_rfl) ir21.eq_1 ?_) K
    simp (config := {contextual := true, implicitDefEqProofs := false, maxSteps := 4000000}) only [go_sem, ↓reduceIte, Bool.false_eq_true, Nat.reduceEqDiff, Nat.reduceAdd, Int.reduceLE, Int.reduceLT, Int.reduceEq, Int.reduceToNat, Int.toNat_natCast, Int.cast_ofNat_Int, Int.natCast_one, Nat.reduceMod, Nat.reduceDiv, UInt8.reduceToNat, Nat.reduceLT]
    refine l21b xs o1 o2 b hb hbl hc s.next (rbld xs.length b xs) _ (xs.length + 1) 0 _ { heap := s.heap, next := s.next, low := s.next } (.slice [] 0 .full) [] (by omega) (Nat.zero_le _) (Nat.le_refl _) rfl ⟨Gr.full rfl, Gr.nil, fun t h => (by cases h), fun t h => (by cases h), fun t h => (by cases h), Nat.le_refl _, Nat.le_refl _⟩ (fun h => absurd rfl h) (fun _ => rfl) rfl rfl rfl rfl rfl ?_
    intro e' st' v' hG hsh hsf h7
    unfold rbV
    generalize rbld xs.length b xs = T at *
    by_cases hT : T = []
    · have hv := hsf hT
      subst hT
      subst hv
      simp (config := {contextual := true, implicitDefEqProofs := false, maxSteps := 4000000}) only [go_sem, ↓reduceIte, Bool.false_eq_true, Nat.reduceEqDiff, Nat.reduceAdd, Int.reduceLE, Int.reduceLT, Int.reduceEq, Int.reduceToNat, Int.toNat_natCast, Int.cast_ofNat_Int, Int.natCast_one, Nat.reduceMod, Nat.reduceDiv, UInt8.reduceToNat, Nat.reduceLT, h7]
      rw [LeaveW_slice (Or.inr rfl) rfl hG.low]
      exact ⟨rfl, rfl⟩
    · obtain ⟨t, ht⟩ := hsh hT
      have hvs := tok_shape hG.a ht
      have hz : slt (false, T.isEmpty) T.length (encLs T) = .slice (encLs T) T.length .no := by
        have : T.isEmpty = false := by cases T with
          | nil => exact absurd rfl hT
          | cons _ _ => rfl
        rw [this]; rfl
      have hlv : ∀ K : AV → St → Prop, LeaveW s st' v' K = K (.slice (encLs T) T.length .no) s := by
        intro K
        rw [LeaveW_free (hG.a.free hG.la (encLs_al _)) hG.low (fun vs h => by rw [hvs] at h; cases h), hvs]
        rfl
      rw [hz]
      simp (config := {contextual := true, implicitDefEqProofs := false, maxSteps := 4000000}) only [go_sem, ↓reduceIte, Bool.false_eq_true, Nat.reduceEqDiff, Nat.reduceAdd, Int.reduceLE, Int.reduceLT, Int.reduceEq, Int.reduceToNat, Int.toNat_natCast, Int.cast_ofNat_Int, Int.natCast_one, Nat.reduceMod, Nat.reduceDiv, UInt8.reduceToNat, Nat.reduceLT, h7, hlv]
end T18
