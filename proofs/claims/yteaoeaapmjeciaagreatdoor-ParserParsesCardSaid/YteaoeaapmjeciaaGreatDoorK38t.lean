/- Parts of the proof, one behind the other. -/
import Derived.Test.YteaoeaapmjeciaaGreatDoorK38r
import Derived.Test.YteaoeaapmjeciaaGreatDoorK38a
import Derived.Test.YteaoeaapmjeciaaGreatDoorFwX
import Derived.Test.YteaoeaapmjeciaaGreatDoorK38h
import Derived.Test.YteaoeaapmjeciaaGreatDoorFwG
import Derived.Test.YteaoeaapmjeciaaGreatDoorK38p
set_option linter.unusedSimpArgs false
set_option linter.unusedVariables false

/- The reference's scan of a line: its loop. -/
namespace T18
open Go Fw Go.Proofs
set_option maxRecDepth 100000
set_option maxHeartbeats 4000000
set_option linter.unusedSimpArgs false
set_option linter.unusedVariables false
abbrev rctC (n : Int) (v : AV) (h : Bool) (c : List UInt8) : AObj := .cells (some 54) [.int .i64 n, v, .bool h, .str c]
/-- The state of the reference's scan: the results at N and N + 1, what is read at N + 2. -/
structure SR (N : Nat) (n : Int) (v : AV) (ts : List Tok) (c : List UInt8) (st : St) : Prop where
  gr : Gr 52 4 st v (encTs ts) ts.length
  la : Fw.look (N) st.heap = some (rctC 0 .nilslice false [])
  lb : Fw.look (N + 1) st.heap = some (fltC 0 0)
  ld : Fw.look (N + 2) st.heap = some (rctC n v false c)
  tk : ∀ t, tokOf v = some t → N + 2 < t
  sh : if ts = [] then v = .slice [] 0 .full else ∃ t, tokOf v = some t
  lw : N ≤ st.low
  nx : N + 2 < st.next
/-- A token more. -/
theorem SR.app {N : Nat} {n : Int} {v : AV} {ts : List Tok} {c : List UInt8} {st : St} (h : SR N n v ts c st) (t : Tok) (hl : ts.length < 64) (lo : Nat) (hlo : N ≤ lo) (hlo2 : lo ≤ st.next + 1) :
    ∃ v' st', appendA { heap := (st.next, .cells (some 52) [.int .i64 t.k, .str t.t, .int .i64 t.n, .int .i64 t.p]) :: st.heap, next := st.next + 1, low := lo } 52 4 40 v (.slice [.int .i64 t.k, .str t.t, .int .i64 t.n, .int .i64 t.p] 1 .full) = some (v', st') ∧
      Fw.look (N + 2) st'.heap = some (rctC n v false c) ∧ SR N n v' (ts ++ [t]) c { heap := put (N + 2) (rctC n v' false c) st'.heap, next := st'.next, low := min st'.low (N + 2) } := by
  have hnx := h.nx
  have hk1 : Keeps (fun i => i < st.next) st { heap := (st.next, .cells (some 52) [.int .i64 t.k, .str t.t, .int .i64 t.n, .int .i64 t.p]) :: st.heap, next := st.next + 1, low := lo } := by
    refine ⟨by simp, fun i hi _ => ?_⟩
    simp only [Fw.look]
    rw [if_neg (by omega)]
  have g1 := h.gr.keep (st' := { heap := (st.next, .cells (some 52) [.int .i64 t.k, .str t.t, .int .i64 t.n, .int .i64 t.p]) :: st.heap, next := st.next + 1, low := lo }) ⟨hk1.1, fun i hi _ => hk1.2 i hi hi⟩
  obtain ⟨v', st', ap, G', hk, tk', lw', _, _⟩ := g1.app (bytes := 40) (y := .slice [.int .i64 t.k, .str t.t, .int .i64 t.n, .int .i64 t.p] 1 .full) (new := encT t) (m := 1) (oneT _ t) rfl rfl rfl (Nat.le_trans (show (ts.length + 1) * 40 ≤ 2600 by omega) (by decide))
  have hs : (encT t).map AV.strip = encT t := rfl
  rw [hs, show encTs ts ++ encT t = encTs (ts ++ [t]) by rw [encTs_append]; simp [encTs]] at G'
  have hlen : (ts ++ [t]).length = ts.length + 1 := by simp
  have old : ∀ i, i < N + 3 → Fw.look i st'.heap = Fw.look i st.heap := by
    intro i hi
    rw [hk.2 i (by simp only; omega) (fun e => by have := h.tk i e; omega)]
    exact hk1.2 i (by omega) (by omega)
  have hnx' : st.next + 1 ≤ st'.next := hk.1
  refine ⟨v', st', ap, by rw [old _ (by omega)]; exact h.ld, ?_⟩
  have tk2 : ∀ u, tokOf v' = some u → N + 2 < u := by
    intro u hu
    rcases tk' u hu with h1 | h1
    · exact h.tk u h1
    · simp only at h1; omega
  have hld : Fw.look (N + 2) st'.heap = some (rctC n v false c) := by rw [old _ (by omega)]; exact h.ld
  have shp : ∃ u, tokOf v' = some u := by
    have hG : G2 52 4 52 4 0 { heap := (st.next, .cells (some 52) [.int .i64 t.k, .str t.t, .int .i64 t.n, .int .i64 t.p]) :: st.heap, next := st.next + 1, low := lo } v .nilslice (encTs ts) ts.length [] 0 :=
      ⟨g1, Gr.nil, fun t _ h => (by cases h), fun t h => Nat.zero_le _, fun t h => (by cases h), Nat.zero_le _, hlo2⟩
    obtain ⟨v2, st2, ap2, _, _, _, _, tk3, _⟩ := hG.app1 (bytes := 40) (y := .slice [.int .i64 t.k, .str t.t, .int .i64 t.n, .int .i64 t.p] 1 .full) (new := encT t) (k := 1) (oneT _ t) rfl rfl rfl (Nat.le_trans (show (ts.length + 1) * 40 ≤ 2600 by omega) (by decide))
    rw [ap] at ap2
    obtain ⟨u, hu⟩ := tk3 (by decide)
    cases ap2
    exact ⟨u, hu⟩
  refine ⟨?_, ?_, ?_, look_put_self hld, tk2, (by rw [if_neg (by simp)]; exact shp), ?_, ?_⟩
  · rw [hlen]
    refine G'.keep ⟨Nat.le_refl _, fun i hi hp => ?_⟩
    exact look_put_ne (fun e => by have := tk2 i hp; omega)
  · simp only; rw [look_put_ne (by omega), old _ (by omega)]; exact h.la
  · simp only; rw [look_put_ne (by omega), old _ (by omega)]; exact h.lb
  · have := lw' N hlo (fun u hu => by have := h.tk u hu; omega)
    simp only; omega
  · simp only; omega
/-- A comment. -/
theorem SR.com {N : Nat} {n : Int} {v : AV} {ts : List Tok} {c : List UInt8} {st : St} (h : SR N n v ts c st) (x : List UInt8) :
    SR N n v ts x { heap := put (N + 2) (rctC n v false x) st.heap, next := st.next, low := min st.low (N + 2) } := by
  refine ⟨?_, ?_, ?_, look_put_self h.ld, h.tk, h.sh, ?_, h.nx⟩
  · refine h.gr.keep ⟨Nat.le_refl _, fun i hi hp => ?_⟩
    exact look_put_ne (fun e => by have := h.tk i hp; omega)
  · simp only; rw [look_put_ne (by omega)]; exact h.la
  · simp only; rw [look_put_ne (by omega)]; exact h.lb
  · have := h.lw; simp only; omega
theorem SR.flt {N : Nat} {n : Int} {v : AV} {ts : List Tok} {c : List UInt8} {st : St} (h : SR N n v ts c st) (x : AObj) (hx : x = rctC 0 .nilslice false []) (er k : Int) :
    Fw.look (N) (put (N + 1) (fltC er k) (put (N) x st.heap)) = some (rctC 0 .nilslice false []) ∧ Fw.look (N + 1) (put (N + 1) (fltC er k) (put (N) x st.heap)) = some (fltC er k) ∧ N ≤ min (min st.low (N)) (N + 1) := by
  subst hx
  have := h.lw
  refine ⟨?_, ?_, by omega⟩
  · rw [look_put_ne (by omega)]; exact look_put_self h.la
  · exact look_put_self (by rw [look_put_ne (by omega)]; exact h.lb)
theorem c31 (er k : Int) (s : St) (K : AV → St → Prop) : CallW cx 31 [.int .i64 er, .int .i64 k] s K = K (.tuple [.agg [.int .i64 0, .nilslice, .bool false, .str []], .agg [.int .i64 er, .int .i64 0, .int .i64 k]]) s := by
  refine CallW.eq (CallW.fn' (fn := ir31) rfl rfl (by kernel_rfl) ir31.eq_1 ?_) K
  simp (config := {contextual := true, implicitDefEqProofs := false, maxSteps := 4000000}) only [go_sem, ↓reduceIte, Bool.false_eq_true, Nat.reduceEqDiff, Nat.reduceAdd, Int.reduceLE, Int.reduceLT, Int.reduceEq, Int.reduceToNat, Int.toNat_natCast, Int.cast_ofNat_Int, Int.natCast_one, Nat.reduceMod, Nat.reduceDiv, UInt8.reduceToNat, Nat.reduceLT]
theorem l19a (a : List UInt8) (hl : a.length ≤ 1000) (x2 x3 x4 : AV) (st : St) (Q : Sig → FE → St → Prop) : ∀ (n i : Nat) (e : FE), i + n = a.length → e 0 = .str a → e 2 = x2 → e 3 = x3 → e 4 = x4 → e 5 = .int .i64 (i : Int) →
    (∀ e', e' 0 = .str a → e' 2 = x2 → e' 3 = x3 → e' 4 = x4 → e' 5 = .int .i64 ((blk a i : Nat) : Int) → Q (.exit 0) e' st) → WLoop cx ir19L0 e st Q
  | 0, i, e, hi, h0, h2, h3, h4, h5, hQ => by
    refine WLoop.rnd (c := _) ir19L0.eq_1 ?_
    have hd : decide ((i : Int) < (a.length : Int)) = false := decide_eq_false (by omega)
    have hb : blk a i = i := by unfold blk runB; rw [show a.length - i = 0 by omega]; rfl
    rw [hb] at hQ
    simp (config := {contextual := true, implicitDefEqProofs := false, maxSteps := 4000000}) only [go_sem, ↓reduceIte, Bool.false_eq_true, Nat.reduceEqDiff, Nat.reduceAdd, Int.reduceLE, Int.reduceLT, Int.reduceEq, Int.reduceToNat, Int.toNat_natCast, Int.cast_ofNat_Int, Int.natCast_one, Nat.reduceMod, Nat.reduceDiv, UInt8.reduceToNat, Nat.reduceLT, h0, h5, hd]
    exact hQ _ h0 h2 h3 h4 h5
  | n + 1, i, e, hi, h0, h2, h3, h4, h5, hQ => by
    refine WLoop.rnd (c := _) ir19L0.eq_1 ?_
    have hd : decide ((i : Int) < (a.length : Int)) = true := decide_eq_true (by omega)
    have hw := wrap_one (i := i) (by omega)
    have b1 : (0 : Int) ≤ (i : Int) := by omega
    have b2 : (i : Int) < (a.length : Int) := by omega
    have hb : blk a i = if a.getD i 0 = 32 then blk a (i + 1) else i := by
      unfold blk runB
      rw [show a.length - i = (a.length - (i + 1)) + 1 by omega]
      simp only [runI, decide_eq_true_eq]
    obtain ⟨b, hbb⟩ : ∃ b, a.getD i 0 = b := ⟨_, rfl⟩
    rw [hbb] at hb
    have f1 : decide (((b.toNat : Nat) : Int) = 32) = decide (b = 32) := is_byte 32 b
    by_cases h32 : b = 32
    · rw [decide_eq_true h32] at f1
      rw [if_pos h32] at hb
      rw [hb] at hQ
      simp (config := {contextual := true, implicitDefEqProofs := false, maxSteps := 4000000}) only [go_sem, ↓reduceIte, Bool.false_eq_true, Nat.reduceEqDiff, Nat.reduceAdd, Int.reduceLE, Int.reduceLT, Int.reduceEq, Int.reduceToNat, Int.toNat_natCast, Int.cast_ofNat_Int, Int.natCast_one, Nat.reduceMod, Nat.reduceDiv, UInt8.reduceToNat, Nat.reduceLT, h0, h5, hd, b1, b2, hbb, f1, hw]
      exact l19a a hl x2 x3 x4 st Q n (i + 1) _ (by omega) h0 h2 h3 h4 rfl hQ
    · rw [decide_eq_false h32] at f1
      rw [if_neg h32] at hb
      rw [hb] at hQ
      simp (config := {contextual := true, implicitDefEqProofs := false, maxSteps := 4000000}) only [go_sem, ↓reduceIte, Bool.false_eq_true, Nat.reduceEqDiff, Nat.reduceAdd, Int.reduceLE, Int.reduceLT, Int.reduceEq, Int.reduceToNat, Int.toNat_natCast, Int.cast_ofNat_Int, Int.natCast_one, Nat.reduceMod, Nat.reduceDiv, UInt8.reduceToNat, Nat.reduceLT, h0, h5, hd, b1, b2, hbb, f1]
      exact hQ _ h0 h2 h3 h4 h5
theorem blk_step (a : List UInt8) (i : Nat) (hi : i < a.length) : blk a i = if a.getD i 0 = 32 then blk a (i + 1) else i := by
  unfold blk runB
  rw [show a.length - i = (a.length - (i + 1)) + 1 by omega]
  simp only [runI, decide_eq_true_eq]
theorem blk_all (a : List UInt8) (i : Nat) (hi : a.length ≤ i) : blk a i = i := by unfold blk runB; rw [show a.length - i = 0 by omega]; rfl
theorem l19b (a : List UInt8) (hl : a.length ≤ 1000) (N : Nat) (m : Int) (Q : Sig → FE → St → Prop) : ∀ (k n i : Nat) (e : FE) (st : St) (v : AV) (ts : List Tok), a.length - i < k → a.length - i < n → i ≤ a.length → ts.length ≤ 64 → SR N m v ts [] st →
    e 0 = .str a → e 2 = .ptr N 0 → e 3 = .ptr (N + 1) 0 → e 4 = .ptr (N + 2) 0 → e 5 = .int .i64 (i : Int) →
    (∀ us c, scanL a n (blk a i) ts = .inl (us, c) → ∀ e' st' v', us.length ≤ 64 → SR N m v' us c st' → e' 2 = .ptr N 0 → e' 3 = .ptr (N + 1) 0 → e' 4 = .ptr (N + 2) 0 → Q (.exit 2) e' st') →
    (∀ er j, scanL a n (blk a i) ts = .inr (er, j) → ∀ e' st', e' 2 = .ptr N 0 → e' 3 = .ptr (N + 1) 0 → Fw.look N st'.heap = some (rctC 0 .nilslice false []) → Fw.look (N + 1) st'.heap = some (fltC er ((j + 1 : Nat) : Int)) → N ≤ st'.low → Q .ret e' st') → WLoop cx ir19L1 e st Q
  | 0, n, i, e, st, v, ts, hk, _, _, _, _, _, _, _, _, _, _, _ => by omega
  | k + 1, n, i, e, st, v, ts, hk, hn, hi, h64, hS, h0, h2, h3, h4, h5, hA, hB => by
    refine WLoop.rnd (c := _) ir19L1.eq_1 ?_
    have la := hS.la
    have lb := hS.lb
    have ld := hS.ld
    obtain ⟨n', hn'⟩ : ∃ n', n = n' + 1 := ⟨n - 1, by omega⟩
    by_cases hd : a.length ≤ i
    · have d1 : decide ((i : Int) < (a.length : Int)) = false := decide_eq_false (by omega)
      rw [blk_all a i hd, hn'] at hA
      simp only [scanL] at hA
      rw [if_pos hd] at hA
      simp (config := {contextual := true, implicitDefEqProofs := false, maxSteps := 4000000}) only [go_sem, ↓reduceIte, Bool.false_eq_true, Nat.reduceEqDiff, Nat.reduceAdd, Int.reduceLE, Int.reduceLT, Int.reduceEq, Int.reduceToNat, Int.toNat_natCast, Int.cast_ofNat_Int, Int.natCast_one, Nat.reduceMod, Nat.reduceDiv, UInt8.reduceToNat, Nat.reduceLT, h0, h5, d1]
      exact hA ts [] rfl _ _ v h64 hS h2 h3 h4
    have d1 : decide ((i : Int) < (a.length : Int)) = true := decide_eq_true (by omega)
    have b1 : (0 : Int) ≤ (i : Int) := by omega
    have b2 : (i : Int) < (a.length : Int) := by omega
    have w1 := wrap_one (i := i) (by omega)
    have hbs := blk_step a i (by omega)
    obtain ⟨b, hb⟩ : ∃ b, a.getD i 0 = b := ⟨_, rfl⟩
    rw [hb] at hbs
    have f0 : decide (((b.toNat : Nat) : Int) = 32) = decide (b = 32) := is_byte 32 b
    have f1 : decide (((b.toNat : Nat) : Int) = 35) = decide (b = 35) := is_byte 35 b
    by_cases h32 : b = 32
    · rw [decide_eq_true h32] at f0
      rw [if_pos h32] at hbs
      rw [hbs] at hA hB
      simp (config := {contextual := true, implicitDefEqProofs := false, maxSteps := 4000000}) only [go_sem, ↓reduceIte, Bool.false_eq_true, Nat.reduceEqDiff, Nat.reduceAdd, Int.reduceLE, Int.reduceLT, Int.reduceEq, Int.reduceToNat, Int.toNat_natCast, Int.cast_ofNat_Int, Int.natCast_one, Nat.reduceMod, Nat.reduceDiv, UInt8.reduceToNat, Nat.reduceLT, h0, h5, d1, b1, b2, hb, f0, w1]
      exact l19b a hl N m Q k n (i + 1) _ st v ts (by omega) (by omega) (by omega) h64 hS h0 h2 h3 h4 rfl hA hB
    rw [decide_eq_false h32] at f0
    rw [if_neg h32] at hbs
    rw [hbs, hn'] at hA hB
    simp only [scanL] at hA hB
    rw [if_neg hd, hb] at hA hB
    by_cases hc : b = 35
    · rw [decide_eq_true hc] at f1
      rw [if_pos hc] at hA
      have g1 : (0 : Int) ≤ ((i + 1 : Nat) : Int) ∧ ((i + 1 : Nat) : Int) ≤ (a.length : Int) := by omega
      simp (config := {contextual := true, implicitDefEqProofs := false, maxSteps := 4000000}) only [go_sem, ↓reduceIte, Bool.false_eq_true, Nat.reduceEqDiff, Nat.reduceAdd, Int.reduceLE, Int.reduceLT, Int.reduceEq, Int.reduceToNat, Int.toNat_natCast, Int.cast_ofNat_Int, Int.natCast_one, Nat.reduceMod, Nat.reduceDiv, UInt8.reduceToNat, Nat.reduceLT, h0, h4, h5, d1, b1, b2, hb, f0, f1, w1, g1, ld]
      exact hA ts _ rfl _ _ v h64 (hS.com _) h2 h3 h4
    rw [decide_eq_false hc] at f1
    rw [if_neg hc] at hA hB
    have hv := hS.gr.lenv
    have nab : ¬ N = N + 1 := by omega
    have nba : ¬ N + 1 = N := by omega
    have kf := fun (er k : Int) st K => c31 er k st K
    by_cases h6t : ts.length = 64
    · rw [if_pos h6t] at hB
      have d2 : decide ((64 : Int) ≤ (ts.length : Int)) = true := decide_eq_true (by omega)
      obtain ⟨q1, q2, q3⟩ := hS.flt _ rfl 7 ((i + 1 : Nat) : Int)
      simp (config := {contextual := true, implicitDefEqProofs := false, maxSteps := 4000000}) only [go_sem, ↓reduceIte, Bool.false_eq_true, Nat.reduceEqDiff, Nat.reduceAdd, Int.reduceLE, Int.reduceLT, Int.reduceEq, Int.reduceToNat, Int.toNat_natCast, Int.cast_ofNat_Int, Int.natCast_one, Nat.reduceMod, Nat.reduceDiv, UInt8.reduceToNat, Nat.reduceLT, h0, h2, h3, h4, h5, d1, b1, b2, hb, f0, f1, ld, hv, d2, kf, w1, la, lb, look_put_ne nab, look_put_ne nba]
      exact hB 7 i rfl _ _ h2 h3 q1 q2 q3
    rw [if_neg h6t] at hA hB
    have d2 : decide ((64 : Int) ≤ (ts.length : Int)) = false := decide_eq_false (by omega)
    have kx := fun st K => c32 a (by omega) i (by omega) st K
    have hend := nextB_end a i (by omega)
    generalize nextB a i = x at *
    obtain ⟨⟨x1, x2, x3, x4⟩, x5, x6⟩ := x
    simp only [nxo] at kx hA hB hend
    have hlt := hS.nx
    have n0 : ¬ st.next = N := by omega
    have n1 : ¬ st.next = N + 1 := by omega
    have n2 : ¬ st.next = N + 2 := by omega
    by_cases her : x6 = 0
    case neg =>
      have d3 : decide (x6 ≠ 0) = true := decide_eq_true her
      rw [if_pos her] at hB
      obtain ⟨q1, q2, q3⟩ := hS.flt _ rfl x6 ((i + 1 : Nat) : Int)
      simp (config := {contextual := true, implicitDefEqProofs := false, maxSteps := 4000000}) only [go_sem, ↓reduceIte, Bool.false_eq_true, Nat.reduceEqDiff, Nat.reduceAdd, Int.reduceLE, Int.reduceLT, Int.reduceEq, Int.reduceToNat, Int.toNat_natCast, Int.cast_ofNat_Int, Int.natCast_one, Nat.reduceMod, Nat.reduceDiv, UInt8.reduceToNat, Nat.reduceLT, h0, h2, h3, h4, h5, d1, b1, b2, hb, f0, f1, ld, hv, d2, kx, d3, n0, n1, n2, kf, w1, la, lb, look_put_ne nab, look_put_ne nba]
      refine hB x6 i rfl _ _ h2 h3 ?_ ?_ (by have := hS.lw; simp only; omega)
      · simp only [Fw.look]; rw [if_neg n0]; exact q1
      · simp only [Fw.look]; rw [if_neg n1]; exact q2
    subst her
    rw [if_neg (by decide)] at hA hB
    obtain ⟨he1, he2⟩ := hend rfl
    have d3 : decide ((0 : Int) ≠ 0) = false := rfl
    obtain ⟨v', st', ap, ld', hS'⟩ := hS.app ⟨x1, x2, x3, ((i + 1 : Nat) : Int)⟩ (by omega) (min (min st.low st.next) st.next) (by have := hS.lw; omega) (by omega)
    simp only at ap
    obtain ⟨c1, c2⟩ := gr_cells hS'.gr
    simp (config := {contextual := true, implicitDefEqProofs := false, maxSteps := 4000000}) only [go_sem, ↓reduceIte, Bool.false_eq_true, Nat.reduceEqDiff, Nat.reduceAdd, Int.reduceLE, Int.reduceLT, Int.reduceEq, Int.reduceToNat, Int.toNat_natCast, Int.cast_ofNat_Int, Int.natCast_one, Nat.reduceMod, Nat.reduceDiv, UInt8.reduceToNat, Nat.reduceLT, h0, h2, h3, h4, h5, d1, b1, b2, hb, f0, f1, ld, hv, d2, kx, d3, n0, n1, n2, w1, ap, ld', c1, c2]
    exact l19b a hl N m Q k n' x5 _ _ v' (ts ++ [⟨x1, x2, x3, ((i + 1 : Nat) : Int)⟩]) (by omega) (by omega) he2 (by simp; omega) hS' h0 h2 h3 h4 rfl hA hB
end T18


/- The reference's scan of a line. -/
namespace T18
open Go Fw Go.Proofs
set_option maxRecDepth 100000
set_option maxHeartbeats 4000000
set_option linter.unusedSimpArgs false
set_option linter.unusedVariables false
def irS : ICode := (.seq (.block 2 (.loop ir19L1)) (.seq (.seq (.region [⟨(some 111), (.faddr 1 (.tmp 4)), none⟩, ⟨(some 112), (.load false 1 (.tmp 111)), none⟩, ⟨(some 113), (.lenv (.tmp 112)), none⟩, ⟨(some 9), (.mov (.tmp 113)), none⟩]) (.seq (.region [⟨(some 114), (.mov (.tmp 9)), none⟩, ⟨(some 115), (.bin .gtr (.tmp 114) (.const (.int .i64 0))), none⟩, ⟨(some 116), (.mov (.tmp 115)), none⟩, ⟨(some 117), (.faddr 1 (.tmp 4)), (some (116, true))⟩, ⟨(some 118), (.load false 1 (.tmp 117)), (some (116, true))⟩, ⟨(some 119), (.mov (.tmp 9)), (some (116, true))⟩, ⟨(some 120), (.bin .sub (.tmp 119) (.const (.int .i64 1))), (some (116, true))⟩, ⟨(some 121), (.iaddr 4 none (.tmp 118) (.tmp 120)), (some (116, true))⟩, ⟨(some 122), (.faddr 0 (.tmp 121)), (some (116, true))⟩, ⟨(some 123), (.load false 1 (.tmp 122)), (some (116, true))⟩, ⟨(some 124), (.bin .eql (.tmp 123) (.const (.int .i64 6))), (some (116, true))⟩, ⟨(some 125), (.pick (.tmp 116) (.tmp 124) (.const (.bool false))), none⟩, ⟨(some 126), (.mov (.tmp 125)), none⟩, ⟨(some 127), (.faddr 1 (.tmp 4)), (some (126, true))⟩, ⟨(some 128), (.load false 1 (.tmp 127)), (some (126, true))⟩, ⟨(some 129), (.mov (.tmp 9)), (some (126, true))⟩, ⟨(some 130), (.bin .sub (.tmp 129) (.const (.int .i64 1))), (some (126, true))⟩, ⟨(some 131), (.iaddr 4 none (.tmp 128) (.tmp 130)), (some (126, true))⟩, ⟨(some 132), (.faddr 1 (.tmp 131)), (some (126, true))⟩, ⟨(some 133), (.load false 1 (.tmp 132)), (some (126, true))⟩, ⟨(some 134), (.bin .eql (.tmp 133) (.const (.str [58]))), (some (126, true))⟩, ⟨(some 135), (.pick (.tmp 126) (.tmp 134) (.const (.bool false))), none⟩]) (.cond (.tmp 135) (.seq (.seq (.region [⟨(some 136), (.mov (.tmp 9)), none⟩, ⟨(some 137), (.bin .eql (.tmp 136) (.const (.int .i64 1))), none⟩]) (.cond (.tmp 137) (.seq (.region [⟨(some 138), (.faddr 1 (.tmp 4)), none⟩, ⟨(some 139), (.load false 1 (.tmp 138)), none⟩, ⟨(some 140), (.iaddr 4 none (.tmp 139) (.const (.int .i64 0))), none⟩, ⟨(some 141), (.faddr 3 (.tmp 140)), none⟩, ⟨(some 142), (.load false 1 (.tmp 141)), none⟩, ⟨(some 143), (.call (.const (.func 31 [] [])) [(.const (.int .i64 2)), (.tmp 142)]), none⟩, ⟨(some 144), (.extr (.tmp 143) 0), none⟩, ⟨(some 145), (.extr (.tmp 143) 1), none⟩, ⟨none, (.store 4 (.tmp 2) (.tmp 144)), none⟩, ⟨none, (.store 3 (.tmp 3) (.tmp 145)), none⟩]) .ret) .skip)) (.seq (.region [⟨(some 146), (.faddr 2 (.tmp 4)), none⟩, ⟨none, (.store 1 (.tmp 146) (.const (.bool true))), none⟩]) (.region [⟨(some 147), (.faddr 1 (.tmp 4)), none⟩, ⟨(some 148), (.load false 1 (.tmp 147)), none⟩, ⟨(some 149), (.mov (.tmp 9)), none⟩, ⟨(some 150), (.bin .sub (.tmp 149) (.const (.int .i64 1))), none⟩, ⟨(some 151), (.slc 4 (.tmp 148) none (some (.tmp 150)) none), none⟩, ⟨(some 152), (.faddr 1 (.tmp 4)), none⟩, ⟨none, (.store 1 (.tmp 152) (.tmp 151)), none⟩]))) .skip))) (.seq (.region [⟨(some 153), (.load true 4 (.tmp 4)), none⟩, ⟨(some 154), (.build [(.int .i64 0), (.int .i64 0), (.int .i64 0)] []), none⟩, ⟨none, (.store 4 (.tmp 2) (.tmp 153)), none⟩, ⟨none, (.store 3 (.tmp 3) (.tmp 154)), none⟩]) .ret)))
theorem W_irS {cx : Cx} {e : FE} {s : St} (Q : Sig → FE → St → Prop) : W cx irS e s Q = @WTail cx irS e s ⟨Q⟩ := rfl
theorem irScan_eq : ir19 = ⟨155, [(.cell 2 true 4), (.cell 3 true 3)], (.seq (.region [⟨(some 2), (.alloc 54 [(.int .i64 0), .nilslice, (.bool false), (.str [])]), none⟩, ⟨(some 3), (.alloc 26 [(.int .i64 0), (.int .i64 0), (.int .i64 0)]), none⟩]) (.seq (.seq (.region [⟨(some 10), (.mov (.tmp 0)), none⟩, ⟨(some 11), (.lens (.tmp 10)), none⟩, ⟨(some 12), (.bin .gtr (.tmp 11) (.const (.int .i64 1000))), none⟩]) (.cond (.tmp 12) (.seq (.region [⟨(some 13), (.call (.const (.func 31 [] [])) [(.const (.int .i64 7)), (.const (.int .i64 1001))]), none⟩, ⟨(some 14), (.extr (.tmp 13) 0), none⟩, ⟨(some 15), (.extr (.tmp 13) 1), none⟩, ⟨none, (.store 4 (.tmp 2) (.tmp 14)), none⟩, ⟨none, (.store 3 (.tmp 3) (.tmp 15)), none⟩]) .ret) .skip)) (.seq (.region [⟨(some 16), (.bslice [] 0 []), none⟩, ⟨(some 17), (.build [(.int .i64 0), .nilslice, (.bool false), (.str [])] [(1, (1, (.tmp 16)))]), none⟩, ⟨(some 4), (.alloc 54 [(.int .i64 0), .nilslice, (.bool false), (.str [])]), none⟩, ⟨none, (.store 4 (.tmp 4) (.tmp 17)), none⟩]) (.seq (.region [⟨(some 5), (.mov (.const (.int .i64 0))), none⟩]) (.seq (.block 0 (.loop ir19L0)) (.seq (.seq (.region [⟨(some 30), (.mov (.tmp 5)), none⟩, ⟨(some 31), (.mov (.tmp 0)), none⟩, ⟨(some 32), (.lens (.tmp 31)), none⟩, ⟨(some 33), (.bin .lss (.tmp 30) (.tmp 32)), none⟩, ⟨(some 34), (.mov (.tmp 33)), none⟩, ⟨(some 35), (.mov (.tmp 0)), (some (34, true))⟩, ⟨(some 36), (.mov (.tmp 5)), (some (34, true))⟩, ⟨(some 37), (.idx 1 false none (.tmp 35) (.tmp 36)), (some (34, true))⟩, ⟨(some 38), (.bin .neq (.tmp 37) (.const (.int .u8 35))), (some (34, true))⟩, ⟨(some 39), (.pick (.tmp 34) (.tmp 38) (.const (.bool false))), none⟩]) (.cond (.tmp 39) (.seq (.seq (.region [⟨(some 40), (.mov (.tmp 5)), none⟩, ⟨(some 41), (.bin .rem (.tmp 40) (.const (.int .i64 2))), none⟩, ⟨(some 42), (.bin .eql (.tmp 41) (.const (.int .i64 1))), none⟩]) (.cond (.tmp 42) (.seq (.region [⟨(some 43), (.mov (.tmp 5)), none⟩, ⟨(some 44), (.bin .add (.tmp 43) (.const (.int .i64 1))), none⟩, ⟨(some 45), (.call (.const (.func 31 [] [])) [(.const (.int .i64 2)), (.tmp 44)]), none⟩, ⟨(some 46), (.extr (.tmp 45) 0), none⟩, ⟨(some 47), (.extr (.tmp 45) 1), none⟩, ⟨none, (.store 4 (.tmp 2) (.tmp 46)), none⟩, ⟨none, (.store 3 (.tmp 3) (.tmp 47)), none⟩]) .ret) .skip)) (.seq (.seq (.region [⟨(some 48), (.mov (.tmp 5)), none⟩, ⟨(some 49), (.bin .gtr (.tmp 48) (.const (.int .i64 12))), none⟩]) (.cond (.tmp 49) (.seq (.region [⟨(some 50), (.mov (.tmp 5)), none⟩, ⟨(some 51), (.bin .add (.tmp 50) (.const (.int .i64 1))), none⟩, ⟨(some 52), (.call (.const (.func 31 [] [])) [(.const (.int .i64 7)), (.tmp 51)]), none⟩, ⟨(some 53), (.extr (.tmp 52) 0), none⟩, ⟨(some 54), (.extr (.tmp 52) 1), none⟩, ⟨none, (.store 4 (.tmp 2) (.tmp 53)), none⟩, ⟨none, (.store 3 (.tmp 3) (.tmp 54)), none⟩]) .ret) .skip)) (.region [⟨(some 55), (.mov (.tmp 5)), none⟩, ⟨(some 56), (.bin .quo (.tmp 55) (.const (.int .i64 2))), none⟩, ⟨(some 57), (.faddr 0 (.tmp 4)), none⟩, ⟨none, (.store 1 (.tmp 57) (.tmp 56)), none⟩]))) .skip)) irS))))))⟩ := rfl
theorem scanL_er (a : List UInt8) : ∀ (k i : Nat) (ts : List Tok) (er : Int) (j : Nat), scanL a k i ts = .inr (er, j) → er ≠ 0
  | 0, i, ts, er, j, h => by simp [scanL] at h
  | k + 1, i, ts, er, j, h => by
    simp only [scanL] at h
    split at h
    · cases h
    split at h
    · cases h
    split at h
    · cases h; decide
    split at h
    · rename_i h2
      cases h
      exact h2
    · exact scanL_er a k _ _ er j h
/-- The tokens that the reference hands back. -/
def rsl (ts : List Tok) : AV := .slice (encTs ts) ts.length (if ts = [] then .full else .no)
def resB (a : List UInt8) (n : Int) (i : Nat) : Sc × Int × Int := match scanL a (a.length + 1) (blk a i) [] with
  | .inr (er, j) => (noS, er, ((j + 1 : Nat) : Int))
  | .inl (us, c) => endB n us c
theorem gr_dr2 {N : Nat} {n : Int} {c : List UInt8} {v : AV} {ts : List Tok} {st : St} (h : SR N n v ts c st) : v.dr = rsl ts ∧ v.free0 N = true := by
  refine ⟨?_, h.gr.free0 (fun t ht => by have := h.tk t ht; omega) (encTs_al ts)⟩
  have hsh := h.sh
  unfold rsl
  by_cases h0 : ts = []
  · rw [if_pos h0] at hsh
    rw [hsh, h0]; rfl
  · rw [if_neg h0] at hsh
    obtain ⟨t, ht⟩ := hsh
    rw [tok_shape h.gr ht, if_neg h0]
    rfl
theorem scanTail (a : List UInt8) (hl : a.length ≤ 1000) (N : Nat) (n : Int) (st : St) (e : FE) (i : Nat) (hi : i ≤ a.length) (hS : SR N n (.slice [] 0 .full) [] [] st) (h0 : e 0 = .str a) (h2 : e 2 = .ptr N 0) (h3 : e 3 = .ptr (N + 1) 0) (h4 : e 4 = .ptr (N + 2) 0) (h5 : e 5 = .int .i64 (i : Int)) (Q : Sig → FE → St → Prop)
    (hA : ∀ (e' : FE) (st' : St) (x : Sc) (v : AV), resB a n i = (x, 0, 0) → e' 2 = .ptr N 0 → e' 3 = .ptr (N + 1) 0 → Fw.look N st'.heap = some (rctC x.ind v x.head x.com) → Fw.look (N + 1) st'.heap = some (fltC 0 0) → v.dr = rsl x.ts → v.free0 N = true → N ≤ st'.low → Q .ret e' st')
    (hB : ∀ (e' : FE) (st' : St) (er k : Int), resB a n i = (noS, er, k) → er ≠ 0 → e' 2 = .ptr N 0 → e' 3 = .ptr (N + 1) 0 → Fw.look N st'.heap = some (rctC 0 .nilslice false []) → Fw.look (N + 1) st'.heap = some (fltC er k) → N ≤ st'.low → Q .ret e' st') : W cx irS e st Q := by
  refine W_open irS.eq_1 ?_
  have nab : ¬ N = N + 1 := by omega
  have nba : ¬ N + 1 = N := by omega
  have nad : ¬ N = N + 2 := by omega
  have nbd : ¬ N + 1 = N + 2 := by omega
  simp (config := {contextual := true, implicitDefEqProofs := false, maxSteps := 4000000}) only [go_sem, ↓reduceIte, Bool.false_eq_true, Nat.reduceEqDiff, Nat.reduceAdd, Int.reduceLE, Int.reduceLT, Int.reduceEq, Int.reduceToNat, Int.toNat_natCast, Int.cast_ofNat_Int, Int.natCast_one, Nat.reduceMod, Nat.reduceDiv, UInt8.reduceToNat, Nat.reduceLT]
  refine l19b a hl N n _ (a.length + 1) (a.length + 1) i _ _ (.slice [] 0 .full) [] (by omega) (by omega) hi (by simp) hS h0 h2 h3 h4 h5 ?_ ?_
  · intro us c hus e1 st' v' h64 hS e2 e3 e4
    have la := hS.la
    have lb := hS.lb
    have ld := hS.ld
    have hv := hS.gr.lenv
    have hlw := hS.lw
    obtain ⟨c1, c2⟩ := gr_cells hS.gr
    obtain ⟨dr, fr⟩ := gr_dr2 hS
    have hR : resB a n i = endB n us c := by unfold resB; rw [hus]
    have ldp : ∀ x, Fw.look (N + 2) (put (N + 2) x st'.heap) = some x := fun x => look_put_self ld
    have ldq : ∀ x y, Fw.look (N + 2) (put (N + 2) y (put (N + 2) x st'.heap)) = some y := fun x y => look_put_self (look_put_self ld)
    have lpa : ∀ x, Fw.look N (put N x st'.heap) = some x := fun x => look_put_self la
    have lpb : ∀ x y, Fw.look (N + 1) (put (N + 1) y (put N x st'.heap)) = some y := fun x y => look_put_self (by rw [look_put_ne nba]; exact lb)
    have lpc : ∀ x y, Fw.look N (put (N + 1) y (put N x st'.heap)) = some x := fun x y => by rw [look_put_ne nab]; exact look_put_self la
    have lqa : ∀ z z' x, Fw.look N (put N x (put (N + 2) z (put (N + 2) z' st'.heap))) = some x := fun z z' x => look_put_self (by rw [look_put_ne nad, look_put_ne nad]; exact la)
    have lqb : ∀ z z' x y, Fw.look (N + 1) (put (N + 1) y (put N x (put (N + 2) z (put (N + 2) z' st'.heap)))) = some y := fun z z' x y => look_put_self (by rw [look_put_ne nba, look_put_ne nbd, look_put_ne nbd]; exact lb)
    have lqc : ∀ z z' x y, Fw.look N (put (N + 1) y (put N x (put (N + 2) z (put (N + 2) z' st'.heap)))) = some x := fun z z' x y => by rw [look_put_ne nab]; exact look_put_self (by rw [look_put_ne nad, look_put_ne nad]; exact la)
    have m1 : N ≤ min (min st'.low N) (N + 1) := by omega
    have m2 : N ≤ min (min (min (min st'.low (N + 2)) (N + 2)) N) (N + 1) := by omega
    by_cases h0 : us = []
    · have hn : v' = .slice [] 0 .full := by have := hS.sh; rw [if_pos h0] at this; exact this
      subst h0
      subst hn
      have hR2 : resB a n i = (⟨n, [], false, c⟩, 0, 0) := hR
      simp (config := {contextual := true, implicitDefEqProofs := false, maxSteps := 4000000}) only [go_sem, ↓reduceIte, Bool.false_eq_true, Nat.reduceEqDiff, Nat.reduceAdd, Int.reduceLE, Int.reduceLT, Int.reduceEq, Int.reduceToNat, Int.toNat_natCast, Int.cast_ofNat_Int, Int.natCast_one, Nat.reduceMod, Nat.reduceDiv, UInt8.reduceToNat, Nat.reduceLT, e2, e3, e4, la, lb, ld, look_put_ne nab, look_put_ne nba, lpa, lpb, Int.natCast_zero, show decide ((0 : Int) < 0) = false from rfl]
      exact hA _ _ ⟨n, [], false, c⟩ _ hR2 e2 e3 (lpc _ _) (lpb _ _) dr fr m1
    obtain ⟨l, t, hlt⟩ : ∃ l t, us = l ++ [t] := by
      rcases List.eq_nil_or_concat us with h | ⟨l, t, h⟩
      · exact absurd h h0
      · exact ⟨l, t, by simpa using h⟩
    obtain ⟨u, hu⟩ : ∃ u, tokOf v' = some u := by have := hS.sh; rw [if_neg h0] at this; exact this
    have hvs := tok_shape hS.gr hu
    have hlen : us.length = l.length + 1 := by rw [hlt]; simp
    have ga : us.getLastD noT = t := by rw [hlt]; simp
    have gb : us.dropLast = l := by rw [hlt]; simp
    rw [hlen] at hvs
    have s1 : sub (encTs us) (l.length * 4) 1 = some [.int .i64 t.k] := by
      subst hlt
      have := sub_tk (ts := l ++ [t]) (i := l.length) (by simp)
      simpa using this
    have s2 : sub (encTs us) (l.length * 4 + 1) 1 = some [.str t.t] := by
      subst hlt
      have := sub_tt (ts := l ++ [t]) (i := l.length) (by simp)
      simpa using this
    have hsl : sliceA 4 (.slice (encTs us) (l.length + 1) (.tok u (l.length + 1))) none (some (.int .i64 (l.length : Int))) none = some (.slice (encTs l) l.length .no) := by
      have hb : bounds (l.length + 1) none (some (.int .i64 (l.length : Int))) = some (0, l.length) := by
        simp only [bounds]
        rw [if_pos (by omega)]
        simp
      have h5 : (encTs us).take (l.length * 4) = encTs l := by
        rw [hlt, encTs_append, List.take_left' (encTs_length l)]
      simp only [sliceA]
      rw [if_pos (by rw [encTs_length, hlen]), hb]
      simp only [Option.bind_some, Nat.zero_mul, List.drop_zero, Nat.sub_zero, h5]
      rw [if_neg (by omega)]
    have h3t : l = [] → sub (encTs us) 3 1 = some [.int .i64 t.p] := by
      intro h
      subst h
      subst hlt
      rfl
    unfold endB at hR
    rw [ga, gb, hlen] at hR
    obtain ⟨cs, hcs⟩ : ∃ cs, encTs us = cs := ⟨_, rfl⟩
    rw [hcs] at hvs s1 s2 hsl h3t
    subst hvs
    have w0 : IntKind.i64.wrap (((l.length + 1 : Nat) : Int) - 1) = (l.length : Int) := by rw [wrap_i64 (by omega) (by omega)]; omega
    have x0 : decide ((0 : Int) < ((l.length + 1 : Nat) : Int)) = true := decide_eq_true (by omega)
    have x1 : (0 : Int) ≤ (l.length : Int) ∧ (l.length : Int) < ((l.length + 1 : Nat) : Int) := by omega
    by_cases hcol : isColon t = true
    case neg =>
      rw [if_neg (fun h => hcol h.2)] at hR
      unfold isColon at hcol
      cases hk : decide (t.k = 6) with
      | false =>
        simp (config := {contextual := true, implicitDefEqProofs := false, maxSteps := 4000000}) only [go_sem, ↓reduceIte, Bool.false_eq_true, Nat.reduceEqDiff, Nat.reduceAdd, Int.reduceLE, Int.reduceLT, Int.reduceEq, Int.reduceToNat, Int.toNat_natCast, Int.cast_ofNat_Int, Int.natCast_one, Nat.reduceMod, Nat.reduceDiv, UInt8.reduceToNat, Nat.reduceLT, e2, e3, e4, la, lb, ld, c1, c2, look_put_ne nab, look_put_ne nba, lpa, lpb, w0, x0, x1, s1, s2, hk]
        exact hA _ _ ⟨n, us, false, c⟩ _ hR e2 e3 (lpc _ _) (lpb _ _) dr fr m1
      | true =>
        have ht : decide (t.t = [58]) = false := by rw [hk] at hcol; simpa using hcol
        simp (config := {contextual := true, implicitDefEqProofs := false, maxSteps := 4000000}) only [go_sem, ↓reduceIte, Bool.false_eq_true, Nat.reduceEqDiff, Nat.reduceAdd, Int.reduceLE, Int.reduceLT, Int.reduceEq, Int.reduceToNat, Int.toNat_natCast, Int.cast_ofNat_Int, Int.natCast_one, Nat.reduceMod, Nat.reduceDiv, UInt8.reduceToNat, Nat.reduceLT, e2, e3, e4, la, lb, ld, c1, c2, look_put_ne nab, look_put_ne nba, lpa, lpb, w0, x0, x1, s1, s2, hk, ht]
        exact hA _ _ ⟨n, us, false, c⟩ _ hR e2 e3 (lpc _ _) (lpb _ _) dr fr m1
    unfold isColon at hcol
    have hk : decide (t.k = 6) = true := by simp only [Bool.and_eq_true] at hcol; exact hcol.1
    have ht : decide (t.t = [58]) = true := by simp only [Bool.and_eq_true] at hcol; exact hcol.2
    rw [if_pos ⟨h0, by unfold isColon; rw [hk, ht]; rfl⟩] at hR
    by_cases hl0 : l = []
    · have x2 : decide (((l.length + 1 : Nat) : Int) = 1) = true := by rw [hl0]; rfl
      have x4 : (0 : Int) < ((l.length + 1 : Nat) : Int) := by omega
      rw [if_pos (by rw [hl0]; rfl)] at hR
      have h3 := h3t hl0
      have kf := fun (er k : Int) st K => c31 er k st K
      simp (config := {contextual := true, implicitDefEqProofs := false, maxSteps := 4000000}) only [go_sem, ↓reduceIte, Bool.false_eq_true, Nat.reduceEqDiff, Nat.reduceAdd, Int.reduceLE, Int.reduceLT, Int.reduceEq, Int.reduceToNat, Int.toNat_natCast, Int.cast_ofNat_Int, Int.natCast_one, Nat.reduceMod, Nat.reduceDiv, UInt8.reduceToNat, Nat.reduceLT, e2, e3, e4, la, lb, ld, c1, c2, look_put_ne nab, look_put_ne nba, lpa, lpb, w0, x0, x1, s1, s2, hk, ht, x2, x4, Nat.zero_mul, Nat.zero_add, h3, kf]
      exact hB _ _ 2 t.p hR (by decide) e2 e3 (lpc _ _) (lpb _ _) m1
    · have x2 : decide (((l.length + 1 : Nat) : Int) = 1) = false := decide_eq_false (fun h => hl0 (List.eq_nil_of_length_eq_zero (by omega)))
      rw [if_neg (fun h => hl0 (List.eq_nil_of_length_eq_zero (by omega)))] at hR
      simp (config := {contextual := true, implicitDefEqProofs := false, maxSteps := 4000000}) only [go_sem, ↓reduceIte, Bool.false_eq_true, Nat.reduceEqDiff, Nat.reduceAdd, Int.reduceLE, Int.reduceLT, Int.reduceEq, Int.reduceToNat, Int.toNat_natCast, Int.cast_ofNat_Int, Int.natCast_one, Nat.reduceMod, Nat.reduceDiv, UInt8.reduceToNat, Nat.reduceLT, e2, e3, e4, la, lb, ld, c1, c2, look_put_ne nab, look_put_ne nba, look_put_ne nad, look_put_ne nbd, ldp, ldq, lqa, lqb, w0, x0, x1, s1, s2, hk, ht, x2, hsl]
      refine hA _ _ ⟨n, l, true, c⟩ _ hR e2 e3 (lqc _ _ _ _) (lqb _ _ _ _) ?_ ?_ m2
      · unfold rsl; rw [if_neg hl0]; rfl
      · simp [AV.free0, Own.free, encTs_al, AV.al]
  · intro er k hus e1 st' e2 e3 q1 q2 q3
    have hR : resB a n i = (noS, er, ((k + 1 : Nat) : Int)) := by unfold resB; rw [hus]
    exact hB _ _ er _ hR (scanL_er a _ _ _ _ _ hus) e2 e3 q1 q2 q3
/-- What the reference's scan answers. -/
abbrev scR (x : Sc × Int × Int) : AV := .tuple [.agg [.int .i64 x.1.ind, if x.2.1 = 0 then rsl x.1.ts else .nilslice, .bool x.1.head, .str x.1.com], .agg [.int .i64 x.2.1, .int .i64 0, .int .i64 x.2.2]]
theorem c19 (a : List UInt8) (s : St) (K : AV → St → Prop) : CallW cx 19 [.str a] s K = K (scR (scanB a)) s := by
  refine CallW.eq (CallW.fn' (fn := ir19) rfl rfl (by kernel_rfl) irScan_eq ?_) K
  have hsc : scanB a = if 1000 < a.length then (noS, 7, 1001) else if (firstI a).2 ≠ 0 then (noS, (firstI a).2, ((blk a 0 + 1 : Nat) : Int)) else resB a (firstI a).1 (blk a 0) := rfl
  rw [hsc]
  have kf := fun (er k : Int) st K => c31 er k st K
  by_cases h1 : 1000 < a.length
  · have d1 : decide ((1000 : Int) < (a.length : Int)) = true := decide_eq_true (by omega)
    rw [if_pos h1]
    simp (config := {contextual := true, implicitDefEqProofs := false, maxSteps := 4000000}) only [go_sem, ↓reduceIte, Bool.false_eq_true, Nat.reduceEqDiff, Nat.reduceAdd, Int.reduceLE, Int.reduceLT, Int.reduceEq, Int.reduceToNat, Int.toNat_natCast, Int.cast_ofNat_Int, Int.natCast_one, Nat.reduceMod, Nat.reduceDiv, UInt8.reduceToNat, Nat.reduceLT, d1, kf]
    rfl
  rw [if_neg h1]
  have d1 : decide ((1000 : Int) < (a.length : Int)) = false := decide_eq_false (by omega)
  have hSI : ∀ n : Int, SR s.next n (.slice [] 0 .full) [] [] { heap := (s.next + 2, rctC n (.slice [] 0 .full) false []) :: (s.next + 1, fltC 0 0) :: (s.next, rctC 0 .nilslice false []) :: s.heap, next := s.next + 3, low := s.next } := by
    intro n
    refine ⟨Gr.full rfl, by simp [Fw.look], by simp [Fw.look], by simp [Fw.look], fun t h => (by cases h), rfl, Nat.le_refl _, by simp⟩
  obtain ⟨_, r1⟩ := blk_le a 0 (Nat.zero_le _)
  have fin : ∀ (n : Int) (e : FE), e 0 = .str a → e 2 = .ptr s.next 0 → e 3 = .ptr (s.next + 1) 0 → e 4 = .ptr (s.next + 2) 0 → e 5 = .int .i64 ((blk a 0 : Nat) : Int) → ∀ Q : Sig → FE → St → Prop,
      (∀ (e' : FE) (st' : St) (v : AV), e' 2 = .ptr s.next 0 → e' 3 = .ptr (s.next + 1) 0 → Fw.look s.next st'.heap = some (rctC (resB a n (blk a 0)).1.ind v (resB a n (blk a 0)).1.head (resB a n (blk a 0)).1.com) → Fw.look (s.next + 1) st'.heap = some (fltC (resB a n (blk a 0)).2.1 (resB a n (blk a 0)).2.2) → v.dr = (if (resB a n (blk a 0)).2.1 = 0 then rsl (resB a n (blk a 0)).1.ts else .nilslice) → v.free0 s.next = true → s.next ≤ st'.low → Q .ret e' st') →
      W cx irS e { heap := (s.next + 2, rctC n (.slice [] 0 .full) false []) :: (s.next + 1, fltC 0 0) :: (s.next, rctC 0 .nilslice false []) :: s.heap, next := s.next + 3, low := s.next } Q := by
    intro n e h0 h2 h3 h4 h5 Q hQ
    refine scanTail a (by omega) s.next n _ e (blk a 0) r1 (hSI n) h0 h2 h3 h4 h5 Q ?_ ?_
    · intro e' st' x v hR a2 a3 a4 a5 a6 a7 a8
      rw [hR] at hQ
      exact hQ e' st' v a2 a3 a4 a5 (by rw [if_pos rfl]; exact a6) a7 a8
    · intro e' st' er k hR her a2 a3 a4 a5 a6
      rw [hR] at hQ
      exact hQ e' st' .nilslice a2 a3 a4 a5 (by rw [if_neg her]; rfl) rfl a6
  clear hsc
  unfold firstI
  simp (config := {contextual := true, implicitDefEqProofs := false, maxSteps := 4000000}) only [go_sem, ↓reduceIte, Bool.false_eq_true, Nat.reduceEqDiff, Nat.reduceAdd, Int.reduceLE, Int.reduceLT, Int.reduceEq, Int.reduceToNat, Int.toNat_natCast, Int.cast_ofNat_Int, Int.natCast_one, Nat.reduceMod, Nat.reduceDiv, UInt8.reduceToNat, Nat.reduceLT, d1]
  refine l19a a (by omega) _ _ _ _ _ a.length 0 _ (by omega) rfl rfl rfl rfl rfl ?_
  intro e1 h0 h2 h3 h4 h5
  generalize blk a 0 = i at *
  obtain ⟨b, hb⟩ : ∃ b, a.getD i 0 = b := ⟨_, rfl⟩
  rw [hb]
  have f1 : decide (((b.toNat : Nat) : Int) ≠ 35) = !decide (b = 35) := by rw [← is_byte 35 b]; simp
  have b1 : (0 : Int) ≤ (i : Int) := by omega
  have w1 := wrap_one (i := i) (by omega)
  by_cases hA : i < a.length ∧ b ≠ 35
  case pos =>
    rw [if_pos hA]
    have d2 : decide ((i : Int) < (a.length : Int)) = true := decide_eq_true (by omega)
    have b2 : (i : Int) < (a.length : Int) := by omega
    rw [decide_eq_false hA.2] at f1
    have m1 : Int.tmod (i : Int) 2 = ((i % 2 : Nat) : Int) := by rw [Int.tmod_eq_emod_of_nonneg (by omega)]; rfl
    have m2 : Int.tdiv (i : Int) 2 = ((i / 2 : Nat) : Int) := by rw [Int.tdiv_eq_ediv_of_nonneg (by omega)]; rfl
    have m3 : IntKind.i64.wrap ((i / 2 : Nat) : Int) = ((i / 2 : Nat) : Int) := wrap_i64 (by omega) (by omega)
    have m4 : IntKind.i64.wrap ((i % 2 : Nat) : Int) = ((i % 2 : Nat) : Int) := wrap_i64 (by omega) (by omega)
    unfold indB
    by_cases h2m : i % 2 ≠ 0
    · have d0 : decide (((i % 2 : Nat) : Int) = 1) = true := decide_eq_true (by omega)
      rw [if_pos h2m]
      simp (config := {contextual := true, implicitDefEqProofs := false, maxSteps := 4000000}) only [go_sem, ↓reduceIte, Bool.false_eq_true, Nat.reduceEqDiff, Nat.reduceAdd, Int.reduceLE, Int.reduceLT, Int.reduceEq, Int.reduceToNat, Int.toNat_natCast, Int.cast_ofNat_Int, Int.natCast_one, Nat.reduceMod, Nat.reduceDiv, UInt8.reduceToNat, Nat.reduceLT, h0, h2, h3, h4, h5, d2, b1, b2, hb, f1, Bool.not_false, m1, m4, d0, w1, kf]
      rfl
    have d0 : decide (((i % 2 : Nat) : Int) = 1) = false := decide_eq_false (by omega)
    rw [if_neg h2m]
    by_cases h12 : 12 < i
    · have d3 : decide ((12 : Int) < (i : Int)) = true := decide_eq_true (by omega)
      rw [if_pos h12]
      simp (config := {contextual := true, implicitDefEqProofs := false, maxSteps := 4000000}) only [go_sem, ↓reduceIte, Bool.false_eq_true, Nat.reduceEqDiff, Nat.reduceAdd, Int.reduceLE, Int.reduceLT, Int.reduceEq, Int.reduceToNat, Int.toNat_natCast, Int.cast_ofNat_Int, Int.natCast_one, Nat.reduceMod, Nat.reduceDiv, UInt8.reduceToNat, Nat.reduceLT, h0, h2, h3, h4, h5, d2, b1, b2, hb, f1, Bool.not_false, m1, m4, d0, d3, w1, kf]
      rfl
    have d3 : decide ((12 : Int) < (i : Int)) = false := decide_eq_false (by omega)
    rw [if_neg h12]
    have n02 : ¬ s.next + 2 = s.next := by omega
    simp (config := {contextual := true, implicitDefEqProofs := false, maxSteps := 4000000}) only [go_sem, ↓reduceIte, Bool.false_eq_true, Nat.reduceEqDiff, Nat.reduceAdd, Int.reduceLE, Int.reduceLT, Int.reduceEq, Int.reduceToNat, Int.toNat_natCast, Int.cast_ofNat_Int, Int.natCast_one, Nat.reduceMod, Nat.reduceDiv, UInt8.reduceToNat, Nat.reduceLT, h0, h2, h3, h4, h5, d2, b1, b2, hb, f1, Bool.not_false, m1, m2, m3, m4, d0, d3, ↓W_irS]
    refine WTail.of (fin ((i / 2 : Nat) : Int) _ ?_ ?_ ?_ ?_ ?_ _ ?_)
    · exact h0
    · exact h2
    · exact h3
    · exact h4
    · exact h5
    intro e' st' v a2 a3 a4 a5 a6 a7 a8
    generalize resB a ((i / 2 : Nat) : Int) i = x at *
    obtain ⟨⟨x1, x2, x3, x4⟩, x5, x6⟩ := x
    simp only at a4 a5 a6 ⊢
    have hl := fun K => LeaveW_tfreeA (s := s) (s' := st') (vs := [.agg [.int .i64 x1, v, .bool x3, .str x4], .agg [.int .i64 x5, .int .i64 0, .int .i64 x6]]) (by simp only [List.all_cons, List.all_nil, AV.freeA, a7]; rfl) a8 K
    simp (config := {contextual := true, implicitDefEqProofs := false, maxSteps := 4000000}) only [go_sem, ↓reduceIte, Bool.false_eq_true, Nat.reduceEqDiff, Nat.reduceAdd, Int.reduceLE, Int.reduceLT, Int.reduceEq, Int.reduceToNat, Int.toNat_natCast, Int.cast_ofNat_Int, Int.natCast_one, Nat.reduceMod, Nat.reduceDiv, UInt8.reduceToNat, Nat.reduceLT, a2, a3, a4, a5, hl]
    simp only [scR, ne_eq, not_true_eq_false, if_false, ← a6]
    rfl
  case neg =>
    rw [if_neg hA]
    by_cases hi : i < a.length
    case pos =>
      have d2 : decide ((i : Int) < (a.length : Int)) = true := decide_eq_true (by omega)
      have b2 : (i : Int) < (a.length : Int) := by omega
      have hb35 : b = 35 := Decidable.byContradiction fun h => hA ⟨hi, h⟩
      rw [decide_eq_true hb35] at f1
      simp (config := {contextual := true, implicitDefEqProofs := false, maxSteps := 4000000}) only [go_sem, ↓reduceIte, Bool.false_eq_true, Nat.reduceEqDiff, Nat.reduceAdd, Int.reduceLE, Int.reduceLT, Int.reduceEq, Int.reduceToNat, Int.toNat_natCast, Int.cast_ofNat_Int, Int.natCast_one, Nat.reduceMod, Nat.reduceDiv, UInt8.reduceToNat, Nat.reduceLT, h0, h2, h3, h4, h5, d2, b1, b2, hb, f1, Bool.not_true, ↓W_irS]
      refine WTail.of (fin 0 _ ?_ ?_ ?_ ?_ ?_ _ ?_)
      · exact h0
      · exact h2
      · exact h3
      · exact h4
      · exact h5
      intro e' st' v a2 a3 a4 a5 a6 a7 a8
      generalize resB a 0 i = x at *
      obtain ⟨⟨x1, x2, x3, x4⟩, x5, x6⟩ := x
      simp only at a4 a5 a6 ⊢
      have hl := fun K => LeaveW_tfreeA (s := s) (s' := st') (vs := [.agg [.int .i64 x1, v, .bool x3, .str x4], .agg [.int .i64 x5, .int .i64 0, .int .i64 x6]]) (by simp only [List.all_cons, List.all_nil, AV.freeA, a7]; rfl) a8 K
      simp (config := {contextual := true, implicitDefEqProofs := false, maxSteps := 4000000}) only [go_sem, ↓reduceIte, Bool.false_eq_true, Nat.reduceEqDiff, Nat.reduceAdd, Int.reduceLE, Int.reduceLT, Int.reduceEq, Int.reduceToNat, Int.toNat_natCast, Int.cast_ofNat_Int, Int.natCast_one, Nat.reduceMod, Nat.reduceDiv, UInt8.reduceToNat, Nat.reduceLT, a2, a3, a4, a5, hl]
      simp only [scR, ne_eq, not_true_eq_false, if_false, ← a6]
      rfl
    case neg =>
      have d2 : decide ((i : Int) < (a.length : Int)) = false := decide_eq_false (by omega)
      simp (config := {contextual := true, implicitDefEqProofs := false, maxSteps := 4000000}) only [go_sem, ↓reduceIte, Bool.false_eq_true, Nat.reduceEqDiff, Nat.reduceAdd, Int.reduceLE, Int.reduceLT, Int.reduceEq, Int.reduceToNat, Int.toNat_natCast, Int.cast_ofNat_Int, Int.natCast_one, Nat.reduceMod, Nat.reduceDiv, UInt8.reduceToNat, Nat.reduceLT, h0, h2, h3, h4, h5, d2, ↓W_irS]
      refine WTail.of (fin 0 _ ?_ ?_ ?_ ?_ ?_ _ ?_)
      · exact h0
      · exact h2
      · exact h3
      · exact h4
      · exact h5
      intro e' st' v a2 a3 a4 a5 a6 a7 a8
      generalize resB a 0 i = x at *
      obtain ⟨⟨x1, x2, x3, x4⟩, x5, x6⟩ := x
      simp only at a4 a5 a6 ⊢
      have hl := fun K => LeaveW_tfreeA (s := s) (s' := st') (vs := [.agg [.int .i64 x1, v, .bool x3, .str x4], .agg [.int .i64 x5, .int .i64 0, .int .i64 x6]]) (by simp only [List.all_cons, List.all_nil, AV.freeA, a7]; rfl) a8 K
      simp (config := {contextual := true, implicitDefEqProofs := false, maxSteps := 4000000}) only [go_sem, ↓reduceIte, Bool.false_eq_true, Nat.reduceEqDiff, Nat.reduceAdd, Int.reduceLE, Int.reduceLT, Int.reduceEq, Int.reduceToNat, Int.toNat_natCast, Int.cast_ofNat_Int, Int.natCast_one, Nat.reduceMod, Nat.reduceDiv, UInt8.reduceToNat, Nat.reduceLT, a2, a3, a4, a5, hl]
      simp only [scR, ne_eq, not_true_eq_false, if_false, ← a6]
      rfl
end T18


/- The reference's lines. -/
namespace T18
open Go Fw Go.Proofs
set_option maxRecDepth 100000
set_option maxHeartbeats 4000000
set_option linter.unusedSimpArgs false
set_option linter.unusedVariables false
def refG : List UInt8 → List UInt8 → List (List UInt8)
  | cur, [] => if cur = [] then [] else [cur]
  | cur, b :: l => if b = 10 then cur :: refG [] l else refG (cur ++ [b]) l
theorem refG_eq : ∀ (l cur x : List UInt8) (xs : List (List UInt8)), splitB 10 l = x :: xs → refG cur l = trimE ((cur ++ x) :: xs)
  | [], cur, x, xs, h => by
    simp only [splitB, List.cons.injEq] at h
    obtain ⟨rfl, rfl⟩ := h
    simp only [refG, trimE, List.append_nil]
  | b :: l, cur, x, xs, h => by
    simp only [splitB] at h
    simp only [refG]
    by_cases hb : b = 10
    · rw [if_pos hb] at h ⊢
      simp only [List.cons.injEq] at h
      obtain ⟨rfl, rfl⟩ := h
      cases hs : splitB 10 l with
      | nil => exact absurd hs (splitB_ne 10 l)
      | cons y ys =>
        rw [refG_eq l [] y ys hs, List.append_nil, List.nil_append]
        rfl
    · rw [if_neg hb] at h ⊢
      cases hs : splitB 10 l with
      | nil => exact absurd hs (splitB_ne 10 l)
      | cons y ys =>
        rw [hs] at h
        simp only [List.cons.injEq] at h
        obtain ⟨rfl, rfl⟩ := h
        rw [refG_eq l (cur ++ [b]) y ys hs]
        simp
theorem refG_lines (a : List UInt8) : refG [] a = linesB a := by
  unfold linesB
  cases hs : splitB 10 a with
  | nil => exact absurd hs (splitB_ne 10 a)
  | cons y ys => rw [refG_eq a [] y ys hs, List.nil_append]
theorem c18z (a : List UInt8) (h : 65536 < a.length) (s : St) (K : AV → St → Prop) : CallW cx 18 [.str a] s K = K (.tuple [.nilslice, .int .i64 7]) s := by
  refine CallW.eq (CallW.fn' (fn := ir18) rfl rfl (by kernel_rfl) ir18.eq_1 ?_) K
  have d1 : decide ((65536 : Int) < (a.length : Int)) = true := decide_eq_true (by omega)
  simp (config := {contextual := true, implicitDefEqProofs := false, maxSteps := 4000000}) only [go_sem, ↓reduceIte, Bool.false_eq_true, Nat.reduceEqDiff, Nat.reduceAdd, Int.reduceLE, Int.reduceLT, Int.reduceEq, Int.reduceToNat, Int.toNat_natCast, Int.cast_ofNat_Int, Int.natCast_one, Nat.reduceMod, Nat.reduceDiv, UInt8.reduceToNat, Nat.reduceLT, d1]
theorem l18 (a : List UInt8) (hl : a.length ≤ 65536) (L : Nat) (Q : Sig → FE → St → Prop) : ∀ (n i p : Nat) (ds : List (List UInt8)) (e : FE) (st : St) (v : AV), i + n = a.length → p ≤ i → ds.length ≤ i → G2 9 1 0 0 L st v .nilslice (encS ds) ds.length [] 0 → e 0 = .str a → e 4 = v → e 5 = .int .i64 (p : Int) → e 6 = .int .i64 (i : Int) →
    (∀ e' st' v' (p' : Nat) (ds' : List (List UInt8)), G2 9 1 0 0 L st' v' .nilslice (encS ds') ds'.length [] 0 → (ds' ≠ [] → ∃ t, tokOf v' = some t) → (ds' = [] → v' = .slice [] 0 .full) → p' ≤ a.length → ds'.length ≤ a.length → ds ++ refG (cut a (p : Int) (i : Int)) (a.drop i) = ds' ++ (if p' < a.length then [a.drop p'] else []) → e' 0 = .str a → e' 4 = v' → e' 5 = .int .i64 (p' : Int) → Q (.exit 0) e' st') →
    (ds ≠ [] → ∃ t, tokOf v = some t) → (ds = [] → v = .slice [] 0 .full) → WLoop cx ir18L0 e st Q
  | 0, i, p, ds, e, st, v, hi, hp, hdi, hG, h0, h4, h5, h6, hQ, ht, hf => by
    refine WLoop.rnd (c := _) ir18L0.eq_1 ?_
    have hd : decide ((i : Int) < (a.length : Int)) = false := decide_eq_false (by omega)
    simp (config := {contextual := true, implicitDefEqProofs := false, maxSteps := 4000000}) only [go_sem, ↓reduceIte, Bool.false_eq_true, Nat.reduceEqDiff, Nat.reduceAdd, Int.reduceLE, Int.reduceLT, Int.reduceEq, Int.reduceToNat, Int.toNat_natCast, Int.cast_ofNat_Int, Int.natCast_one, Nat.reduceMod, Nat.reduceDiv, UInt8.reduceToNat, Nat.reduceLT, h0, h4, h5, h6, hd]
    refine hQ _ st v p ds hG ht hf (by omega) (by omega) ?_ h0 h4 h5
    have hia : i = a.length := by omega
    rw [List.drop_eq_nil_of_le (by omega)]
    simp only [refG]
    congr 1
    have hc : cut a (p : Int) (i : Int) = a.drop p := by
      simp only [cut, Int.toNat_natCast]; rw [List.take_of_length_le (by rw [List.length_drop]; omega)]
    rw [hc]
    by_cases hpa : p < a.length
    · rw [if_pos hpa, if_neg (fun h => by have := congrArg List.length h; rw [List.length_drop, List.length_nil] at this; omega)]
    · rw [if_neg hpa, if_pos (List.drop_eq_nil_of_le (by omega))]
  | n + 1, i, p, ds, e, st, v, hi, hp, hdi, hG, h0, h4, h5, h6, hQ, ht, hf => by
    refine WLoop.rnd (c := _) ir18L0.eq_1 ?_
    have hd : decide ((i : Int) < (a.length : Int)) = true := decide_eq_true (by omega)
    have hw := wrap_one (i := i) (by omega)
    have b1 : (0 : Int) ≤ (i : Int) := by omega
    have b2 : (i : Int) < (a.length : Int) := by omega
    rw [drop_at (a := a) (i := i) (by omega)] at hQ
    simp only [refG] at hQ
    have hsn := cut_snoc a p i hp (by omega)
    obtain ⟨c, hc⟩ : ∃ c, a.getD i 0 = c := ⟨_, rfl⟩
    rw [hc] at hQ hsn
    by_cases hx : c = 10
    · have d1 : decide (((c.toNat : Nat) : Int) = 10) = true := by rw [hx]; rfl
      rw [if_pos hx] at hQ
      have sk : slOk a.length (p : Int) (i : Int) := ⟨by omega, by omega, by omega⟩
      obtain ⟨v', st', ap, G', lw, _, ps, tk, nx⟩ := hG.app1 (bytes := 16) (k := 1) (y := .slice [.str (cut a (p : Int) (i : Int))] 1 .full) (new := [.str (cut a (p : Int) (i : Int))]) (one_str1 _ _) rfl rfl rfl (Nat.le_trans (show (ds.length + 1) * 16 ≤ 20000000 by omega) (by decide))
      simp only [List.map_cons, List.map_nil, strip_str, encS_snoc] at G'
      simp (config := {contextual := true, implicitDefEqProofs := false, maxSteps := 4000000}) only [go_sem, ↓reduceIte, Bool.false_eq_true, Nat.reduceEqDiff, Nat.reduceAdd, Int.reduceLE, Int.reduceLT, Int.reduceEq, Int.reduceToNat, Int.toNat_natCast, Int.cast_ofNat_Int, Int.natCast_one, Nat.reduceMod, Nat.reduceDiv, UInt8.reduceToNat, Nat.reduceLT, h0, h4, h5, h6, hd, b1, b2, hc, d1, sk, ap, hw]
      have hl1 : (ds ++ [cut a (p : Int) (i : Int)]).length = ds.length + 1 := by simp
      refine l18 a hl L Q n (i + 1) (i + 1) (ds ++ [cut a (p : Int) (i : Int)]) _ st' v' (by omega) (Nat.le_refl _) (by rw [hl1]; omega) (by rw [hl1]; exact G') h0 rfl rfl rfl ?_ (fun _ => tk (by decide)) (fun h => by simp at h)
      intro e' st'' v'' p' ds' g1 g2 g3 g4 g5 g6
      refine hQ e' st'' v'' p' ds' g1 g2 g3 g4 g5 ?_
      rw [← g6, cut_same]; simp
    · have d1 : decide (((c.toNat : Nat) : Int) = 10) = false := by
        simp only [decide_eq_false_iff_not]; intro h; exact hx (byte_eq (n := 10) h)
      rw [if_neg hx] at hQ
      simp (config := {contextual := true, implicitDefEqProofs := false, maxSteps := 4000000}) only [go_sem, ↓reduceIte, Bool.false_eq_true, Nat.reduceEqDiff, Nat.reduceAdd, Int.reduceLE, Int.reduceLT, Int.reduceEq, Int.reduceToNat, Int.toNat_natCast, Int.cast_ofNat_Int, Int.natCast_one, Nat.reduceMod, Nat.reduceDiv, UInt8.reduceToNat, Nat.reduceLT, h0, h4, h5, h6, hd, b1, b2, hc, d1, hw]
      refine l18 a hl L Q n (i + 1) p ds _ st v (by omega) (by omega) (by omega) hG h0 h4 h5 rfl ?_ ht hf
      intro e' st'' v'' p' ds' g1 g2 g3 g4 g5 g6
      exact hQ e' st'' v'' p' ds' g1 g2 g3 g4 g5 (by rw [← g6, hsn])
theorem drS {v : AV} {L : Nat} {st : St} {l : List (List UInt8)} (hG : G2 9 1 0 0 L st v .nilslice (encS l) l.length [] 0) (ht : l ≠ [] → ∃ t, tokOf v = some t) (hf : l = [] → v = .slice [] 0 .full) : v.dr = .slice (encS l) l.length (if l = [] then .full else .no) := by
  by_cases h : l = []
  · rw [hf h, h]; rfl
  · obtain ⟨t, h2⟩ := ht h
    rw [if_neg h, tok_shape hG.a h2]; rfl
theorem c18 (a : List UInt8) (h : a.length ≤ 65536) (s : St) (K : AV → St → Prop) : CallW cx 18 [.str a] s K = K (.tuple [.slice (encS (linesB a)) (linesB a).length (if linesB a = [] then .full else .no), .int .i64 0]) s := by
  refine CallW.eq (CallW.fn' (fn := ir18) rfl rfl (by kernel_rfl) ir18.eq_1 ?_) K
  have d1 : decide ((65536 : Int) < (a.length : Int)) = false := decide_eq_false (by omega)
  simp (config := {contextual := true, implicitDefEqProofs := false, maxSteps := 4000000}) only [go_sem, ↓reduceIte, Bool.false_eq_true, Nat.reduceEqDiff, Nat.reduceAdd, Int.reduceLE, Int.reduceLT, Int.reduceEq, Int.reduceToNat, Int.toNat_natCast, Int.cast_ofNat_Int, Int.natCast_one, Nat.reduceMod, Nat.reduceDiv, UInt8.reduceToNat, Nat.reduceLT, d1]
  refine l18 a h s.next _ a.length 0 0 [] _ { heap := s.heap, next := s.next, low := s.next } (.slice [] 0 .full) (by omega) (Nat.le_refl _) (Nat.le_refl _) ⟨Gr.full rfl, Gr.nil, fun t h => (by cases h), fun t h => (by cases h), fun t h => (by cases h), Nat.le_refl _, Nat.le_refl _⟩ rfl rfl rfl rfl ?_ (fun h => absurd rfl h) (fun _ => rfl)
  intro e' st' v' p' ds' hG ht hf hp' hdl heq h0 h4 h5
  rw [List.nil_append, cut_same, List.drop_zero, refG_lines] at heq
  have hlv : ∀ (st' : St) (v : AV) (l : List (List UInt8)), G2 9 1 0 0 s.next st' v .nilslice (encS l) l.length [] 0 → (l ≠ [] → ∃ t, tokOf v = some t) → (l = [] → v = .slice [] 0 .full) → ∀ K : AV → St → Prop, LeaveW s st' (.tuple [v, .int .i64 0]) K = K (.tuple [.slice (encS l) l.length (if l = [] then .full else .no), .int .i64 0]) s := by
    intro st' v l hG ht hf K
    rw [LeaveW_tfree (by simp only [List.all_cons, List.all_nil, hG.a.free hG.la (encS_al _), Bool.and_true]; rfl) hG.low]
    simp only [List.map_cons, List.map_nil, drS hG ht hf]; rfl
  by_cases hpa : p' < a.length
  · have d2 : decide ((p' : Int) < (a.length : Int)) = true := decide_eq_true (by omega)
    have b1 : (0 : Int) ≤ (p' : Int) ∧ (p' : Int) ≤ (a.length : Int) := by omega
    rw [if_pos hpa] at heq
    obtain ⟨v2, st2, ap, G', lw, _, ps, tk, nx⟩ := hG.app1 (bytes := 16) (k := 1) (y := .slice [.str (a.drop p')] 1 .full) (new := [.str (a.drop p')]) (one_str1 _ _) rfl rfl rfl (Nat.le_trans (show (ds'.length + 1) * 16 ≤ 20000000 by omega) (by decide))
    simp only [List.map_cons, List.map_nil, strip_str, encS_snoc] at G'
    have hl1 : (ds' ++ [a.drop p']).length = ds'.length + 1 := by simp
    rw [← hl1] at G'
    have hl := hlv st2 v2 _ G' (fun _ => tk (by decide)) (fun h => by simp at h)
    rw [heq]
    simp (config := {contextual := true, implicitDefEqProofs := false, maxSteps := 4000000}) only [go_sem, ↓reduceIte, Bool.false_eq_true, Nat.reduceEqDiff, Nat.reduceAdd, Int.reduceLE, Int.reduceLT, Int.reduceEq, Int.reduceToNat, Int.toNat_natCast, Int.cast_ofNat_Int, Int.natCast_one, Nat.reduceMod, Nat.reduceDiv, UInt8.reduceToNat, Nat.reduceLT, h0, h4, h5, d2, b1, ap, hl]
  · have d2 : decide ((p' : Int) < (a.length : Int)) = false := decide_eq_false (by omega)
    rw [if_neg hpa, List.append_nil] at heq
    have hl := hlv st' v' ds' hG ht hf
    rw [heq]
    simp (config := {contextual := true, implicitDefEqProofs := false, maxSteps := 4000000}) only [go_sem, ↓reduceIte, Bool.false_eq_true, Nat.reduceEqDiff, Nat.reduceAdd, Int.reduceLE, Int.reduceLT, Int.reduceEq, Int.reduceToNat, Int.toNat_natCast, Int.cast_ofNat_Int, Int.natCast_one, Nat.reduceMod, Nat.reduceDiv, UInt8.reduceToNat, Nat.reduceLT, h0, h4, h5, d2, hl]
end T18


/- The reference's Parse: its loop. -/
namespace T18
open Go Fw Go.Proofs
set_option maxRecDepth 100000
set_option maxHeartbeats 4000000
set_option linter.unusedSimpArgs false
set_option linter.unusedVariables false
def lastD (acc : List (Line × Int)) : Int := match acc.getLast? with
  | none => -1
  | some x => x.2
def lastH (acc : List (Line × Int)) : Bool := match acc.getLast? with
  | none => false
  | some x => x.1.head
theorem fits_last {acc : List (Line × Int)} (h6 : ∀ x ∈ acc, 0 ≤ x.2 ∧ x.2 ≤ 6) (d : Int) (hd : 0 ≤ d) : (if lastD acc < 0 then decide (d = 0) else decide (0 ≤ d) && (decide (d ≤ lastD acc) || (lastH acc && decide (d = lastD acc + 1)))) = fitsB d acc := by
  unfold lastD lastH fitsB
  cases h : acc.getLast? with
  | none => rfl
  | some x =>
    have hx := h6 x (List.mem_of_getLast? h)
    simp only
    rw [if_neg (by omega), decide_eq_true hd, Bool.true_and, Bool.and_comm]
theorem lastD_snoc (acc : List (Line × Int)) (x : Line × Int) : lastD (acc ++ [x]) = x.2 := by
  unfold lastD
  simp
theorem lastH_snoc (acc : List (Line × Int)) (x : Line × Int) : lastH (acc ++ [x]) = x.1.head := by
  unfold lastH
  simp
theorem last_range {acc : List (Line × Int)} (h6 : ∀ x ∈ acc, 0 ≤ x.2 ∧ x.2 ≤ 6) : -1 ≤ lastD acc ∧ lastD acc ≤ 6 := by
  unfold lastD
  cases h : acc.getLast? with
  | none => simp
  | some x =>
    have hx := h6 x (List.mem_of_getLast? h)
    simp only; omega
theorem free_wr (a b : Nat → Option AObj) (j : Nat) : (Deed.wrAll fun j => a j ≠ b j).free (.rd j) = @decide (a j = b j) (Classical.propDecidable _) := by simp [Deed.free]
theorem app_moves {ty z : Nat} {st st' : St} {v v' : AV} {cs ds : List AV} {n m : Nat} (h : Gr ty z st v cs n) (h' : Gr ty z st' v' ds m) (ht : ∃ t, tokOf v' = some t) (hl : ∀ t, tokOf v = some t → st'.low ≤ t) (hz : ∀ t, tokOf v' = some t → tokOf v = some t ∨ st.next ≤ t) : decide (st'.next = st.next ∧ st'.low = st.next) = false := by
  obtain ⟨t, ht⟩ := ht
  refine decide_eq_false fun ⟨h1, h2⟩ => ?_
  have h3 := h'.tok_lt ht
  rcases hz t ht with h4 | h4
  · have := hl t h4; have := h.tok_lt h4; omega
  · omega
theorem l6 (rows : List (List UInt8)) (o : Own) (hrl : rows.length ≤ 70000) (N : Nat) (Q : Sig → FE → St → Prop) :
    ∀ (n i : Nat) (e : FE) (st : St) (v w : AV) (acc : List (Line × Int)), i + n = rows.length → acc.length ≤ i → (∀ x ∈ acc, 0 ≤ x.2 ∧ x.2 ≤ 6) → G2 40 4 3 1 N st v w (encLs (acc.map Prod.fst)) acc.length (encI (acc.map Prod.snd)) acc.length → ((∀ t, tokOf v = some t → N + 1 ≤ t) ∧ ∀ t, tokOf w = some t → N + 1 ≤ t) → (acc ≠ [] → (∃ t, tokOf v = some t) ∧ ∃ t, tokOf w = some t) → (acc = [] → v = .slice [] 0 .full ∧ w = .slice [] 0 .full) →
    Fw.look N st.heap = some (.cells (some 26) [.int .i64 0, .int .i64 0, .int .i64 0]) → N + 1 ≤ st.next → e 3 = .ptr N 0 → e 4 = .slice (encS rows) rows.length o → e 6 = v → e 7 = w → e 8 = .int .i64 (lastD acc) → e 9 = .bool (lastH acc) → e 10 = .int .i64 (i : Int) →
    (∀ acc', parseL (rows.drop i) i acc = .inl acc' → ∀ e' st' v' w', G2 40 4 3 1 N st' v' w' (encLs (acc'.map Prod.fst)) acc'.length (encI (acc'.map Prod.snd)) acc'.length → (acc' ≠ [] → (∃ t, tokOf v' = some t) ∧ ∃ t, tokOf w' = some t) → (acc' = [] → v' = .slice [] 0 .full ∧ w' = .slice [] 0 .full) → Fw.look N st'.heap = some (.cells (some 26) [.int .i64 0, .int .i64 0, .int .i64 0]) → acc'.length ≤ 70000 → e' 3 = .ptr N 0 → e' 6 = v' → e' 7 = w' → Q (.exit 0) e' st') →
    (∀ er ln cl, parseL (rows.drop i) i acc = .inr (er, ln, cl) → ∀ e' st', e' 2 = .nilslice → e' 3 = .ptr N 0 → Fw.look N st'.heap = some (.cells (some 26) [.int .i64 er, .int .i64 ln, .int .i64 cl]) → N ≤ st'.low → Q .ret e' st') → WLoop cx ir6L0 e st Q
  | 0, i, e, st, v, w, acc, hi, hai, hdp, hG, htv, hsh, hsf, hk1, hnx, h3, h4, h6, h7, h8, h9, h10, hA, hB => by
    refine WLoop.rnd (c := _) ir6L0.eq_1 ?_
    have hd : decide ((i : Int) < (rows.length : Int)) = false := decide_eq_false (by omega)
    rw [List.drop_eq_nil_of_le (by omega)] at hA
    simp (config := {contextual := true, implicitDefEqProofs := false, maxSteps := 4000000}) only [go_sem, ↓reduceIte, Bool.false_eq_true, Nat.reduceEqDiff, Nat.reduceAdd, Int.reduceLE, Int.reduceLT, Int.reduceEq, Int.reduceToNat, Int.toNat_natCast, Int.cast_ofNat_Int, Int.natCast_one, Nat.reduceMod, Nat.reduceDiv, UInt8.reduceToNat, Nat.reduceLT, h4, h10, hd]
    exact hA acc rfl _ _ v w hG hsh hsf hk1 (by omega) h3 h6 h7
  | n + 1, i, e, st, v, w, acc, hi, hai, hdp, hG, htv, hsh, hsf, hk1, hnx, h3, h4, h6, h7, h8, h9, h10, hA, hB => by
    refine WLoop.rnd (c := _) ir6L0.eq_1 ?_
    have hlt : i < rows.length := by omega
    have hd : decide ((i : Int) < (rows.length : Int)) = true := decide_eq_true (by omega)
    have b1 : (0 : Int) ≤ (i : Int) ∧ (i : Int) < (rows.length : Int) := by omega
    have w1 := wrap_one (i := i) (by omega)
    have s1 := str_at hlt
    rw [List.drop_eq_getElem_cons hlt] at hA hB
    obtain ⟨r, hr⟩ : ∃ r, rows[i] = r := ⟨_, rfl⟩
    rw [hr] at s1 hA hB
    simp only [parseL] at hA hB
    have ks := fun st K => c19 r st K
    have hir := ind_range r
    generalize scanB r = x at *
    obtain ⟨⟨ind, ts, hd2, com⟩, er, cl⟩ := x
    simp only at hA hB hir
    simp only [scR, rsl] at ks
    have hlown := hG.lown
    have hlow := hG.low
    have n1 : ¬ st.next = N := by omega
    have n3 : ¬ st.next + 1 = N := by omega
    by_cases her : er = 0
    case neg =>
      have d1 : decide (er ≠ 0) = true := decide_eq_true her
      rw [if_neg her] at ks
      rw [if_pos her] at hB
      simp (config := {contextual := true, implicitDefEqProofs := false, maxSteps := 4000000}) only [go_sem, ↓reduceIte, Bool.false_eq_true, Nat.reduceEqDiff, Nat.reduceAdd, Int.reduceLE, Int.reduceLT, Int.reduceEq, Int.reduceToNat, Int.toNat_natCast, Int.cast_ofNat_Int, Int.natCast_one, Nat.reduceMod, Nat.reduceDiv, UInt8.reduceToNat, Nat.reduceLT, h3, h4, h10, hd, b1, Nat_mul_one, hk1, s1, ks, d1, w1, n1, n3]
      refine hB er _ cl rfl _ _ rfl h3 ?_ (by simp only; omega)
      simp only [Fw.look]
      rw [if_neg n3, if_neg n1]
      exact look_put_self hk1
    subst her
    rw [if_neg (by decide)] at hA hB
    have d1 : decide ((0 : Int) ≠ 0) = false := rfl
    rw [if_pos rfl] at ks
    by_cases hts : ts = []
    · have d2 : decide ((ts.length : Int) = 0) = true := by rw [hts]; rfl
      rw [if_pos hts] at hA hB ks
      simp (config := {contextual := true, implicitDefEqProofs := false, maxSteps := 4000000}) only [go_sem, ↓reduceIte, Bool.false_eq_true, Nat.reduceEqDiff, Nat.reduceAdd, Int.reduceLE, Int.reduceLT, Int.reduceEq, Int.reduceToNat, Int.toNat_natCast, Int.cast_ofNat_Int, Int.natCast_one, Nat.reduceMod, Nat.reduceDiv, UInt8.reduceToNat, Nat.reduceLT, h3, h4, h10, hd, b1, Nat_mul_one, hk1, s1, ks, d1, d2, w1, n1, n3]
      have hG2 := ((hG.alloc (.cells (some 54) [.int .i64 ind, .slice (encTs ts) ts.length .full, .bool hd2, .str com])).alloc (.cells (some 26) [.int .i64 0, .int .i64 0, .int .i64 cl]))
      refine l6 rows o hrl N Q n (i + 1) _ _ v w acc (by omega) (by omega) hdp ?_ htv hsh hsf ?_ (by simp only; omega) h3 h4 h6 h7 h8 h9 rfl hA hB
      · exact hG2.lowered (by first | omega | (simp only; omega)) (by first | omega | (simp only; omega))
      · simp only [Fw.look]
        rw [if_neg n3, if_neg n1]
        exact hk1
    · have d2 : decide ((ts.length : Int) = 0) = false := decide_eq_false (fun h => hts (List.eq_nil_of_length_eq_zero (by omega)))
      rw [if_neg hts] at hA hB
      have hp := hG.a.lenv
      have hq := hG.b.lenv
      obtain ⟨nl, hnl0⟩ : ∃ nl, nl = Line.mk (true, false) ts hd2 (true, false) [] ((i + 1 : Nat) : Int) := ⟨_, rfl⟩
      have hnl : encL nl = [.slice (encTs ts) ts.length .no, .bool hd2, .nilslice, .int .i64 ((i + 1 : Nat) : Int)] := by
        rw [hnl0, encL_eq]
        have : slt (true, false) ts.length (encTs ts) = .slice (encTs ts) ts.length .no := by
          unfold slt
          rw [if_neg (fun hh => hts (List.eq_nil_of_length_eq_zero hh.2))]; rfl
        simp only [Line.tn, Line.toks, Line.head, Line.kn, Line.kids, Line.pos]
        rw [this]; rfl
      have hnh : nl.head = hd2 := by rw [hnl0]; rfl
      rw [if_neg hts] at ks
      rw [← hnl0] at hA hB
      clear hnl0
      have hmin : min (min st.low st.next) (st.next + 1) = st.low := by omega
      have hmin2 : min st.low st.next = st.low := by omega
      have hmin3 : min st.low (st.next + 1) = st.low := by omega
      have hG2 := ((hG.alloc (.cells (some 54) [.int .i64 ind, .slice (encTs ts) ts.length .no, .bool hd2, .str com])).alloc (.cells (some 26) [.int .i64 0, .int .i64 0, .int .i64 cl]))
      have htl : 0 < ts.length := List.length_pos_iff.2 hts
      have b3 : (0 : Int) < (ts.length : Int) := by omega
      have s3 : sub (encTs ts) 3 1 = some [.int .i64 (ts.getD 0 noT).p] := by
        have := sub_tp htl
        rw [Nat.zero_mul, Nat.zero_add] at this
        rw [this]; simp [List.getD, htl]
      have kf := fun st K => c20 ind (lastD acc) (lastH acc) (by have := last_range hdp; omega) (by have := last_range hdp; omega) st K
      rw [fits_last hdp ind hir.1] at kf
      cases hf : fitsB ind acc with
      | false =>
        rw [hf] at kf hB
        rw [if_pos rfl] at hB
        simp (config := {contextual := true, implicitDefEqProofs := false, maxSteps := 4000000}) only [go_sem, ↓reduceIte, Bool.false_eq_true, Nat.reduceEqDiff, Nat.reduceAdd, Int.reduceLE, Int.reduceLT, Int.reduceEq, Int.reduceToNat, Int.toNat_natCast, Int.cast_ofNat_Int, Int.natCast_one, Nat.reduceMod, Nat.reduceDiv, UInt8.reduceToNat, Nat.reduceLT, h3, h4, h6, h7, h8, h9, h10, hd, b1, b3, s3, Nat_mul_one, hk1, s1, ks, d1, d2, w1, n1, n3, hmin, hmin2, hmin3, kf]
        refine hB 2 _ _ rfl _ _ rfl h3 ?_ (by simp only; omega)
        simp only [Fw.look]
        rw [if_neg n3, if_neg n1]
        exact look_put_self hk1
      | true =>
        rw [hf] at kf hA hB
        rw [if_neg (by decide)] at hA hB
        have hGL := hG2.lowered (l := st.next + 1 + 1) (by have := hG2.low; have := hG2.lown; simp only at *; omega) (Nat.le_refl _)
        obtain ⟨v', st', ap, G', lw, lwt, ps, tk, nx⟩ := hGL.app1 (bytes := 64) (k := 1) (y := .slice (encL nl) 1 .full) (new := encL nl) (by simp [cellsOf, encL_length]) rfl (encL_one _) (by rw [encL_length]) (Nat.le_trans (show (acc.length + 1) * 64 ≤ 10000000 by omega) (by decide))
        obtain ⟨kx, ky, kz⟩ := app_keeps hGL.a (bytes := 64) (m := 1) (y := .slice (encL nl) 1 .full) (new := encL nl) (by simp [cellsOf, encL_length]) rfl (encL_one _) (by rw [encL_length]) (Nat.le_trans (show (acc.length + 1) * 64 ≤ 10000000 by omega) (by decide)) ap
        have mv : decide (st'.next = st.next + 1 + 1 ∧ st'.low = st.next + 1 + 1) = false := app_moves hGL.a (G'.a) (tk (by decide)) (lwt (by decide)) kz
        rw [encL_strip, show encLs (acc.map Prod.fst) ++ encL nl = encLs ((acc ++ [(nl, ind)]).map Prod.fst) by rw [List.map_append, encLs_append]; simp [encLs]] at G'
        have hGM := G'.lowered (l := st'.next) (by have := G'.low; have := G'.lown; omega) (Nat.le_refl _)
        obtain ⟨w', st'', ap2, G'', lw2, lwt2, ps2, tk2, nx2⟩ := hGM.app2 (bytes := 8) (k := 1) (y := .slice [.int .i64 ind] 1 .full) (new := [.int .i64 ind]) (by simp [cellsOf]) rfl rfl rfl (Nat.le_trans (show (acc.length + 1) * 8 ≤ 10000000 by omega) (by decide))
        obtain ⟨kx2, ky2, kz2⟩ := app_keeps hGM.b (bytes := 8) (m := 1) (y := .slice [.int .i64 ind] 1 .full) (new := [.int .i64 ind]) (by simp [cellsOf]) rfl rfl rfl (Nat.le_trans (show (acc.length + 1) * 8 ≤ 10000000 by omega) (by decide)) ap2
        have mv2 : decide (st''.next = st'.next ∧ st''.low = st'.next) = false := app_moves hGM.b (G''.b) (tk2 (by decide)) (lwt2 (by decide)) kz2
        rw [show ([AV.int .i64 ind].map AV.strip) = [AV.int .i64 ind] from rfl, show encI (acc.map Prod.snd) ++ [AV.int .i64 ind] = encI ((acc ++ [(nl, ind)]).map Prod.snd) by rw [List.map_append, encI_append]; rfl] at G''
        have hl1 : (acc ++ [(nl, ind)]).length = acc.length + 1 := by simp
        rw [← hl1] at G''
        have ps3 : ∃ t, tokOf v' = some t := tk (by decide)
        have tkv : ∀ j, st.next ≤ j → tokOf v ≠ some j := fun j hj h => by have := hG.a.tok_lt h; omega
        have lkt : Fw.look st.next st'.heap = some (.cells (some 54) [.int .i64 ind, .slice (encTs ts) ts.length .no, .bool hd2, .str com]) := by
          rw [ky st.next (by simp only; omega) (tkv st.next (by omega))]
          simp [Fw.look]
        have oldl : ∀ j, j < N + 1 → Fw.look j st''.heap = Fw.look j st.heap := by
          intro j hj
          simp only at kx
          rw [ky2 j (by simp only; omega) (fun h => by have := htv.2 j h; omega), ky j (by simp only; omega) (fun h => by have := htv.1 j h; omega)]
          simp only [Fw.look]
          rw [if_neg (by omega), if_neg (by omega)]
        have hGN := G''.lowered (l := min (min st.low st'.low) st''.low) (by have := G''.low; have := G'.low; have := hG.low; omega) (by have := G''.lown; omega)
        rw [hnl] at ap
        simp (config := {contextual := true, implicitDefEqProofs := false, maxSteps := 4000000}) only [go_sem, ↓reduceIte, Bool.false_eq_true, Nat.reduceEqDiff, Nat.reduceAdd, Int.reduceLE, Int.reduceLT, Int.reduceEq, Int.reduceToNat, Int.toNat_natCast, Int.cast_ofNat_Int, Int.natCast_one, Nat.reduceMod, Nat.reduceDiv, UInt8.reduceToNat, Nat.reduceLT, h3, h4, h6, h7, h8, h9, h10, hd, b1, b3, s3, Nat_mul_one, hk1, s1, ks, d1, d2, w1, n1, n3, hmin, hmin2, hmin3, kf, ap, mv, lkt, ap2, mv2, free_wr]
        refine l6 rows o hrl N Q n (i + 1) _ _ v' w' (acc ++ [(nl, ind)]) (by omega) (by rw [hl1]; omega) ?_ hGN ⟨fun t h => by
          rcases kz t h with h | h
          · exact htv.1 t h
          · simp only at h; omega, fun t h => by
          rcases kz2 t h with h | h
          · exact htv.2 t h
          · simp only at kx h; omega⟩ (fun _ => ⟨ps3, tk2 (by decide)⟩) (fun h => by simp at h) (by simp only; rw [oldl _ (by omega)]; exact hk1) (by simp only at kx kx2 ⊢; omega) ?_ ?_ ?_ ?_ ?_ ?_ ?_ hA hB
        · intro z hz
          rcases List.mem_append.1 hz with hz | hz
          · exact hdp z hz
          · simp only [List.mem_singleton] at hz
            subst hz
            exact hir
        · exact h3
        · exact h4
        · rfl
        · rfl
        · rw [lastD_snoc]; rfl
        · rw [lastH_snoc, hnh]; rfl
        · rfl
end T18
