/- Parts of the proof, one behind the other. -/
import Derived.Test.YteaoeaapmjeciaaDoorK08t
import Derived.Test.YteaoeaapmjeciaaDoorK08aw
set_option linter.unusedSimpArgs false
set_option linter.unusedVariables false
/- Flat, Locate: plain, and the program's. -/
namespace T08
open Go Fw Go.Proofs
set_option maxRecDepth 100000
set_option maxHeartbeats 4000000
set_option linter.unusedSimpArgs false
set_option linter.unusedVariables false
def encI (l : List Int) : List AV := l.map (AV.int .i64)
theorem encI_length (l : List Int) : (encI l).length = l.length := by simp [encI]
theorem encI_al : ∀ l : List Int, alAll (fun _ => false) (encI l) = true
  | [] => rfl
  | a :: l => by simp only [encI, List.map_cons, alAll, AV.al, Bool.true_and]; exact encI_al l
theorem encI_one : ∀ l : List Int, (encI l).all AV.one = true
  | [] => rfl
  | a :: l => by simp only [encI, List.map_cons, List.all_cons, AV.one, Bool.true_and]; exact encI_one l
theorem encI_strip : ∀ l : List Int, (encI l).map AV.strip = encI l
  | [] => rfl
  | a :: l => by simp only [encI, List.map_cons, AV.strip]; exact congrArg _ (encI_strip l)
theorem sub_int {l : List Int} {i : Nat} (h : i < l.length) : sub (encI l) i 1 = some [.int .i64 l[i]] := by
  rw [sub_one (by simpa [encI] using h)]; simp [encI, List.getD, h]
theorem l13 (b1 b2 : TN) (us vs : List Int) (hlen : us.length = vs.length) (hl : us.length ≤ 4611686018427387904) (st : St) (Q : Sig → FE → St → Prop) : ∀ (n i : Nat) (e : FE), i + n = us.length → e 0 = slt b1 us.length (encI us) → e 1 = slt b2 us.length (encI vs) → e 5 = .int .i64 (i : Int) →
    (us.drop i = vs.drop i → ∀ e', Q (.exit 0) e' st) → (us.drop i ≠ vs.drop i → ∀ e', e' 4 = .bool false → Q .ret e' st) → WLoop cx ir13L0 e st Q
  | 0, i, e, hi, h0, h1, h5, hA, hB => by
    refine WLoop.rnd (c := _) ir13L0.eq_1 ?_
    have hd : decide ((i : Int) < (us.length : Int)) = false := decide_eq_false (by omega)
    rw [List.drop_eq_nil_of_le (by omega), List.drop_eq_nil_of_le (by omega)] at hA
    simp (config := {contextual := true, implicitDefEqProofs := false, maxSteps := 4000000}) only [go_sem, ↓reduceIte, Bool.false_eq_true, Nat.reduceEqDiff, Nat.reduceAdd, Int.reduceLE, Int.reduceLT, Int.reduceEq, Int.reduceToNat, Int.toNat_natCast, Int.cast_ofNat_Int, Int.natCast_one, Nat.reduceMod, Nat.reduceDiv, UInt8.reduceToNat, Nat.reduceLT, h0, h1, h5, hd]
    exact hA rfl _
  | n + 1, i, e, hi, h0, h1, h5, hA, hB => by
    refine WLoop.rnd (c := _) ir13L0.eq_1 ?_
    have hd : decide ((i : Int) < (us.length : Int)) = true := decide_eq_true (by omega)
    have hin : (0 : Int) ≤ (i : Int) ∧ (i : Int) < (us.length : Int) := by omega
    have hlt : i < us.length := by omega
    have hlt2 : i < vs.length := by omega
    have hw := wrap_one (i := i) (by omega)
    have sA := sub_int hlt
    have sB := sub_int hlt2
    rw [List.drop_eq_getElem_cons hlt, List.drop_eq_getElem_cons hlt2] at hA hB
    by_cases hx : us[i] = vs[i]
    · have d1 : decide (us[i] ≠ vs[i]) = false := by simp [hx]
      simp (config := {contextual := true, implicitDefEqProofs := false, maxSteps := 4000000}) only [go_sem, ↓reduceIte, Bool.false_eq_true, Nat.reduceEqDiff, Nat.reduceAdd, Int.reduceLE, Int.reduceLT, Int.reduceEq, Int.reduceToNat, Int.toNat_natCast, Int.cast_ofNat_Int, Int.natCast_one, Nat.reduceMod, Nat.reduceDiv, UInt8.reduceToNat, Nat.reduceLT, h0, h1, h5, hd, hin, Nat_mul_one, sA, sB, hw, d1]
      exact l13 b1 b2 us vs hlen hl st Q n (i + 1) _ (by omega) h0 h1 rfl (fun h e' => hA (by rw [h, hx]) e') (fun h e' h4 => hB (fun h2 => h (by injection h2)) e' h4)
    · have d1 : decide (us[i] ≠ vs[i]) = true := by simp [hx]
      simp (config := {contextual := true, implicitDefEqProofs := false, maxSteps := 4000000}) only [go_sem, ↓reduceIte, Bool.false_eq_true, Nat.reduceEqDiff, Nat.reduceAdd, Int.reduceLE, Int.reduceLT, Int.reduceEq, Int.reduceToNat, Int.toNat_natCast, Int.cast_ofNat_Int, Int.natCast_one, Nat.reduceMod, Nat.reduceDiv, UInt8.reduceToNat, Nat.reduceLT, h0, h1, h5, hd, hin, Nat_mul_one, sA, sB, hw, d1]
      exact hB (fun h2 => hx (by injection h2)) _ rfl
theorem c13 (b1 b2 : TN) (us vs : List Int) (hl : us.length ≤ 4611686018427387904) (s : St) (K : AV → St → Prop) : CallW cx 13 [slt b1 us.length (encI us), slt b2 vs.length (encI vs)] s K = K (.bool (decide (us = vs))) s := by
  refine CallW.eq (CallW.fn' (fn := ir13) rfl rfl (by kernel_rfl) ir13.eq_1 ?_) K
  by_cases hlen : us.length = vs.length
  · have hx : decide ((vs.length : Int) ≠ (vs.length : Int)) = false := by simp
    simp (config := {contextual := true, implicitDefEqProofs := false, maxSteps := 4000000}) only [go_sem, ↓reduceIte, Bool.false_eq_true, Nat.reduceEqDiff, Nat.reduceAdd, Int.reduceLE, Int.reduceLT, Int.reduceEq, Int.reduceToNat, Int.toNat_natCast, Int.cast_ofNat_Int, Int.natCast_one, Nat.reduceMod, Nat.reduceDiv, UInt8.reduceToNat, Nat.reduceLT, hx, hlen]
    rw [← hlen]
    refine l13 b1 b2 us vs hlen hl _ _ us.length 0 _ (by omega) rfl rfl rfl ?_ ?_
    · intro h e'
      rw [List.drop_zero, List.drop_zero] at h
      have h2 : decide (us = vs) = true := decide_eq_true h
      simp (config := {contextual := true, implicitDefEqProofs := false, maxSteps := 4000000}) only [go_sem, ↓reduceIte, Bool.false_eq_true, Nat.reduceEqDiff, Nat.reduceAdd, Int.reduceLE, Int.reduceLT, Int.reduceEq, Int.reduceToNat, Int.toNat_natCast, Int.cast_ofNat_Int, Int.natCast_one, Nat.reduceMod, Nat.reduceDiv, UInt8.reduceToNat, Nat.reduceLT, h2]
    · intro h e' h4
      rw [List.drop_zero, List.drop_zero] at h
      have h2 : decide (us = vs) = false := decide_eq_false h
      simp (config := {contextual := true, implicitDefEqProofs := false, maxSteps := 4000000}) only [go_sem, ↓reduceIte, Bool.false_eq_true, Nat.reduceEqDiff, Nat.reduceAdd, Int.reduceLE, Int.reduceLT, Int.reduceEq, Int.reduceToNat, Int.toNat_natCast, Int.cast_ofNat_Int, Int.natCast_one, Nat.reduceMod, Nat.reduceDiv, UInt8.reduceToNat, Nat.reduceLT, h2, h4]
  · have hx : decide ((us.length : Int) ≠ (vs.length : Int)) = true := decide_eq_true (by omega)
    have h2 : decide (us = vs) = false := decide_eq_false (fun e => hlen (by rw [e]))
    simp (config := {contextual := true, implicitDefEqProofs := false, maxSteps := 4000000}) only [go_sem, ↓reduceIte, Bool.false_eq_true, Nat.reduceEqDiff, Nat.reduceAdd, Int.reduceLE, Int.reduceLT, Int.reduceEq, Int.reduceToNat, Int.toNat_natCast, Int.cast_ofNat_Int, Int.natCast_one, Nat.reduceMod, Nat.reduceDiv, UInt8.reduceToNat, Nat.reduceLT, hx, h2]
/- the way to a line -/
mutual
def wayL (x : Int) : Line → Option (List Int)
  | .mk _ _ _ _ k pos => if pos = x then some [] else wayLs x k 0
def wayLs (x : Int) : List Line → Nat → Option (List Int)
  | [], _ => none
  | l :: ls, i => match wayL x l with
    | some r => some ((i : Int) :: r)
    | none => wayLs x ls (i + 1)
end
theorem wayL_eq (x : Int) (l : Line) : wayL x l = if l.pos = x then some [] else wayLs x l.kids 0 := by cases l; simp only [wayL, Line.pos, Line.kids]; rfl
def wayV : Option (List Int) → List AV
  | none => [.nilslice, .bool false]
  | some r => [.slice (encI r) r.length (ow (decide (r.length = 1))), .bool true]
theorem way_len (x : Int) : ∀ (ls : List Line) (i : Nat) (r : List Int), wayLs x ls i = some r → 1 ≤ r.length ∧ r.length ≤ cntLs ls := by
  refine lines_ind fun ls ih => ?_
  induction ls with
  | nil => intro i r h; simp [wayLs] at h
  | cons l ls ih2 =>
    intro i r h
    simp only [wayLs, wayL_eq] at h
    simp only [cntLs, cntL_eq]
    by_cases hp : l.pos = x
    · rw [if_pos hp] at h
      simp only [Option.some.injEq] at h
      subst h; simp; omega
    · rw [if_neg hp] at h
      cases hk : wayLs x l.kids 0 with
      | some q =>
        rw [hk] at h
        simp only [Option.some.injEq] at h
        subst h
        have := ih l (by simp) 0 q hk
        simp; omega
      | none =>
        rw [hk] at h
        have := ih2 (fun y hy => ih y (by simp [hy])) (i + 1) r h
        omega
theorem slice_ow (cs : List AV) (n : Nat) (b : Bool) : AV.slice cs n (ow b) = slt (false, b) n cs := by simp [slt]
theorem ldr : ∀ (cs : List AV) (n t e : Nat), (AV.slice cs n (.tok t e)).dr = .slice cs n .no := fun _ _ _ _ => rfl
theorem app_full1 (st : St) (ty bytes : Nat) (a : Int) (r : List Int) (b : Bool) (h : r ≠ []) (hr : (1 + r.length) * bytes ≤ room) : appendA st ty 1 bytes (.slice [.int .i64 a] 1 .full) (.slice (encI r) r.length (ow b)) = some (.slice (encI (a :: r)) (r.length + 1) (.tok st.next (r.length + 1)), { heap := (st.next, .tok ty (r.length + 1) 1) :: st.heap, next := st.next + 1, low := st.low }) := by
  have h0 : r.length ≠ 0 := fun e => h (List.length_eq_zero_iff.1 e)
  unfold appendA
  simp only [cellsOf, AV.count, encI_length, Nat.mul_one, if_true, encI_one, Bool.true_eq_false, if_false, h0, List.length_cons, List.length_nil, Nat.zero_add, hr, encI_strip, St.new]
  rw [Nat.add_comm 1 r.length]
  rfl
theorem leave_way {s s' : St} (r : List Int) (t : Nat) (ht : s.next ≤ t) (hl : s.next ≤ s'.low) (K : AV → St → Prop) : LeaveW s s' (.tuple [.slice (encI r) r.length (.tok t r.length), .bool true]) K = K (.tuple [.slice (encI r) r.length .no, .bool true]) s := by
  rw [LeaveW_tfree (by simp [AV.free, Own.free, ht, encI_al, AV.al]) hl]; rfl
theorem leave_way1 {s s' : St} (i : Int) (hl : s.next ≤ s'.low) (K : AV → St → Prop) : LeaveW s s' (.tuple [.slice [.int .i64 i] 1 .full, .bool true]) K = K (.tuple [.slice [.int .i64 i] 1 .full, .bool true]) s := by
  rw [LeaveW_tfree (by simp [AV.free, Own.free, AV.al, alAll]) hl]; rfl
theorem wayV_some (r : List Int) : wayV (some r) = [.slice (encI r) r.length (ow (decide (r.length = 1))), .bool true] := rfl
theorem l15 (x : Int) (b : TN) (ls : List Line) (hcnt : cntLs ls ≤ 1000) (hc : ∀ l ∈ ls, ∀ (s : St) (K : AV → St → Prop), CallW cx 15 [slt l.kn l.kids.length (encLs l.kids), .int .i64 x] s K = K (.tuple (wayV (wayLs x l.kids 0))) s)
    (s0 st : St) (hL : s0.next ≤ st.low) (hN : s0.next ≤ st.next) (Q : Sig → FE → St → Prop) : ∀ (n i : Nat) (e : FE), i + n = ls.length → e 0 = slt b ls.length (encLs ls) → e 1 = .int .i64 x → e 6 = .int .i64 (i : Int) →
    (wayLs x (ls.drop i) i = none → ∀ e', Q (.exit 0) e' st) →
    (∀ r, wayLs x (ls.drop i) i = some r → ∀ e' st' v, (∀ K, LeaveW s0 st' (.tuple [v, .bool true]) K = K (.tuple (wayV (some r))) s0) → e' 4 = v → e' 5 = .bool true → Q .ret e' st') → WLoop cx ir15L0 e st Q
  | 0, i, e, hi, h0, h1, h6, hA, hB => by
    refine WLoop.rnd (c := _) ir15L0.eq_1 ?_
    have hd : decide ((i : Int) < (ls.length : Int)) = false := decide_eq_false (by omega)
    rw [List.drop_eq_nil_of_le (by omega)] at hA
    simp (config := {contextual := true, implicitDefEqProofs := false, maxSteps := 4000000}) only [go_sem, ↓reduceIte, Bool.false_eq_true, Nat.reduceEqDiff, Nat.reduceAdd, Int.reduceLE, Int.reduceLT, Int.reduceEq, Int.reduceToNat, Int.toNat_natCast, Int.cast_ofNat_Int, Int.natCast_one, Nat.reduceMod, Nat.reduceDiv, UInt8.reduceToNat, Nat.reduceLT, h0, h1, h6, hd]
    exact hA (by simp only [wayLs]) _
  | n + 1, i, e, hi, h0, h1, h6, hA, hB => by
    refine WLoop.rnd (c := _) ir15L0.eq_1 ?_
    have hlc := len_cnt ls
    have hd : decide ((i : Int) < (ls.length : Int)) = true := decide_eq_true (by omega)
    have hin : (0 : Int) ≤ (i : Int) ∧ (i : Int) < (ls.length : Int) := by omega
    have hlt : i < ls.length := by omega
    have hw := wrap_one (i := i) (by omega)
    rw [List.drop_eq_getElem_cons hlt] at hA hB
    simp only [wayLs, wayL_eq] at hA hB
    have s2 := sub_lkids hlt
    have s3 := sub_lpos hlt
    have k := hc ls[i] (List.getElem_mem hlt)
    have hcm := cnt_mem ls[i] (List.getElem_mem hlt)
    rw [cntL_eq] at hcm
    have hwl := way_len x ls[i].kids 0
    obtain ⟨a, ha⟩ : ∃ a, ls[i] = a := ⟨_, rfl⟩
    rw [ha] at hA hB s2 s3 k hcm hwl
    by_cases hp : a.pos = x
    · have d1 : decide (a.pos = x) = true := decide_eq_true hp
      rw [if_pos hp] at hB
      simp (config := {contextual := true, implicitDefEqProofs := false, maxSteps := 4000000}) only [go_sem, ↓reduceIte, Bool.false_eq_true, Nat.reduceEqDiff, Nat.reduceAdd, Int.reduceLE, Int.reduceLT, Int.reduceEq, Int.reduceToNat, Int.toNat_natCast, Int.cast_ofNat_Int, Int.natCast_one, Nat.reduceMod, Nat.reduceDiv, UInt8.reduceToNat, Nat.reduceLT, h0, h1, h6, hd, hin, s3, d1]
      exact hB [(i : Int)] rfl _ _ (.slice [.int .i64 (i : Int)] 1 .full) (fun K => leave_way1 _ hL K) rfl rfl
    · have d1 : decide (a.pos = x) = false := decide_eq_false hp
      rw [if_neg hp] at hA hB
      cases hk : wayLs x a.kids 0 with
      | none =>
        rw [hk] at hA hB k
        simp only [wayV] at k
        simp (config := {contextual := true, implicitDefEqProofs := false, maxSteps := 4000000}) only [go_sem, ↓reduceIte, Bool.false_eq_true, Nat.reduceEqDiff, Nat.reduceAdd, Int.reduceLE, Int.reduceLT, Int.reduceEq, Int.reduceToNat, Int.toNat_natCast, Int.cast_ofNat_Int, Int.natCast_one, Nat.reduceMod, Nat.reduceDiv, UInt8.reduceToNat, Nat.reduceLT, h0, h1, h6, hd, hin, s2, s3, d1, k, hw]
        exact l15 x b ls hcnt hc s0 st hL hN Q n (i + 1) _ (by omega) h0 h1 rfl hA hB
      | some r =>
        rw [hk] at hB k
        simp only [wayV] at k
        have hr := hwl r hk
        have happ := fun st bb => app_full1 st 3 8 (i : Int) r bb (fun e => by rw [e] at hr; simp at hr) (Nat.le_trans (show (1 + r.length) * 8 ≤ 16000 by omega) (by decide))
        simp (config := {contextual := true, implicitDefEqProofs := false, maxSteps := 4000000}) only [go_sem, ↓reduceIte, Bool.false_eq_true, Nat.reduceEqDiff, Nat.reduceAdd, Int.reduceLE, Int.reduceLT, Int.reduceEq, Int.reduceToNat, Int.toNat_natCast, Int.cast_ofNat_Int, Int.natCast_one, Nat.reduceMod, Nat.reduceDiv, UInt8.reduceToNat, Nat.reduceLT, h0, h1, h6, hd, hin, s2, s3, d1, k, happ]
        exact hB ((i : Int) :: r) rfl _ _ (.slice (encI ((i : Int) :: r)) (r.length + 1) (.tok st.next (r.length + 1))) (fun K => by
          have hne : decide (((i : Int) :: r).length = 1) = false := decide_eq_false (by rw [List.length_cons]; omega)
          rw [wayV_some, hne]
          exact leave_way (s' := { heap := (st.next, .tok 3 (r.length + 1) 1) :: st.heap, next := st.next + 1, low := st.low }) ((i : Int) :: r) st.next hN hL K) rfl rfl
theorem c15 (x : Int) : ∀ (ls : List Line), cntLs ls ≤ 1000 → ∀ (b : TN) (s : St) (K : AV → St → Prop), CallW cx 15 [slt b ls.length (encLs ls), .int .i64 x] s K = K (.tuple (wayV (wayLs x ls 0))) s := by
  refine lines_ind fun ls ih => ?_
  intro hcnt b s K
  refine CallW.eq (CallW.fn' (fn := ir15) rfl rfl (by kernel_rfl) ir15.eq_1 ?_) K
  simp (config := {contextual := true, implicitDefEqProofs := false, maxSteps := 4000000}) only [go_sem, ↓reduceIte, Bool.false_eq_true, Nat.reduceEqDiff, Nat.reduceAdd, Int.reduceLE, Int.reduceLT, Int.reduceEq, Int.reduceToNat, Int.toNat_natCast, Int.cast_ofNat_Int, Int.natCast_one, Nat.reduceMod, Nat.reduceDiv, UInt8.reduceToNat, Nat.reduceLT]
  refine l15 x b ls hcnt (fun l hl s K => ih l hl (by have := cnt_mem l hl; rw [cntL_eq] at this; omega) l.kn s K) s { heap := s.heap, next := s.next, low := s.next } (Nat.le_refl _) (Nat.le_refl _) _ ls.length 0 _ (by omega) rfl rfl rfl ?_ ?_
  · intro h e'
    rw [List.drop_zero] at h
    simp (config := {contextual := true, implicitDefEqProofs := false, maxSteps := 4000000}) only [go_sem, ↓reduceIte, Bool.false_eq_true, Nat.reduceEqDiff, Nat.reduceAdd, Int.reduceLE, Int.reduceLT, Int.reduceEq, Int.reduceToNat, Int.toNat_natCast, Int.cast_ofNat_Int, Int.natCast_one, Nat.reduceMod, Nat.reduceDiv, UInt8.reduceToNat, Nat.reduceLT, h, wayV]
  · intro r h e' st' v hv h4 h5
    rw [List.drop_zero] at h
    simp (config := {contextual := true, implicitDefEqProofs := false, maxSteps := 4000000}) only [go_sem, ↓reduceIte, Bool.false_eq_true, Nat.reduceEqDiff, Nat.reduceAdd, Int.reduceLE, Int.reduceLT, Int.reduceEq, Int.reduceToNat, Int.toNat_natCast, Int.cast_ofNat_Int, Int.natCast_one, Nat.reduceMod, Nat.reduceDiv, UInt8.reduceToNat, Nat.reduceLT, h, h4, h5, hv]
end T08

/- Locate; ParserLocates answers true. -/
namespace T08
open Go Fw Go.Proofs
set_option maxRecDepth 100000
set_option maxHeartbeats 4000000
set_option linter.unusedSimpArgs false
set_option linter.unusedVariables false
theorem l26 (x : Int) (b : TN) (ls : List Line) (hcnt : cntLs ls ≤ 1000) (hc : ∀ l ∈ ls, ∀ (s : St) (K : AV → St → Prop), CallW cx 26 [slt l.kn l.kids.length (encLs l.kids), .int .i64 x] s K = K (.tuple (wayV (wayLs x l.kids 0))) s)
    (s0 : St) (Q : Sig → FE → St → Prop) : ∀ (n i : Nat) (e : FE) (st : St), i + n = ls.length → st.low = s0.next → s0.next ≤ st.next → e 10 = slt b ls.length (encLs ls) → e 11 = .int .i64 (ls.length : Int) → e 1 = .int .i64 x → e 12 = .int .i64 (i : Int) →
    (wayLs x (ls.drop i) i = none → ∀ e' st', st'.low = s0.next → Q (.exit 0) e' st') →
    (∀ r, wayLs x (ls.drop i) i = some r → ∀ e' st' v, (∀ K, LeaveW s0 st' (.tuple [v, .bool true]) K = K (.tuple (wayV (some r))) s0) → e' 4 = v → e' 5 = .bool true → Q .ret e' st') → WLoop cx ir26L0 e st Q
  | 0, i, e, st, hi, hL, hN, h0, h11, h1, h6, hA, hB => by
    refine WLoop.rnd (c := _) ir26L0.eq_1 ?_
    have hd : decide ((i : Int) < (ls.length : Int)) = false := decide_eq_false (by omega)
    rw [List.drop_eq_nil_of_le (by omega)] at hA
    simp (config := {contextual := true, implicitDefEqProofs := false, maxSteps := 4000000}) only [go_sem, ↓reduceIte, Bool.false_eq_true, Nat.reduceEqDiff, Nat.reduceAdd, Int.reduceLE, Int.reduceLT, Int.reduceEq, Int.reduceToNat, Int.toNat_natCast, Int.cast_ofNat_Int, Int.natCast_one, Nat.reduceMod, Nat.reduceDiv, UInt8.reduceToNat, Nat.reduceLT, h0, h11, h1, h6, hd]
    exact hA (by simp only [wayLs]) _ _ hL
  | n + 1, i, e, st, hi, hL, hN, h0, h11, h1, h6, hA, hB => by
    refine WLoop.rnd (c := _) ir26L0.eq_1 ?_
    have hlc := len_cnt ls
    have hd : decide ((i : Int) < (ls.length : Int)) = true := decide_eq_true (by omega)
    have hin : (0 : Int) ≤ (i : Int) ∧ (i : Int) < (ls.length : Int) := by omega
    have hlt : i < ls.length := by omega
    have hw := wrap_one (i := i) (by omega)
    have hmin : min st.low st.next = st.low := by omega
    rw [List.drop_eq_getElem_cons hlt] at hA hB
    simp only [wayLs, wayL_eq] at hA hB
    have s2 := sub_line hlt
    have k := hc ls[i] (List.getElem_mem hlt)
    have hcm := cnt_mem ls[i] (List.getElem_mem hlt)
    rw [cntL_eq] at hcm
    have hwl := way_len x ls[i].kids 0
    obtain ⟨a, ha⟩ : ∃ a, ls[i] = a := ⟨_, rfl⟩
    rw [ha] at hA hB s2 k hcm hwl
    by_cases hp : a.pos = x
    · have d1 : decide (a.pos = x) = true := decide_eq_true hp
      rw [if_pos hp] at hB
      simp (config := {contextual := true, implicitDefEqProofs := false, maxSteps := 4000000}) only [go_sem, ↓reduceIte, Bool.false_eq_true, Nat.reduceEqDiff, Nat.reduceAdd, Int.reduceLE, Int.reduceLT, Int.reduceEq, Int.reduceToNat, Int.toNat_natCast, Int.cast_ofNat_Int, Int.natCast_one, Nat.reduceMod, Nat.reduceDiv, UInt8.reduceToNat, Nat.reduceLT, h0, h11, h1, h6, hd, hin, s2, d1, hmin]
      exact hB [(i : Int)] rfl _ _ (.slice [.int .i64 (i : Int)] 1 .full) (fun K => leave_way1 _ (by simp only; omega) K) rfl rfl
    · have d1 : decide (a.pos = x) = false := decide_eq_false hp
      rw [if_neg hp] at hA hB
      cases hk : wayLs x a.kids 0 with
      | none =>
        rw [hk] at hA hB k
        simp only [wayV] at k
        simp (config := {contextual := true, implicitDefEqProofs := false, maxSteps := 4000000}) only [go_sem, ↓reduceIte, Bool.false_eq_true, Nat.reduceEqDiff, Nat.reduceAdd, Int.reduceLE, Int.reduceLT, Int.reduceEq, Int.reduceToNat, Int.toNat_natCast, Int.cast_ofNat_Int, Int.natCast_one, Nat.reduceMod, Nat.reduceDiv, UInt8.reduceToNat, Nat.reduceLT, h0, h11, h1, h6, hd, hin, s2, d1, hmin, k, hw]
        exact l26 x b ls hcnt hc s0 Q n (i + 1) _ _ (by omega) hL (by simp only; omega) h0 h11 h1 rfl hA hB
      | some r =>
        rw [hk] at hB k
        simp only [wayV] at k
        have hr := hwl r hk
        have happ := fun st bb => app_full1 st 3 8 (i : Int) r bb (fun e => by rw [e] at hr; simp at hr) (Nat.le_trans (show (1 + r.length) * 8 ≤ 16000 by omega) (by decide))
        simp (config := {contextual := true, implicitDefEqProofs := false, maxSteps := 4000000}) only [go_sem, ↓reduceIte, Bool.false_eq_true, Nat.reduceEqDiff, Nat.reduceAdd, Int.reduceLE, Int.reduceLT, Int.reduceEq, Int.reduceToNat, Int.toNat_natCast, Int.cast_ofNat_Int, Int.natCast_one, Nat.reduceMod, Nat.reduceDiv, UInt8.reduceToNat, Nat.reduceLT, h0, h11, h1, h6, hd, hin, s2, d1, hmin, k, happ]
        exact hB ((i : Int) :: r) rfl _ _ (.slice (encI ((i : Int) :: r)) (r.length + 1) (.tok (st.next + 1) (r.length + 1))) (fun K => by
          have hne : decide (((i : Int) :: r).length = 1) = false := decide_eq_false (by rw [List.length_cons]; omega)
          rw [wayV_some, hne]
          exact leave_way ((i : Int) :: r) (st.next + 1) (by omega) (by simp only; omega) K) rfl rfl
theorem c26 (x : Int) : ∀ (ls : List Line), cntLs ls ≤ 1000 → ∀ (b : TN) (s : St) (K : AV → St → Prop), CallW cx 26 [slt b ls.length (encLs ls), .int .i64 x] s K = K (.tuple (wayV (wayLs x ls 0))) s := by
  refine lines_ind fun ls ih => ?_
  intro hcnt b s K
  refine CallW.eq (CallW.fn' (fn := ir26) rfl rfl (by kernel_rfl) ir26.eq_1 ?_) K
  simp (config := {contextual := true, implicitDefEqProofs := false, maxSteps := 4000000}) only [go_sem, ↓reduceIte, Bool.false_eq_true, Nat.reduceEqDiff, Nat.reduceAdd, Int.reduceLE, Int.reduceLT, Int.reduceEq, Int.reduceToNat, Int.toNat_natCast, Int.cast_ofNat_Int, Int.natCast_one, Nat.reduceMod, Nat.reduceDiv, UInt8.reduceToNat, Nat.reduceLT]
  refine l26 x b ls hcnt (fun l hl s K => ih l hl (by have := cnt_mem l hl; rw [cntL_eq] at this; omega) l.kn s K) s _ ls.length 0 _ { heap := s.heap, next := s.next, low := s.next } (by omega) rfl (Nat.le_refl _) rfl rfl rfl rfl ?_ ?_
  · intro h e' st' hL
    rw [List.drop_zero] at h
    simp (config := {contextual := true, implicitDefEqProofs := false, maxSteps := 4000000}) only [go_sem, ↓reduceIte, Bool.false_eq_true, Nat.reduceEqDiff, Nat.reduceAdd, Int.reduceLE, Int.reduceLT, Int.reduceEq, Int.reduceToNat, Int.toNat_natCast, Int.cast_ofNat_Int, Int.natCast_one, Nat.reduceMod, Nat.reduceDiv, UInt8.reduceToNat, Nat.reduceLT, h, wayV, hL]
  · intro r h e' st' v hv h4 h5
    rw [List.drop_zero] at h
    simp (config := {contextual := true, implicitDefEqProofs := false, maxSteps := 4000000}) only [go_sem, ↓reduceIte, Bool.false_eq_true, Nat.reduceEqDiff, Nat.reduceAdd, Int.reduceLE, Int.reduceLT, Int.reduceEq, Int.reduceToNat, Int.toNat_natCast, Int.cast_ofNat_Int, Int.natCast_one, Nat.reduceMod, Nat.reduceDiv, UInt8.reduceToNat, Nat.reduceLT, h, h4, h5, hv]
theorem al_enc (r : List Int) (b : Bool) : (AV.slice (encI r) r.length (ow b)).al (fun _ => false) = true := by cases b <;> simp [ow, AV.al, Own.al, encI_al]
theorem free_enc (r : List Int) (b : Bool) (L : Nat) : (AV.slice (encI r) r.length (ow b)).free L = true := by cases b <;> simp [ow, AV.free, Own.free, encI_al]
theorem dr_enc (r : List Int) (b : Bool) : (AV.slice (encI r) r.length (ow b)).dr = AV.slice (encI r) r.length (ow b) := by cases b <;> rfl
theorem leave_enc {s s' : St} (r : List Int) (b : Bool) (n : Int) (hl : s.next ≤ s'.low) (K : AV → St → Prop) : LeaveW s s' (.tuple [.slice (encI r) r.length (ow b), .int .i64 n]) K = K (.tuple [.slice (encI r) r.length (ow b), .int .i64 n]) s := by
  rw [LeaveW_tfree (by simp only [List.all_cons, List.all_nil, free_enc, Bool.and_true]; rfl) hl]
  simp only [List.map_cons, List.map_nil, dr_enc]; rfl
theorem c14 (x : Int) (ls : List Line) (hcnt : cntLs ls ≤ 1000) (b : TN) (s : St) (K : AV → St → Prop) : CallW cx 14 [slt b ls.length (encLs ls), .int .i64 x] s K =
    K (.tuple (match wayLs x ls 0 with | none => [.nilslice, .int .i64 9] | some r => [.slice (encI r) r.length (ow (decide (r.length = 1))), .int .i64 0])) s := by
  refine CallW.eq (CallW.fn' (fn := ir14) rfl rfl (by kernel_rfl) ir14.eq_1 ?_) K
  have k := c26 x ls hcnt
  cases h : wayLs x ls 0 with
  | none =>
    rw [h] at k
    simp only [wayV] at k
    simp (config := {contextual := true, implicitDefEqProofs := false, maxSteps := 4000000}) only [go_sem, ↓reduceIte, Bool.false_eq_true, Nat.reduceEqDiff, Nat.reduceAdd, Int.reduceLE, Int.reduceLT, Int.reduceEq, Int.reduceToNat, Int.toNat_natCast, Int.cast_ofNat_Int, Int.natCast_one, Nat.reduceMod, Nat.reduceDiv, UInt8.reduceToNat, Nat.reduceLT, k]
  | some r =>
    rw [h] at k
    simp only [wayV] at k
    simp (config := {contextual := true, implicitDefEqProofs := false, maxSteps := 4000000}) only [go_sem, ↓reduceIte, Bool.false_eq_true, Nat.reduceEqDiff, Nat.reduceAdd, Int.reduceLE, Int.reduceLT, Int.reduceEq, Int.reduceToNat, Int.toNat_natCast, Int.cast_ofNat_Int, Int.natCast_one, Nat.reduceMod, Nat.reduceDiv, UInt8.reduceToNat, Nat.reduceLT, k, leave_enc]
theorem c9z (h : List (Nat × AObj)) (l : Nat) (K : AV → St → Prop) : CallW cx 9 [] { heap := h, next := 0, low := l } K = K (.bool true) { heap := h, next := 0, low := l } :=
  CallW.eq ⟨1000, _, _, awake_run0 h l, rfl, rfl⟩ K
theorem law4 (x : Int) (b : Bool) (ls : List Line) : CallW cx 4 [slt (b, false) ls.length (encLs ls), .int .i64 x] { heap := [], next := 0, low := 0 } fun v _ => v = .bool true := by
  refine CallW.fn' (fn := ir4) rfl rfl (by kernel_rfl) ir4.eq_1 ?_
  have ks := fun st K => c8 (b, false) ls st K
  cases hs : small ls with
  | false =>
    rw [hs] at ks
    simp (config := {contextual := true, implicitDefEqProofs := false, maxSteps := 4000000}) only [go_sem, ↓reduceIte, Bool.false_eq_true, Nat.reduceEqDiff, Nat.reduceAdd, Int.reduceLE, Int.reduceLT, Int.reduceEq, Int.reduceToNat, Int.toNat_natCast, Int.cast_ofNat_Int, Int.natCast_one, Nat.reduceMod, Nat.reduceDiv, UInt8.reduceToNat, Nat.reduceLT, ks, c9z]
  | true =>
    obtain ⟨hf, hc⟩ := small_few hs
    rw [hs] at ks
    have k1 := fun st K => c14 x ls (by omega) (b, false) st K
    have k2 := fun st K => c15 x ls (by omega) (b, false) st K
    cases h : wayLs x ls 0 with
    | none =>
      rw [h] at k1 k2
      simp only [wayV] at k2
      have k3 := fun st K => c13 (true, false) (true, false) [] [] (by simp) st K
      simp only [List.length_nil, slt_nil, decide_true] at k3
      simp (config := {contextual := true, implicitDefEqProofs := false, maxSteps := 4000000}) only [go_sem, ↓reduceIte, Bool.false_eq_true, Nat.reduceEqDiff, Nat.reduceAdd, Int.reduceLE, Int.reduceLT, Int.reduceEq, Int.reduceToNat, Int.toNat_natCast, Int.cast_ofNat_Int, Int.natCast_one, Nat.reduceMod, Nat.reduceDiv, UInt8.reduceToNat, Nat.reduceLT, ks, k1, k2, k3, c9z, show (true == true) = true from rfl, show (false == false) = true from rfl]
    | some r =>
      have hr := way_len x ls 0 r h
      rw [h] at k1 k2
      simp only [wayV, slice_ow] at k1 k2
      have k3 := fun st K => c13 (false, decide (r.length = 1)) (false, decide (r.length = 1)) r r (by omega) st K
      simp only [decide_true] at k3
      simp (config := {contextual := true, implicitDefEqProofs := false, maxSteps := 4000000}) only [go_sem, ↓reduceIte, Bool.false_eq_true, Nat.reduceEqDiff, Nat.reduceAdd, Int.reduceLE, Int.reduceLT, Int.reduceEq, Int.reduceToNat, Int.toNat_natCast, Int.cast_ofNat_Int, Int.natCast_one, Nat.reduceMod, Nat.reduceDiv, UInt8.reduceToNat, Nat.reduceLT, ks, k1, k2, k3, c9z, show (true == true) = true from rfl, show (false == false) = true from rfl]
theorem hlaw4 (as0 : List AV) (h : TyArgs Tryd.prog Tryd.f4.params.toList as0) : ∃ k s', callF cx k 4 as0 st0 = some (.bool true, s') := by
  obtain ⟨a1, r1, rfl, h1, a2, r2, rfl, h2, h6⟩ : ∃ a1 r1, as0 = a1 :: r1 ∧ TyArg Tryd.prog 22 a1 ∧ ∃ a2 r2, r1 = a2 :: r2 ∧ TyArg Tryd.prog 3 a2 ∧ r2 = [] := h
  subst h6
  obtain ⟨b, ls, rfl⟩ := TyArg_lines h1
  obtain ⟨x, rfl, _⟩ := TyArg_int Tryd.underlying3 h2
  obtain ⟨k', v, s', h9, rfl⟩ := law4 x b ls
  exact ⟨k', s', h9⟩
end T08
