/- What the check of forms computes: its parts, and the whole. -/
import Derived.Test.YtgpfcgpgbflpgaaK10i
namespace T10
open Go Fw Go.Proofs
set_option maxRecDepth 100000
set_option linter.unusedSimpArgs false
set_option linter.unusedVariables false
def deepC (fs : List Form) (d : Int) : Int := if fs ≠ [] ∧ 6 < d then 7 else 0
theorem c30 (fs : List Form) (b : Bool) (d : Int) (s : St) (K : AV → St → Prop) : CallW cx 30 [slv b fs.length (encFs fs), .int .i64 d] s K = K (.int .i64 (deepC fs d)) s := by
  refine CallW.eq (CallW.fn' (fn := ir30) rfl rfl (by kernel_rfl) ir30.eq_1 ?_) K
  by_cases h : fs = []
  · have hx : decide (0 < (fs.length : Int)) = false := by simp [h]
    have hv : deepC fs d = 0 := by simp [deepC, h]
    simp (config := {contextual := true, implicitDefEqProofs := false, maxSteps := 4000000}) only [go_sem, ↓reduceIte, Bool.false_eq_true, Nat.reduceEqDiff, Nat.reduceAdd, Int.reduceLE, Int.reduceLT, Int.reduceEq, Int.reduceToNat, Int.toNat_natCast, Int.cast_ofNat_Int, Int.natCast_one, Nat.reduceMod, Nat.reduceDiv, UInt8.reduceToNat, Nat.reduceLT, hx, hv]
  · have hp : 0 < fs.length := List.length_pos_iff.2 h
    have hx : decide (0 < (fs.length : Int)) = true := by simp; omega
    simp (config := {contextual := true, implicitDefEqProofs := false, maxSteps := 4000000}) only [go_sem, ↓reduceIte, Bool.false_eq_true, Nat.reduceEqDiff, Nat.reduceAdd, Int.reduceLE, Int.reduceLT, Int.reduceEq, Int.reduceToNat, Int.toNat_natCast, Int.cast_ofNat_Int, Int.natCast_one, Nat.reduceMod, Nat.reduceDiv, UInt8.reduceToNat, Nat.reduceLT, hx]
    by_cases h6 : 6 < d
    · simp [deepC, h, h6, pif]
    · simp [deepC, h, h6, pif]
theorem deepOk (N : Nat) (h : List (Nat × AObj)) : ChkOk (.func 30 [] []) deepC N h := by
  intro fs b d st K _ _ _
  simp (config := {contextual := true, implicitDefEqProofs := false, maxSteps := 4000000}) only [go_sem, ↓reduceIte, Bool.false_eq_true, Nat.reduceEqDiff, Nat.reduceAdd, Int.reduceLE, Int.reduceLT, Int.reduceEq, Int.reduceToNat, Int.toNat_natCast, Int.cast_ofNat_Int, Int.natCast_one, Nat.reduceMod, Nat.reduceDiv, UInt8.reduceToNat, Nat.reduceLT, c30]

/- twice -/
def seenL (ws : List (List UInt8)) : List (AV × AV) := ws.map fun w => (.str w, .bool true)
theorem find_seen (a : List UInt8) : ∀ ws, mapFind .str (.str a) (seenL ws) = some (if a ∈ ws then some (.bool true) else none)
  | [] => by simp [seenL, mapFind]
  | w :: ws => by
    have ih := find_seen a ws
    simp only [seenL, List.map_cons] at ih ⊢
    rw [mapFind_str, ih]
    by_cases h : a = w
    · simp [h]
    · simp [h]
theorem put_seen (a : List UInt8) : ∀ ws, a ∉ ws → mapPut .str (.str a) (.bool true) (seenL ws) = some (seenL (ws ++ [a]))
  | [], _ => by simp [seenL, mapPut]
  | w :: ws, h => by
    have h1 : a ≠ w := fun e => h (by simp [e])
    have ih := put_seen a ws (fun hm => h (by simp [hm]))
    simp only [seenL, List.map_cons, List.cons_append] at ih ⊢
    rw [mapPut_str, if_neg h1, ih]; rfl
def dupGo : List (List UInt8) → List Form → Bool
  | _, [] => false
  | ws, f :: fs => decide (f.word ∈ ws) || dupGo (ws ++ [f.word]) fs
def twiceC (fs : List Form) (_ : Int) : Int := if dupGo [] fs = true then 5 else 0
theorem l31 (b : Bool) (fs : List Form) (hcnt : fs.length ≤ 40) (M : Nat) (Q : Sig → FE → St → Prop) : ∀ (n i : Nat) (ws : List (List UInt8)) (e : FE) (st : St), i + n = fs.length → st.low = M → M < st.next → Fw.look M st.heap = some (.map (seenL ws)) →
    e 5 = .map M → e 9 = slv b fs.length (encFs fs) → e 10 = .int .i64 fs.length → e 11 = .int .i64 i →
    (dupGo ws (fs.drop i) = false → ∀ e' st', st'.low = M → Q (.exit 0) e' st') → (dupGo ws (fs.drop i) = true → ∀ e' st', st'.low = M → e' 4 = .int .i64 5 → Q .ret e' st') → WLoop cx ir31L0 e st Q
  | 0, i, ws, e, st, hi, hL, hM, hm, h5, h9, h10, h11, hT, hF => by
    refine WLoop.rnd (c := _) ir31L0.eq_1 ?_
    have hd : decide ((i : Int) < (fs.length : Int)) = false := by simp; omega
    simp (config := {contextual := true, implicitDefEqProofs := false, maxSteps := 4000000}) only [go_sem, ↓reduceIte, Bool.false_eq_true, Nat.reduceEqDiff, Nat.reduceAdd, Int.reduceLE, Int.reduceLT, Int.reduceEq, Int.reduceToNat, Int.toNat_natCast, Int.cast_ofNat_Int, Int.natCast_one, Nat.reduceMod, Nat.reduceDiv, UInt8.reduceToNat, Nat.reduceLT, h5, h9, h10, h11, hd]
    exact hT (by rw [List.drop_eq_nil_of_le (by omega)]; rfl) _ _ hL
  | n + 1, i, ws, e, st, hi, hL, hM, hm, h5, h9, h10, h11, hT, hF => by
    refine WLoop.rnd (c := _) ir31L0.eq_1 ?_
    have hd : decide ((i : Int) < (fs.length : Int)) = true := by simp; omega
    have hw := wrap_one (i := i) (by omega)
    have hlt : i < fs.length := by omega
    have hmin : min st.low st.next = st.low := by omega
    have hmin2 : min st.low M = st.low := by omega
    have hne : (st.next = M) = False := by simp; omega
    rw [List.drop_eq_getElem_cons hlt] at hT hF
    simp only [dupGo] at hT hF
    by_cases hin : fs[i].word ∈ ws
    · have hin' : (fs[i].word ∈ ws) = True := by simp [hin]
      simp (config := {contextual := true, implicitDefEqProofs := false, maxSteps := 4000000}) only [go_sem, ↓reduceIte, Bool.false_eq_true, Nat.reduceEqDiff, Nat.reduceAdd, Int.reduceLE, Int.reduceLT, Int.reduceEq, Int.reduceToNat, Int.toNat_natCast, Int.cast_ofNat_Int, Int.natCast_one, Nat.reduceMod, Nat.reduceDiv, UInt8.reduceToNat, Nat.reduceLT, h5, h9, h10, h11, hd, hw, sub_form hlt, encF_eq, hmin, hne, hm, find_seen, hin']
      refine ⟨by omega, hF (by simp [hin]) _ _ hL rfl⟩
    · have hin' : (fs[i].word ∈ ws) = False := by simp [hin]
      simp (config := {contextual := true, implicitDefEqProofs := false, maxSteps := 4000000}) only [go_sem, ↓reduceIte, Bool.false_eq_true, Nat.reduceEqDiff, Nat.reduceAdd, Int.reduceLE, Int.reduceLT, Int.reduceEq, Int.reduceToNat, Int.toNat_natCast, Int.cast_ofNat_Int, Int.natCast_one, Nat.reduceMod, Nat.reduceDiv, UInt8.reduceToNat, Nat.reduceLT, h5, h9, h10, h11, hd, hw, sub_form hlt, encF_eq, hmin, hmin2, hne, hm, find_seen, hin', put_seen _ _ hin]
      have hx : decide (fs[i].word ∈ ws) = false := by simp [hin]
      rw [hx, Bool.false_or] at hT hF
      refine ⟨by omega, ?_⟩
      refine l31 b fs hcnt M Q n (i + 1) (ws ++ [fs[i].word]) _ _ (by omega) hL (by simp only; omega) ?_ h5 h9 h10 rfl hT hF
      show Fw.look M ((st.next, _) :: put M _ st.heap) = _
      rw [Fw.look, if_neg (by omega), look_put, if_pos rfl, hm]; rfl
theorem c31 (fs : List Form) (b : Bool) (d : Int) (hcnt : fs.length ≤ 40) (s : St) (K : AV → St → Prop) : CallW cx 31 [slv b fs.length (encFs fs), .int .i64 d] s K = K (.int .i64 (twiceC fs d)) s := by
  refine CallW.eq (CallW.fn' (fn := ir31) rfl rfl (by kernel_rfl) ir31.eq_1 ?_) K
  simp (config := {contextual := true, implicitDefEqProofs := false, maxSteps := 4000000}) only [go_sem, ↓reduceIte, Bool.false_eq_true, Nat.reduceEqDiff, Nat.reduceAdd, Int.reduceLE, Int.reduceLT, Int.reduceEq, Int.reduceToNat, Int.toNat_natCast, Int.cast_ofNat_Int, Int.natCast_one, Nat.reduceMod, Nat.reduceDiv, UInt8.reduceToNat, Nat.reduceLT]
  refine l31 b fs hcnt s.next _ fs.length 0 [] _ _ (by omega) rfl (Nat.lt_succ_self _) (by simp [Fw.look, seenL]) rfl rfl rfl rfl ?_ ?_
  · intro h e' st' hl
    rw [List.drop_zero] at h
    simp (config := {contextual := true, implicitDefEqProofs := false, maxSteps := 4000000}) only [go_sem, ↓reduceIte, Bool.false_eq_true, Nat.reduceEqDiff, Nat.reduceAdd, Int.reduceLE, Int.reduceLT, Int.reduceEq, Int.reduceToNat, Int.toNat_natCast, Int.cast_ofNat_Int, Int.natCast_one, Nat.reduceMod, Nat.reduceDiv, UInt8.reduceToNat, Nat.reduceLT]
    rw [LeaveW_int _ _ (by omega)]
    exact ⟨by simp [twiceC, h], rfl⟩
  · intro h e' st' hl h4
    rw [List.drop_zero] at h
    simp (config := {contextual := true, implicitDefEqProofs := false, maxSteps := 4000000}) only [go_sem, ↓reduceIte, Bool.false_eq_true, Nat.reduceEqDiff, Nat.reduceAdd, Int.reduceLE, Int.reduceLT, Int.reduceEq, Int.reduceToNat, Int.toNat_natCast, Int.cast_ofNat_Int, Int.natCast_one, Nat.reduceMod, Nat.reduceDiv, UInt8.reduceToNat, Nat.reduceLT, h4]
    rw [LeaveW_int _ _ (by omega)]
    exact ⟨by simp [twiceC, h], rfl⟩
theorem twiceOk (N : Nat) (h : List (Nat × AObj)) : ChkOk (.func 31 [] []) twiceC N h := by
  intro fs b d st K _ hc _
  have := cntFs_length fs
  have k := fun st K => c31 fs b d (by omega) st K
  simp (config := {contextual := true, implicitDefEqProofs := false, maxSteps := 4000000}) only [go_sem, ↓reduceIte, Bool.false_eq_true, Nat.reduceEqDiff, Nat.reduceAdd, Int.reduceLE, Int.reduceLT, Int.reduceEq, Int.reduceToNat, Int.toNat_natCast, Int.cast_ofNat_Int, Int.natCast_one, Nat.reduceMod, Nat.reduceDiv, UInt8.reduceToNat, Nat.reduceLT, k]

/- each -/
def eachC (ev : Int) (good : Form → Bool) (fs : List Form) (_ : Int) : Int := if fs.all good = true then 0 else ev
def GoodOk (gf : AV) (good : Form → Bool) : Prop := ∀ (f : Form) (st : St) (K : AV → St → Prop), smallF f → FunK cx gf [.agg [.str f.word, slv f.an f.args.length (f.args.map AV.str), slv f.kn f.kids.length (encFs f.kids), .int .i64 f.least, .int .i64 f.most]] st K = K (.bool (good f)) st
theorem l50 (ev : Int) (good : Form → Bool) (gf : AV) (hg : GoodOk gf good) (hlf : gf.al (fun _ => false) = true) (b : Bool) (fs : List Form) (hsm : smallFs fs) (hcnt : fs.length ≤ 40) (p q L : Nat) (t1 t2 : Option TypeId) (Q : Sig → FE → St → Prop) :
    ∀ (n i : Nat) (e : FE) (st : St), i + n = fs.length → st.low = L → L ≤ st.next → p < st.next → q < st.next → Fw.look p st.heap = some (.cells t1 [gf]) → Fw.look q st.heap = some (.cells t2 [.int .i64 ev]) →
    e 2 = .ptr p 0 → e 3 = .ptr q 0 → e 9 = slv b fs.length (encFs fs) → e 10 = .int .i64 fs.length → e 11 = .int .i64 i →
    ((fs.drop i).all good = true → ∀ e' st', st'.low = L → Q (.exit 0) e' st') → ((fs.drop i).all good = false → ∀ e' st', st'.low = L → e' 6 = .int .i64 ev → Q .ret e' st') → WLoop cx ir50L0 e st Q
  | 0, i, e, st, hi, hL, hM, hp, hq, hpl, hql, h2, h3, h9, h10, h11, hT, hF => by
    refine WLoop.rnd (c := _) ir50L0.eq_1 ?_
    have hd : decide ((i : Int) < (fs.length : Int)) = false := by simp; omega
    simp (config := {contextual := true, implicitDefEqProofs := false, maxSteps := 4000000}) only [go_sem, ↓reduceIte, Bool.false_eq_true, Nat.reduceEqDiff, Nat.reduceAdd, Int.reduceLE, Int.reduceLT, Int.reduceEq, Int.reduceToNat, Int.toNat_natCast, Int.cast_ofNat_Int, Int.natCast_one, Nat.reduceMod, Nat.reduceDiv, UInt8.reduceToNat, Nat.reduceLT, h9, h10, h11, hd]
    exact hT (by rw [List.drop_eq_nil_of_le (by omega)]; rfl) _ _ hL
  | n + 1, i, e, st, hi, hL, hM, hp, hq, hpl, hql, h2, h3, h9, h10, h11, hT, hF => by
    refine WLoop.rnd (c := _) ir50L0.eq_1 ?_
    have hd : decide ((i : Int) < (fs.length : Int)) = true := by simp; omega
    have hw := wrap_one (i := i) (by omega)
    have hlt : i < fs.length := by omega
    have hmin : min st.low st.next = st.low := by omega
    have hne1 : (st.next = p) = False := by simp; omega
    have hne2 : (st.next = q) = False := by simp; omega
    have hgf := fun st K => hg fs[i] st K (smallFs_mem hsm _ (List.getElem_mem hlt))
    rw [List.drop_eq_getElem_cons hlt, List.all_cons] at hT hF
    cases hgd : good fs[i] with
    | true =>
      rw [hgd, Bool.true_and] at hT hF
      simp (config := {contextual := true, implicitDefEqProofs := false, maxSteps := 4000000}) only [go_sem, ↓reduceIte, Bool.false_eq_true, Nat.reduceEqDiff, Nat.reduceAdd, Int.reduceLE, Int.reduceLT, Int.reduceEq, Int.reduceToNat, Int.toNat_natCast, Int.cast_ofNat_Int, Int.natCast_one, Nat.reduceMod, Nat.reduceDiv, UInt8.reduceToNat, Nat.reduceLT, h2, h3, h9, h10, h11, hd, hw, sub_form hlt, encF_eq, hmin, hne1, hne2, hpl, hql, hgf, hgd]
      refine ⟨by omega, ?_⟩
      exact l50 ev good gf hg hlf b fs hsm hcnt p q L t1 t2 Q n (i + 1) _ _ (by omega) hL (by simp only; omega) (by simp only; omega) (by simp only; omega)
        (by simp only [Fw.look]; rw [if_neg (by omega)]; exact hpl) (by simp only [Fw.look]; rw [if_neg (by omega)]; exact hql) h2 h3 h9 h10 rfl hT hF
    | false =>
      simp (config := {contextual := true, implicitDefEqProofs := false, maxSteps := 4000000}) only [go_sem, ↓reduceIte, Bool.false_eq_true, Nat.reduceEqDiff, Nat.reduceAdd, Int.reduceLE, Int.reduceLT, Int.reduceEq, Int.reduceToNat, Int.toNat_natCast, Int.cast_ofNat_Int, Int.natCast_one, Nat.reduceMod, Nat.reduceDiv, UInt8.reduceToNat, Nat.reduceLT, h2, h3, h9, h10, h11, hd, hw, sub_form hlt, encF_eq, hmin, hne1, hne2, hpl, hql, hgf, hgd]
      exact ⟨by omega, hF (by rw [hgd]; rfl) _ _ hL rfl⟩
theorem c50 (ev : Int) (good : Form → Bool) (gf : AV) (hg : GoodOk gf good) (hlf : gf.al (fun _ => false) = true) (b : Bool) (fs : List Form) (hsm : smallFs fs) (hcnt : fs.length ≤ 40) (d : Int) (p q : Nat) (t1 t2 : Option TypeId) (s : St) (K : AV → St → Prop)
    (hp : p < s.next) (hq : q < s.next) (hpl : Fw.look p s.heap = some (.cells t1 [gf])) (hql : Fw.look q s.heap = some (.cells t2 [.int .i64 ev])) :
    CallW cx 50 [slv b fs.length (encFs fs), .int .i64 d, .ptr p 0, .ptr q 0] s K = K (.int .i64 (eachC ev good fs d)) s := by
  refine CallW.eq (CallW.fn' (fn := ir50) rfl rfl (by kernel_rfl) ir50.eq_1 ?_) K
  simp (config := {contextual := true, implicitDefEqProofs := false, maxSteps := 4000000}) only [go_sem, ↓reduceIte, Bool.false_eq_true, Nat.reduceEqDiff, Nat.reduceAdd, Int.reduceLE, Int.reduceLT, Int.reduceEq, Int.reduceToNat, Int.toNat_natCast, Int.cast_ofNat_Int, Int.natCast_one, Nat.reduceMod, Nat.reduceDiv, UInt8.reduceToNat, Nat.reduceLT]
  refine l50 ev good gf hg hlf b fs hsm hcnt p q s.next t1 t2 _ fs.length 0 _ _ (by omega) rfl (Nat.le_refl _) hp hq hpl hql rfl rfl rfl rfl rfl ?_ ?_
  · intro h e' st' hl
    rw [List.drop_zero] at h
    simp (config := {contextual := true, implicitDefEqProofs := false, maxSteps := 4000000}) only [go_sem, ↓reduceIte, Bool.false_eq_true, Nat.reduceEqDiff, Nat.reduceAdd, Int.reduceLE, Int.reduceLT, Int.reduceEq, Int.reduceToNat, Int.toNat_natCast, Int.cast_ofNat_Int, Int.natCast_one, Nat.reduceMod, Nat.reduceDiv, UInt8.reduceToNat, Nat.reduceLT]
    rw [LeaveW_int _ _ (by omega)]
    exact ⟨by simp only [eachC, h, if_true], rfl⟩
  · intro h e' st' hl h6
    rw [List.drop_zero] at h
    simp (config := {contextual := true, implicitDefEqProofs := false, maxSteps := 4000000}) only [go_sem, ↓reduceIte, Bool.false_eq_true, Nat.reduceEqDiff, Nat.reduceAdd, Int.reduceLE, Int.reduceLT, Int.reduceEq, Int.reduceToNat, Int.toNat_natCast, Int.cast_ofNat_Int, Int.natCast_one, Nat.reduceMod, Nat.reduceDiv, UInt8.reduceToNat, Nat.reduceLT, h6]
    rw [LeaveW_int _ _ (by omega)]
    exact ⟨by simp only [eachC, h, Bool.false_eq_true, if_false], rfl⟩
theorem c33 (ev : Int) (g : Nat) (s : St) (K : AV → St → Prop) : CallW cx 33 [.int .i64 ev, .func g [] []] s K =
    K (.func 50 [] [.ptr (s.next + 1) 0, .ptr s.next 0]) { heap := (s.next + 1, .cells (some 61) [.func g [] []]) :: (s.next, .cells (some 28) [.int .i64 ev]) :: s.heap, next := s.next + 2, low := min s.low s.next } := by
  refine CallW.eq (CallW.fn' (fn := ir33) rfl rfl (by kernel_rfl) ir33.eq_1 ?_) K
  simp (config := {contextual := true, implicitDefEqProofs := false, maxSteps := 4000000}) only [go_sem, ↓reduceIte, Bool.false_eq_true, Nat.reduceEqDiff, Nat.reduceAdd, Int.reduceLE, Int.reduceLT, Int.reduceEq, Int.reduceToNat, Int.toNat_natCast, Int.cast_ofNat_Int, Int.natCast_one, Nat.reduceMod, Nat.reduceDiv, UInt8.reduceToNat, Nat.reduceLT]
  rw [LeaveW_new rfl (by simp [AV.al, alAll, below])]
  exact ⟨rfl, rfl⟩
theorem good34 : GoodOk (.func 34 [] []) (fun f => nameB f.word) := by
  intro f st K _
  simp (config := {contextual := true, implicitDefEqProofs := false, maxSteps := 4000000}) only [go_sem, ↓reduceIte, Bool.false_eq_true, Nat.reduceEqDiff, Nat.reduceAdd, Int.reduceLE, Int.reduceLT, Int.reduceEq, Int.reduceToNat, Int.toNat_natCast, Int.cast_ofNat_Int, Int.natCast_one, Nat.reduceMod, Nat.reduceDiv, UInt8.reduceToNat, Nat.reduceLT, c34]
theorem good36 : GoodOk (.func 36 [] []) kindsF := by
  intro f st K hs
  rw [smallF_eq] at hs
  have k := fun st K => c36 f hs.2.1 hs.2.2.1 st K
  simp (config := {contextual := true, implicitDefEqProofs := false, maxSteps := 4000000}) only [go_sem, ↓reduceIte, Bool.false_eq_true, Nat.reduceEqDiff, Nat.reduceAdd, Int.reduceLE, Int.reduceLT, Int.reduceEq, Int.reduceToNat, Int.toNat_natCast, Int.cast_ofNat_Int, Int.natCast_one, Nat.reduceMod, Nat.reduceDiv, UInt8.reduceToNat, Nat.reduceLT, k]
theorem good32 : GoodOk (.func 32 [] []) limitsF := by
  intro f st K _
  simp (config := {contextual := true, implicitDefEqProofs := false, maxSteps := 4000000}) only [go_sem, ↓reduceIte, Bool.false_eq_true, Nat.reduceEqDiff, Nat.reduceAdd, Int.reduceLE, Int.reduceLT, Int.reduceEq, Int.reduceToNat, Int.toNat_natCast, Int.cast_ofNat_Int, Int.natCast_one, Nat.reduceMod, Nat.reduceDiv, UInt8.reduceToNat, Nat.reduceLT, c32]
theorem eachOk (ev : Int) (good : Form → Bool) (g : Nat) (hg : GoodOk (.func g [] []) good) (p q N : Nat) (t1 t2 : Option TypeId) (h : List (Nat × AObj)) (hp : p < N) (hq : q < N) (hpl : Fw.look p h = some (.cells t1 [.func g [] []])) (hql : Fw.look q h = some (.cells t2 [.int .i64 ev])) :
    ChkOk (.func 50 [] [.ptr p 0, .ptr q 0]) (eachC ev good) N h := by
  intro fs b d st K hsm hc hS
  have := cntFs_length fs
  have k := fun K => c50 ev good (.func g [] []) hg rfl b fs hsm (by omega) d p q t1 t2 st K (by have := hS.1; omega) (by have := hS.1; omega) (by rw [hS.2 p hp]; exact hpl) (by rw [hS.2 q hq]; exact hql)
  simp (config := {contextual := true, implicitDefEqProofs := false, maxSteps := 4000000}) only [go_sem, ↓reduceIte, Bool.false_eq_true, Nat.reduceEqDiff, Nat.reduceAdd, Int.reduceLE, Int.reduceLT, Int.reduceEq, Int.reduceToNat, Int.toNat_natCast, Int.cast_ofNat_Int, Int.natCast_one, Nat.reduceMod, Nat.reduceDiv, UInt8.reduceToNat, Nat.reduceLT, k]
end T10
