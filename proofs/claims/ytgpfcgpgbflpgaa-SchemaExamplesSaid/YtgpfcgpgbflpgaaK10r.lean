/- Parts of the proof, one behind the other. -/
import Derived.Test.YtgpfcgpgbflpgaaK10o
/- What match comes to. -/
namespace T10
open Go Fw Go.Proofs
set_option maxRecDepth 100000
set_option linter.unusedSimpArgs false
set_option linter.unusedVariables false
instance : Inhabited Form := ⟨.mk [] true [] true [] 0 0⟩
abbrev Flt := Int × Int × Int
def encFl (x : Flt) : AV := .agg [.int .i64 x.1, .int .i64 x.2.1, .int .i64 x.2.2]
def tokF (l : Line) : Option Nat → Flt
  | none => (0, 0, 0)
  | some k => (2, l.pos, posOf l k)
def lackB : List Form → List Int → Bool
  | f :: fs, c :: cs => decide (c < f.least) || lackB fs cs
  | _, _ => false
mutual
def lineM : Line → Form → Int → Flt
  | .mk tn ts h kn k p, f, c =>
    if f.most ≤ c then (7, p, posOf (.mk tn ts h kn [] p) 0)
    else if (tokF (.mk tn ts h kn [] p) (tokGo (.mk tn ts h kn [] p) f.args 1)).1 ≠ 0 then tokF (.mk tn ts h kn [] p) (tokGo (.mk tn ts h kn [] p) f.args 1)
    else if h ≠ decide (0 < f.kids.length) then (2, p, posOf (.mk tn ts h kn [] p) 0)
    else if (lowM k f.kids (List.replicate f.kids.length 0)).1.1 = 0 ∧ (lowM k f.kids (List.replicate f.kids.length 0)).2 = true then (9, p, posOf (.mk tn ts h kn [] p) 0)
    else (lowM k f.kids (List.replicate f.kids.length 0)).1
def lowM : List Line → List Form → List Int → Flt × Bool
  | [], fs, cs => ((0, 0, 0), lackB fs cs)
  | l :: ls, fs, cs =>
    if findL fs l < 0 then ((3, l.pos, posOf l 0), false)
    else if (lineM l (fs.getD (findL fs l).toNat default) (cs.getD (findL fs l).toNat 0)).1 ≠ 0 then (lineM l (fs.getD (findL fs l).toNat default) (cs.getD (findL fs l).toNat 0), false)
    else lowM ls fs (cs.set (findL fs l).toNat (cs.getD (findL fs l).toNat 0 + 1))
end
theorem posOf_kids (tn : TN) (ts : List Tok) (h kn : Bool) (k k' : List Line) (p : Int) (i : Nat) : posOf (.mk tn ts h kn k p) i = posOf (.mk tn ts h kn k' p) i := rfl
theorem tokGo_kids (tn : TN) (ts : List Tok) (h kn : Bool) (k k' : List Line) (p : Int) : ∀ (us : List (List UInt8)) (i : Nat), tokGo (.mk tn ts h kn k p) us i = tokGo (.mk tn ts h kn k' p) us i
  | [], _ => rfl
  | a :: us, i => by
    simp only [tokGo, Line.toks, tokGo_kids tn ts h kn k k' p us (i + 1)]
theorem lineM_eq (l : Line) (f : Form) (c : Int) : lineM l f c = if f.most ≤ c then (7, l.pos, posOf l 0)
    else if (tokF l (tokGo l f.args 1)).1 ≠ 0 then tokF l (tokGo l f.args 1)
    else if l.head ≠ decide (0 < f.kids.length) then (2, l.pos, posOf l 0)
    else if (lowM l.kids f.kids (List.replicate f.kids.length 0)).1.1 = 0 ∧ (lowM l.kids f.kids (List.replicate f.kids.length 0)).2 = true then (9, l.pos, posOf l 0)
    else (lowM l.kids f.kids (List.replicate f.kids.length 0)).1 := by
  cases l with
  | mk tn ts h kn k p =>
    have hp : posOf (.mk tn ts h kn [] p) 0 = posOf (.mk tn ts h kn k p) 0 := rfl
    have ht : tokGo (.mk tn ts h kn [] p) f.args 1 = tokGo (.mk tn ts h kn k p) f.args 1 := tokGo_kids tn ts h kn [] k p f.args 1
    have hf : tokF (.mk tn ts h kn [] p) = tokF (.mk tn ts h kn k p) := by funext o; cases o <;> rfl
    simp only [lineM, Line.pos, Line.head, Line.kids, hp, ht, hf]
    rfl
theorem tokV_F (l : Line) (o : Option Nat) : tokV l o = encFl (tokF l o) := by cases o <;> rfl
def KidsOk (l : Line) : Prop := ∀ (fs : List Form) (b1 b2 : Bool) (s : St) (K : AV → St → Prop), smallFs fs → cntFs fs ≤ 40 → fewLs l.kids → l.kids.length ≤ 20000 →
  CallW cx 40 [slv b1 fs.length (encFs fs), slv b2 l.kids.length (encLs l.kids)] s K = K (.tuple [encFl (lowM l.kids fs (List.replicate fs.length 0)).1, .bool (lowM l.kids fs (List.replicate fs.length 0)).2]) s
theorem c55 (l : Line) (hk : KidsOk l) (hfew : fewL l) (hkl : l.kids.length ≤ 20000) (f : Form) (hsm : smallF f) (hcnt : cntFs f.kids ≤ 40) (c : Int) (s : St) (K : AV → St → Prop) :
    CallW cx 55 [.agg [.str f.word, slv f.an f.args.length (f.args.map AV.str), slv f.kn f.kids.length (encFs f.kids), .int .i64 f.least, .int .i64 f.most], .agg [slt l.tn l.toks.length (encTs l.toks), .bool l.head, slv l.kn l.kids.length (encLs l.kids), .int .i64 l.pos], .int .i64 c] s K = K (encFl (lineM l f c)) s := by
  refine CallW.eq (CallW.fn' (fn := ir55) rfl rfl (by kernel_rfl) ir55.eq_1 ?_) K
  rw [smallF_eq] at hsm
  rw [fewL_eq] at hfew
  have k54 := fun c st K => c54 c l hfew.1 0 (by omega) st K
  simp only [faultV, Int.natCast_zero] at k54
  have k71 := fun st K => c71 f hsm.2.1 hsm.2.2.1 l hfew.1 hfew.2.1 st K
  rw [tokV_F] at k71
  rw [lineM_eq]
  by_cases h1 : f.most ≤ c
  · have hx : decide (f.most ≤ c) = true := by simp [h1]
    simp (config := {contextual := true, implicitDefEqProofs := false, maxSteps := 4000000}) only [go_sem, ↓reduceIte, Bool.false_eq_true, Nat.reduceEqDiff, Nat.reduceAdd, Int.reduceLE, Int.reduceLT, Int.reduceEq, Int.reduceToNat, Int.toNat_natCast, Int.cast_ofNat_Int, Int.natCast_one, Nat.reduceMod, Nat.reduceDiv, UInt8.reduceToNat, Nat.reduceLT, hx, k54]
    simp [h1, encFl]
  have hx : decide (f.most ≤ c) = false := by simp [h1]
  rw [if_neg h1]
  generalize ho : tokF l (tokGo l f.args 1) = o at *
  simp only [encFl] at k71
  by_cases h2 : o.1 = 0
  · have hy : decide (o.1 ≠ 0) = false := by simp [h2]
    rw [if_neg (by simp [h2])]
    have h3k : decide (0 < (f.kids.length : Int)) = decide (0 < f.kids.length) := by congr 1; simp
    by_cases h3 : l.head = decide (0 < f.kids.length)
    · have hz : (l.head == decide (0 < f.kids.length)) = true := by simp [h3]
      have k40 := fun st K => hk f.kids f.kn l.kn st K hsm.2.2.2 hcnt hfew.2.2 hkl
      rw [if_neg (by simp [h3])]
      generalize hm : lowM l.kids f.kids (List.replicate f.kids.length 0) = m at *
      simp only [encFl] at k40
      by_cases h4 : m.1.1 = 0
      · have hu : decide (m.1.1 = 0) = true := by simp [h4]
        cases h5 : m.2 with
        | true =>
          simp (config := {contextual := true, implicitDefEqProofs := false, maxSteps := 4000000}) only [go_sem, ↓reduceIte, Bool.false_eq_true, Nat.reduceEqDiff, Nat.reduceAdd, Int.reduceLE, Int.reduceLT, Int.reduceEq, Int.reduceToNat, Int.toNat_natCast, Int.cast_ofNat_Int, Int.natCast_one, Nat.reduceMod, Nat.reduceDiv, UInt8.reduceToNat, Nat.reduceLT, hx, k71, hy, h3k, hz, k40, hu, h5, k54]
          rw [if_pos h4]; simp [encFl]
        | false =>
          simp (config := {contextual := true, implicitDefEqProofs := false, maxSteps := 4000000}) only [go_sem, ↓reduceIte, Bool.false_eq_true, Nat.reduceEqDiff, Nat.reduceAdd, Int.reduceLE, Int.reduceLT, Int.reduceEq, Int.reduceToNat, Int.toNat_natCast, Int.cast_ofNat_Int, Int.natCast_one, Nat.reduceMod, Nat.reduceDiv, UInt8.reduceToNat, Nat.reduceLT, hx, k71, hy, h3k, hz, k40, hu, h5, k54]
          rw [if_neg (by simp)]; simp [encFl]
      · have hu : decide (m.1.1 = 0) = false := by simp [h4]
        simp (config := {contextual := true, implicitDefEqProofs := false, maxSteps := 4000000}) only [go_sem, ↓reduceIte, Bool.false_eq_true, Nat.reduceEqDiff, Nat.reduceAdd, Int.reduceLE, Int.reduceLT, Int.reduceEq, Int.reduceToNat, Int.toNat_natCast, Int.cast_ofNat_Int, Int.natCast_one, Nat.reduceMod, Nat.reduceDiv, UInt8.reduceToNat, Nat.reduceLT, hx, k71, hy, h3k, hz, k40, hu, k54]
        rw [if_neg (fun h => h4 h.1)]; simp [encFl]
    · have hz : (l.head == decide (0 < f.kids.length)) = false := by simpa using h3
      simp (config := {contextual := true, implicitDefEqProofs := false, maxSteps := 4000000}) only [go_sem, ↓reduceIte, Bool.false_eq_true, Nat.reduceEqDiff, Nat.reduceAdd, Int.reduceLE, Int.reduceLT, Int.reduceEq, Int.reduceToNat, Int.toNat_natCast, Int.cast_ofNat_Int, Int.natCast_one, Nat.reduceMod, Nat.reduceDiv, UInt8.reduceToNat, Nat.reduceLT, hx, k71, hy, h3k, hz, k54]
      rw [if_pos h3]; simp [encFl]
  · have hy : decide (o.1 ≠ 0) = true := by simp [h2]
    simp (config := {contextual := true, implicitDefEqProofs := false, maxSteps := 4000000}) only [go_sem, ↓reduceIte, Bool.false_eq_true, Nat.reduceEqDiff, Nat.reduceAdd, Int.reduceLE, Int.reduceLT, Int.reduceEq, Int.reduceToNat, Int.toNat_natCast, Int.cast_ofNat_Int, Int.natCast_one, Nat.reduceMod, Nat.reduceDiv, UInt8.reduceToNat, Nat.reduceLT, hx, k71, hy]
    rw [if_pos h2]; simp [encFl]

/- match -/
def cntV (cs : List Int) : List AV := cs.map (AV.int .i64)
theorem sub_cnt {cs : List Int} {j : Nat} (h : j < cs.length) : sub (cntV cs) j 1 = some [.int .i64 cs[j]] := by
  unfold cntV; rw [sub_one (by simpa using h)]; simp [List.getD, h]
theorem patch_cnt : ∀ (cs : List Int) (j : Nat) (v : Int), j < cs.length → patch (cntV cs) j [.int .i64 v] = some (cntV (cs.set j v))
  | c :: cs, 0, v, h => by simp [cntV, patch]
  | c :: cs, j + 1, v, h => by
    have ih := patch_cnt cs j v (by simpa using h)
    simp only [cntV, List.map_cons, List.set_cons_succ] at ih ⊢
    rw [patch_succ, ih]; rfl
theorem mksl_n (s : St) (n : Nat) (hn : n ≤ 1000) : mkslA s 8 [.int .i64 0] (.int .i64 n) (.int .i64 n) = some (.mslice s.next 0 n (some n), s.new (.cells none (cntV (List.replicate n 0)))) := by
  have h1 : ((List.replicate n [AV.int .i64 0]).flatten) = cntV (List.replicate n 0) := by
    induction n with
    | zero => rfl
    | succ n ih =>
      have := ih (by omega)
      simp only [List.replicate_succ, List.flatten_cons, this, cntV, List.map_cons, List.singleton_append]
  simp only [mkslA, Int.toNat_natCast, h1]
  rw [if_pos (by refine ⟨by omega, by omega, ?_⟩; unfold room; omega)]
theorem lackB_getElem : ∀ (fs : List Form) (cs : List Int) (i : Nat) (h : i < fs.length) (h2 : i < cs.length), lackB (fs.drop i) (cs.drop i) = (decide (cs[i] < fs[i].least) || lackB (fs.drop (i + 1)) (cs.drop (i + 1))) := by
  intro fs cs i h h2
  rw [List.drop_eq_getElem_cons h, List.drop_eq_getElem_cons h2]; rfl
/-- The second walk: is a form lacking? -/
theorem l40b (b : Bool) (fs : List Form) (hcnt : fs.length ≤ 40) (cs : List Int) (hcl : cs.length = fs.length) (R C L : Nat) (Q : Sig → FE → St → Prop) : ∀ (n i : Nat) (e : FE) (st : St), i + n = fs.length → st.low = L → L ≤ R → R < st.next → C < st.next → L ≤ st.next →
    Fw.look R st.heap = some (.cells (some 34) [.int .i64 0, .int .i64 0, .int .i64 0]) → Fw.look C st.heap = some (.cells none (cntV cs)) →
    e 4 = .ptr R 0 → e 6 = .mslice C 0 fs.length (some fs.length) → e 50 = slv b fs.length (encFs fs) → e 51 = .int .i64 fs.length → e 52 = .int .i64 i →
    (lackB (fs.drop i) (cs.drop i) = false → ∀ e' st', st'.low = L → Fw.look R st'.heap = some (.cells (some 34) [.int .i64 0, .int .i64 0, .int .i64 0]) → e' 4 = .ptr R 0 → Q (.exit 2) e' st') →
    (lackB (fs.drop i) (cs.drop i) = true → ∀ e' st', st'.low = L → Fw.look R st'.heap = some (.cells (some 34) [.int .i64 0, .int .i64 0, .int .i64 0]) → e' 4 = .ptr R 0 → e' 5 = .bool true → Q .ret e' st') → WLoop cx ir40L1 e st Q
  | 0, i, e, st, hi, hL, hLR, hR, hC, hLn, hrl, hclk, h4, h6, h50, h51, h52, hT, hF => by
    refine WLoop.rnd (c := _) ir40L1.eq_1 ?_
    have hd : decide ((i : Int) < (fs.length : Int)) = false := by simp; omega
    simp (config := {contextual := true, implicitDefEqProofs := false, maxSteps := 4000000}) only [go_sem, ↓reduceIte, Bool.false_eq_true, Nat.reduceEqDiff, Nat.reduceAdd, Int.reduceLE, Int.reduceLT, Int.reduceEq, Int.reduceToNat, Int.toNat_natCast, Int.cast_ofNat_Int, Int.natCast_one, Nat.reduceMod, Nat.reduceDiv, UInt8.reduceToNat, Nat.reduceLT, h50, h51, h52, hd]
    refine hT ?_ _ _ hL hrl h4
    rw [List.drop_eq_nil_of_le (by omega)]; simp [lackB]
  | n + 1, i, e, st, hi, hL, hLR, hR, hC, hLn, hrl, hclk, h4, h6, h50, h51, h52, hT, hF => by
    refine WLoop.rnd (c := _) ir40L1.eq_1 ?_
    have hd : decide ((i : Int) < (fs.length : Int)) = true := by simp; omega
    have hw := wrap_one (i := i) (by omega)
    have hlt : i < fs.length := by omega
    have hlt2 : i < cs.length := by omega
    have hmin : min st.low st.next = st.low := by omega
    have hminR : min st.low R = st.low := by omega
    have hne1 : (st.next = C) = False := by simp; omega
    have hne2 : (st.next = R) = False := by simp; omega
    rw [lackB_getElem fs cs i hlt hlt2] at hT hF
    cases hx : decide (cs[i] < fs[i].least) with
    | true =>
      simp (config := {contextual := true, implicitDefEqProofs := false, maxSteps := 4000000}) only [go_sem, ↓reduceIte, Bool.false_eq_true, Nat.reduceEqDiff, Nat.reduceAdd, Int.reduceLE, Int.reduceLT, Int.reduceEq, Int.reduceToNat, Int.toNat_natCast, Int.cast_ofNat_Int, Int.natCast_one, Nat.reduceMod, Nat.reduceDiv, UInt8.reduceToNat, Nat.reduceLT, h4, h6, h50, h51, h52, hd, hw, sub_form hlt, encF_eq, hmin, hminR, hne1, hne2, hclk, hrl, sub_cnt hlt2, hx]
      refine ⟨by omega, by omega, ?_⟩
      refine hF (by rw [hx]; rfl) _ _ hL ?_ h4 rfl
      simp only [Fw.look]
      rw [if_neg (by omega), look_put, if_pos rfl, hrl]; rfl
    | false =>
      simp (config := {contextual := true, implicitDefEqProofs := false, maxSteps := 4000000}) only [go_sem, ↓reduceIte, Bool.false_eq_true, Nat.reduceEqDiff, Nat.reduceAdd, Int.reduceLE, Int.reduceLT, Int.reduceEq, Int.reduceToNat, Int.toNat_natCast, Int.cast_ofNat_Int, Int.natCast_one, Nat.reduceMod, Nat.reduceDiv, UInt8.reduceToNat, Nat.reduceLT, h4, h6, h50, h51, h52, hd, hw, sub_form hlt, encF_eq, hmin, hne1, hne2, hclk, hrl, sub_cnt hlt2, hx]
      rw [hx, Bool.false_or] at hT hF
      refine ⟨by omega, by omega, ?_⟩
      exact l40b b fs hcnt cs hcl R C L Q n (i + 1) _ _ (by omega) hL hLR (by simp only; omega) (by simp only; omega) (by simp only; omega)
        (by simp only [Fw.look]; rw [if_neg (by omega)]; exact hrl) (by simp only [Fw.look]; rw [if_neg (by omega)]; exact hclk) h4 h6 h50 h51 rfl hT hF
end T10

/- What match, Match and Count come to. -/
namespace T10
open Go Fw Go.Proofs
set_option maxRecDepth 100000
set_option linter.unusedSimpArgs false
set_option linter.unusedVariables false
def CsOk (cs : List Int) (i : Nat) : Prop := ∀ (j : Nat) (h : j < cs.length), 0 ≤ cs[j] ∧ cs[j] ≤ i
theorem CsOk.set {cs : List Int} {i : Nat} (h : CsOk cs i) (j : Nat) (hj : j < cs.length) : CsOk (cs.set j (cs[j] + 1)) (i + 1) := by
  intro k hk
  rw [List.length_set] at hk
  rw [List.getElem_set]
  have h1 := h j hj
  have h2 := h k hk
  split
  · omega
  · omega
theorem lowM_cons (l : Line) (ls : List Line) (fs : List Form) (cs : List Int) : lowM (l :: ls) fs cs = if findL fs l < 0 then ((3, l.pos, posOf l 0), false)
    else if (lineM l (fs.getD (findL fs l).toNat default) (cs.getD (findL fs l).toNat 0)).1 ≠ 0 then (lineM l (fs.getD (findL fs l).toNat default) (cs.getD (findL fs l).toNat 0), false)
    else lowM ls fs (cs.set (findL fs l).toNat (cs.getD (findL fs l).toNat 0 + 1)) := by rw [lowM]
theorem l40a (o : Own) (b1 b2 : Bool) (fs : List Form) (hsm : smallFs fs) (hcnt : cntFs fs ≤ 40) (ls : List Line) (hfew : fewLs ls) (hll : ls.length ≤ 20000) (hkids : ∀ l ∈ ls, KidsOk l ∧ l.kids.length ≤ 20000) (R C L : Nat) (Q : Sig → FE → St → Prop) :
    ∀ (n i : Nat) (cs : List Int) (e : FE) (st : St), i + n = ls.length → cs.length = fs.length → CsOk cs i → st.low = L → L ≤ R → L ≤ C → R ≠ C → R < st.next → C < st.next → L ≤ st.next →
    Fw.look R st.heap = some (.cells (some 34) [.int .i64 0, .int .i64 0, .int .i64 0]) → Fw.look C st.heap = some (.cells none (cntV cs)) →
    e 0 = slv b1 fs.length (encFs fs) → e 4 = .ptr R 0 → e 6 = .mslice C 0 fs.length (some fs.length) → e 16 = slo o b2 ls.length (encLs ls) → e 17 = .int .i64 ls.length → e 18 = .int .i64 i →
    (∀ cs' : List Int, cs'.length = fs.length → lowM (ls.drop i) fs cs = lowM [] fs cs' → ∀ e' st', st'.low = L → R < st'.next → C < st'.next → L ≤ st'.next → Fw.look R st'.heap = some (.cells (some 34) [.int .i64 0, .int .i64 0, .int .i64 0]) → Fw.look C st'.heap = some (.cells none (cntV cs')) →
      e' 0 = slv b1 fs.length (encFs fs) → e' 4 = .ptr R 0 → e' 6 = .mslice C 0 fs.length (some fs.length) → Q (.exit 0) e' st') →
    (∀ x : Flt, lowM (ls.drop i) fs cs = (x, false) → ∀ e' st', st'.low = L → Fw.look R st'.heap = some (.cells (some 34) [.int .i64 x.1, .int .i64 x.2.1, .int .i64 x.2.2]) → e' 4 = .ptr R 0 → e' 5 = .bool false → Q .ret e' st') → WLoop cx ir40L0 e st Q
  | 0, i, cs, e, st, hi, hcl, hcs, hL, hLR, hLC, hRC, hR, hC, hLn, hrl, hclk, h0, h4, h6, h16, h17, h18, hT, hF => by
    refine WLoop.rnd (c := _) ir40L0.eq_1 ?_
    have hd : decide ((i : Int) < (ls.length : Int)) = false := by simp; omega
    simp (config := {contextual := true, implicitDefEqProofs := false, maxSteps := 4000000}) only [go_sem, ↓reduceIte, Bool.false_eq_true, Nat.reduceEqDiff, Nat.reduceAdd, Int.reduceLE, Int.reduceLT, Int.reduceEq, Int.reduceToNat, Int.toNat_natCast, Int.cast_ofNat_Int, Int.natCast_one, Nat.reduceMod, Nat.reduceDiv, UInt8.reduceToNat, Nat.reduceLT, h16, h17, h18, hd]
    refine hT cs hcl ?_ _ _ hL hR hC hLn hrl hclk h0 h4 h6
    rw [List.drop_eq_nil_of_le (by omega)]
  | n + 1, i, cs, e, st, hi, hcl, hcs, hL, hLR, hLC, hRC, hR, hC, hLn, hrl, hclk, h0, h4, h6, h16, h17, h18, hT, hF => by
    refine WLoop.rnd (c := _) ir40L0.eq_1 ?_
    have hd : decide ((i : Int) < (ls.length : Int)) = true := by simp; omega
    have hw := wrap_one (i := i) (by omega)
    have hlt : i < ls.length := by omega
    have hlen := cntFs_length fs
    have hmem := List.getElem_mem hlt
    obtain ⟨hko, hkl⟩ := hkids _ hmem
    have hfl := fewLs_mem hfew _ hmem
    have hfl2 := hfl
    rw [fewL_eq] at hfl2
    have hmin : min st.low st.next = st.low := by omega
    have hmin2 : min st.low (st.next + 1) = st.low := by omega
    have hminR : min st.low R = st.low := by omega
    have hminC : min st.low C = st.low := by omega
    have hne1 : (st.next = C) = False := by simp; omega
    have hne2 : (st.next = R) = False := by simp; omega
    have hne3 : (st.next + 1 = C) = False := by simp; omega
    have hne4 : (st.next + 1 = R) = False := by simp; omega
    have k20 := fun st K => c20 fs (by omega) b1 ls[i] st K
    have k54 := fun c st K => c54 c ls[i] hfl2.1 0 (by omega) st K
    simp only [faultV, Int.natCast_zero] at k54
    rw [List.drop_eq_getElem_cons hlt, lowM_cons] at hT hF
    rcases findL_range fs ls[i] with hfi | ⟨j, hfi, hj⟩
    · have hx : decide (findL fs ls[i] < 0) = true := by rw [hfi]; rfl
      simp (config := {contextual := true, implicitDefEqProofs := false, maxSteps := 4000000}) only [go_sem, ↓reduceIte, Bool.false_eq_true, Nat.reduceEqDiff, Nat.reduceAdd, Int.reduceLE, Int.reduceLT, Int.reduceEq, Int.reduceToNat, Int.toNat_natCast, Int.cast_ofNat_Int, Int.natCast_one, Nat.reduceMod, Nat.reduceDiv, UInt8.reduceToNat, Nat.reduceLT, h0, h4, h6, h16, h17, h18, hd, hw, sub_line hlt, encL_eq, hmin, hminR, hne1, hne2, k20, hx, k54, hrl]
      rw [if_pos (by omega)] at hF
      refine ⟨by omega, ?_⟩
      refine hF _ rfl _ _ hL ?_ h4 rfl
      simp only [Fw.look]
      rw [if_neg (by omega), look_put, if_pos rfl, hrl]; rfl
    · have hx : decide ((j : Int) < 0) = false := by simp
      have hjc : j < cs.length := by omega
      have k55 := fun st K => c55 ls[i] hko hfl hkl fs[j] (smallFs_mem hsm _ (List.getElem_mem hj)) (by have := cntFs_mem fs[j] (List.getElem_mem hj); omega) cs[j] st K
      have hcj := hcs j hjc
      have hw2 : IntKind.i64.wrap (cs[j] + 1) = cs[j] + 1 := wrap_i64 (by omega) (by omega)
      have hgf : fs.getD j default = fs[j] := by simp [List.getD, hj]
      have hgc : cs.getD j 0 = cs[j] := by simp [List.getD, hjc]
      rw [hfi, if_neg (by omega), Int.toNat_natCast, hgf, hgc] at hT hF
      generalize hm : lineM ls[i] fs[j] cs[j] = m at *
      simp only [encFl] at k55
      by_cases hz : m.1 = 0
      · have hy : decide (m.1 ≠ 0) = false := by simp [hz]
        simp (config := {contextual := true, implicitDefEqProofs := false, maxSteps := 4000000}) only [go_sem, ↓reduceIte, Bool.false_eq_true, Nat.reduceEqDiff, Nat.reduceAdd, Int.reduceLE, Int.reduceLT, Int.reduceEq, Int.reduceToNat, Int.toNat_natCast, Int.cast_ofNat_Int, Int.natCast_one, Nat.reduceMod, Nat.reduceDiv, UInt8.reduceToNat, Nat.reduceLT, h0, h4, h6, h16, h17, h18, hd, hw, hw2, sub_line hlt, encL_eq, hmin, hmin2, hminC, hne1, hne2, hne3, k20, hfi, hx, sub_form hj, encF_eq, sub_cnt hjc, k55, hy, hclk, patch_cnt cs j _ hjc]
        rw [if_neg (by simp [hz])] at hT hF
        refine ⟨by omega, by omega, by omega, by omega, by omega, ?_⟩
        refine l40a o b1 b2 fs hsm hcnt ls hfew hll hkids R C L Q n (i + 1) (cs.set j (cs[j] + 1)) _ _ (by omega) (by simpa using hcl) (hcs.set j hjc) hL hLR hLC hRC (by simp only; omega) (by simp only; omega) (by simp only; omega) ?_ ?_ h0 h4 h6 h16 h17 rfl hT hF
        · simp only [Fw.look]
          rw [if_neg (by omega), if_neg (by omega), look_put, if_neg hRC]; exact hrl
        · simp only [Fw.look]
          rw [if_neg (by omega), if_neg (by omega), look_put, if_pos rfl, hclk]; rfl
      · have hy : decide (m.1 ≠ 0) = true := by simp [hz]
        simp (config := {contextual := true, implicitDefEqProofs := false, maxSteps := 4000000}) only [go_sem, ↓reduceIte, Bool.false_eq_true, Nat.reduceEqDiff, Nat.reduceAdd, Int.reduceLE, Int.reduceLT, Int.reduceEq, Int.reduceToNat, Int.toNat_natCast, Int.cast_ofNat_Int, Int.natCast_one, Nat.reduceMod, Nat.reduceDiv, UInt8.reduceToNat, Nat.reduceLT, h0, h4, h6, h16, h17, h18, hd, hw, sub_line hlt, encL_eq, hmin, hmin2, hminR, hne1, hne2, hne3, hne4, k20, hfi, hx, sub_form hj, encF_eq, sub_cnt hjc, k55, hy, hclk, hrl]
        rw [if_pos hz] at hF
        refine ⟨by omega, by omega, by omega, ?_⟩
        refine hF _ rfl _ _ hL ?_ h4 rfl
        simp only [Fw.look]
        rw [if_neg (by omega), if_neg (by omega), look_put, if_pos rfl, hrl]; rfl
theorem c40 : ∀ (ls : List Line) (o : Own) (fs : List Form) (b1 b2 : Bool) (s : St) (K : AV → St → Prop), smallFs fs → cntFs fs ≤ 40 → fewLs ls → cntLs ls ≤ 20000 →
    CallW cx 40 [slv b1 fs.length (encFs fs), slo o b2 ls.length (encLs ls)] s K = K (.tuple [encFl (lowM ls fs (List.replicate fs.length 0)).1, .bool (lowM ls fs (List.replicate fs.length 0)).2]) s := by
  refine lines_ind fun ls ih => ?_
  intro o fs b1 b2 s K hsm hcnt hfew hcl
  have hlen := cntFs_length fs
  have hllen := cntLs_length ls
  refine CallW.eq (CallW.fn' (fn := ir40) rfl rfl (by kernel_rfl) ir40.eq_1 ?_) K
  have hms := fun st => mksl_n st fs.length (by omega)
  simp (config := {contextual := true, implicitDefEqProofs := false, maxSteps := 4000000}) only [go_sem, ↓reduceIte, Bool.false_eq_true, Nat.reduceEqDiff, Nat.reduceAdd, Int.reduceLE, Int.reduceLT, Int.reduceEq, Int.reduceToNat, Int.toNat_natCast, Int.cast_ofNat_Int, Int.natCast_one, Nat.reduceMod, Nat.reduceDiv, UInt8.reduceToNat, Nat.reduceLT, hms]
  have hkids : ∀ l ∈ ls, KidsOk l ∧ l.kids.length ≤ 20000 := fun l hl => by
    have h1 := cntLs_mem l hl
    have h2 := cntLs_length l.kids
    refine ⟨fun fs b1 b2 s K h3 h4 h5 h6 => ?_, by omega⟩
    rw [← slo_no]
    exact ih l hl .no fs b1 b2 s K h3 h4 h5 (by omega)
  refine l40a o b1 b2 fs hsm hcnt ls hfew (by omega) hkids s.next (s.next + 1) s.next _ ls.length 0 (List.replicate fs.length 0) _ _ (by omega) (by simp) (fun j h => by simp) rfl (Nat.le_refl _) (by omega) (by omega) (by simp) (by simp) (by simp) (by simp [Fw.look]) (by simp [Fw.look]) rfl rfl rfl rfl rfl rfl ?_ ?_
  · intro cs' hcl' hm e' st' hl hR hC hLn hrl hclk k0 k4 k6
    rw [List.drop_zero] at hm
    rw [hm]
    simp (config := {contextual := true, implicitDefEqProofs := false, maxSteps := 4000000}) only [go_sem, ↓reduceIte, Bool.false_eq_true, Nat.reduceEqDiff, Nat.reduceAdd, Int.reduceLE, Int.reduceLT, Int.reduceEq, Int.reduceToNat, Int.toNat_natCast, Int.cast_ofNat_Int, Int.natCast_one, Nat.reduceMod, Nat.reduceDiv, UInt8.reduceToNat, Nat.reduceLT, k0]
    refine l40b b1 fs (by omega) cs' hcl' s.next (s.next + 1) s.next _ fs.length 0 _ st' (by omega) hl (Nat.le_refl _) hR hC hLn hrl hclk k4 k6 rfl rfl rfl ?_ ?_
    · intro hlk e'' st'' hl2 hrl2 k42
      rw [List.drop_zero, List.drop_zero] at hlk
      have hmR : min st''.low s.next = s.next := by omega
      simp (config := {contextual := true, implicitDefEqProofs := false, maxSteps := 4000000}) only [go_sem, ↓reduceIte, Bool.false_eq_true, Nat.reduceEqDiff, Nat.reduceAdd, Int.reduceLE, Int.reduceLT, Int.reduceEq, Int.reduceToNat, Int.toNat_natCast, Int.cast_ofNat_Int, Int.natCast_one, Nat.reduceMod, Nat.reduceDiv, UInt8.reduceToNat, Nat.reduceLT, k42, hrl2, look_put, Option.isSome_some, encFl, lowM, hlk, hmR]
    · intro hlk e'' st'' hl2 hrl2 k42 k52
      rw [List.drop_zero, List.drop_zero] at hlk
      simp (config := {contextual := true, implicitDefEqProofs := false, maxSteps := 4000000}) only [go_sem, ↓reduceIte, Bool.false_eq_true, Nat.reduceEqDiff, Nat.reduceAdd, Int.reduceLE, Int.reduceLT, Int.reduceEq, Int.reduceToNat, Int.toNat_natCast, Int.cast_ofNat_Int, Int.natCast_one, Nat.reduceMod, Nat.reduceDiv, UInt8.reduceToNat, Nat.reduceLT, k42, k52, hrl2, encFl, lowM, hlk]
      rw [LeaveW_tuple2 rfl (by omega)]
      exact ⟨rfl, rfl⟩
  · intro x hm e' st' hl hrl k4 k5
    rw [List.drop_zero] at hm
    rw [hm]
    simp (config := {contextual := true, implicitDefEqProofs := false, maxSteps := 4000000}) only [go_sem, ↓reduceIte, Bool.false_eq_true, Nat.reduceEqDiff, Nat.reduceAdd, Int.reduceLE, Int.reduceLT, Int.reduceEq, Int.reduceToNat, Int.toNat_natCast, Int.cast_ofNat_Int, Int.natCast_one, Nat.reduceMod, Nat.reduceDiv, UInt8.reduceToNat, Nat.reduceLT, k4, k5, hrl, encFl]
    rw [LeaveW_tuple2 rfl (by omega)]
    exact ⟨rfl, rfl⟩
end T10

/- When lines match: a count of each form, and every line good by itself; Match and Count. -/
namespace T10
open Go Fw Go.Proofs
set_option maxRecDepth 100000
set_option linter.unusedSimpArgs false
set_option linter.unusedVariables false
def lineI (l : Line) (f : Form) : Flt := if (tokF l (tokGo l f.args 1)).1 ≠ 0 then tokF l (tokGo l f.args 1)
    else if l.head ≠ decide (0 < f.kids.length) then (2, l.pos, posOf l 0)
    else if (lowM l.kids f.kids (List.replicate f.kids.length 0)).1.1 = 0 ∧ (lowM l.kids f.kids (List.replicate f.kids.length 0)).2 = true then (9, l.pos, posOf l 0)
    else (lowM l.kids f.kids (List.replicate f.kids.length 0)).1
theorem lineM_I (l : Line) (f : Form) (c : Int) : lineM l f c = if f.most ≤ c then (7, l.pos, posOf l 0) else lineI l f := lineM_eq l f c
def lowOk (r : Flt × Bool) : Prop := r.1.1 = 0 ∧ r.2 = false
def occ (fs : List Form) (j : Nat) (ls : List Line) : Nat := ls.countP fun l => decide (findL fs l = (j : Int))
def goodL (fs : List Form) (l : Line) : Prop := ∃ j : Nat, findL fs l = (j : Int) ∧ j < fs.length ∧ (lineI l (fs.getD j default)).1 = 0
theorem lackB_iff : ∀ (fs : List Form) (cs : List Int), cs.length = fs.length → (lackB fs cs = false ↔ ∀ j, j < fs.length → (fs.getD j default).least ≤ cs.getD j 0)
  | [], cs, h => by simp [lackB]
  | f :: fs, [], h => by simp at h
  | f :: fs, c :: cs, h => by
    have ih := lackB_iff fs cs (by simpa using h)
    simp only [lackB, Bool.or_eq_false_iff, decide_eq_false_iff_not, ih]
    constructor
    · rintro ⟨h1, h2⟩ j hj
      cases j with
      | zero => simpa using h1
      | succ j => simpa using h2 j (by simpa using hj)
    · intro h2
      refine ⟨by simpa using h2 0 (by simp), fun j hj => by simpa using h2 (j + 1) (by simpa using hj)⟩
theorem occ_cons (fs : List Form) (j : Nat) (l : Line) (ls : List Line) : occ fs j (l :: ls) = occ fs j ls + (if findL fs l = (j : Int) then 1 else 0) := by
  simp only [occ, List.countP_cons, decide_eq_true_eq]
theorem low_iff (fs : List Form) : ∀ (ls : List Line) (cs : List Int), cs.length = fs.length → (lowOk (lowM ls fs cs) ↔ (∀ l ∈ ls, goodL fs l) ∧
    ∀ j, j < fs.length → (0 < occ fs j ls → cs.getD j 0 + occ fs j ls ≤ (fs.getD j default).most) ∧ (fs.getD j default).least ≤ cs.getD j 0 + occ fs j ls)
  | [], cs, hc => by
    have h0 : lowM [] fs cs = ((0, 0, 0), lackB fs cs) := by rw [lowM]
    rw [h0]
    simp only [lowOk, true_and, lackB_iff fs cs hc, occ, List.countP_nil, Nat.lt_irrefl, false_implies, Int.natCast_zero, Int.add_zero, List.not_mem_nil, implies_true]
  | l :: ls, cs, hc => by
    rw [lowM_cons]
    rcases findL_range fs l with hfi | ⟨j, hfi, hj⟩
    · rw [if_pos (by omega)]
      constructor
      · intro h; simp [lowOk] at h
      · rintro ⟨h1, _⟩
        obtain ⟨j, h2, _⟩ := h1 l (by simp)
        omega
    · have ih := low_iff fs ls (cs.set j (cs.getD j 0 + 1)) (by simpa using hc)
      rw [hfi, if_neg (by omega), Int.toNat_natCast, lineM_I]
      have hjc : j < cs.length := by omega
      by_cases hm : (fs.getD j default).most ≤ cs.getD j 0
      · rw [if_pos hm]
        simp only [ne_eq, show ((7 : Int) = 0) = False by simp, not_false_eq_true, if_true]
        constructor
        · intro h; simp [lowOk] at h
        · rintro ⟨_, h2⟩
          have h3 := (h2 j hj).1
          rw [occ_cons, if_pos hfi] at h3
          have := h3 (by omega)
          omega
      · rw [if_neg hm]
        by_cases hz : (lineI l (fs.getD j default)).1 = 0
        · rw [if_neg (fun h => h hz), ih]
          have hg : goodL fs l := ⟨j, hfi, hj, hz⟩
          constructor
          · rintro ⟨h1, h2⟩
            refine ⟨fun x hx => ?_, fun k hk => ?_⟩
            · rcases List.mem_cons.1 hx with rfl | hx
              · exact hg
              · exact h1 x hx
            · obtain ⟨h3, h4⟩ := h2 k hk
              rw [occ_cons]
              by_cases hkj : k = j
              · subst hkj
                rw [if_pos hfi]
                have hs : (cs.set k (cs.getD k 0 + 1)).getD k 0 = cs.getD k 0 + 1 := by simp [List.getD, hjc]
                rw [hs] at h3 h4
                refine ⟨fun _ => ?_, by omega⟩
                by_cases ho : 0 < occ fs k ls
                · have := h3 ho; omega
                · omega
              · have hs : (cs.set j (cs.getD j 0 + 1)).getD k 0 = cs.getD k 0 := by
                  simp [List.getD, List.getElem?_set, show ¬ j = k from fun e => hkj e.symm]
                rw [hs] at h3 h4
                rw [if_neg (by rw [hfi]; omega)]
                exact ⟨fun h => by have := h3 (by omega); omega, by omega⟩
          · rintro ⟨h1, h2⟩
            refine ⟨fun x hx => h1 x (by simp [hx]), fun k hk => ?_⟩
            obtain ⟨h3, h4⟩ := h2 k hk
            rw [occ_cons] at h3 h4
            by_cases hkj : k = j
            · subst hkj
              rw [if_pos hfi] at h3 h4
              have hs : (cs.set k (cs.getD k 0 + 1)).getD k 0 = cs.getD k 0 + 1 := by simp [List.getD, hjc]
              rw [hs]
              exact ⟨fun _ => by have := h3 (by omega); omega, by omega⟩
            · have hs : (cs.set j (cs.getD j 0 + 1)).getD k 0 = cs.getD k 0 := by
                simp [List.getD, List.getElem?_set, show ¬ j = k from fun e => hkj e.symm]
              rw [hs]
              rw [if_neg (by rw [hfi]; omega)] at h3 h4
              exact ⟨fun h => by have := h3 (by omega); omega, by omega⟩
        · rw [if_pos hz]
          constructor
          · intro h; exact absurd h.1 hz
          · rintro ⟨h1, _⟩
            obtain ⟨j', h2, _, h3⟩ := h1 l (by simp)
            have : j' = j := by omega
            subst this
            exact absurd h3 hz
/-- Lines that match. -/
def Fine (fs : List Form) (ls : List Line) : Prop := (∀ l ∈ ls, goodL fs l) ∧ ∀ j, j < fs.length → (0 < occ fs j ls → (occ fs j ls : Int) ≤ (fs.getD j default).most) ∧ (fs.getD j default).least ≤ (occ fs j ls : Int)
def matchF (fs : List Form) (ls : List Line) : Flt := if (lowM ls fs (List.replicate fs.length 0)).2 = true then (9, 1, 1) else (lowM ls fs (List.replicate fs.length 0)).1
theorem match_iff (fs : List Form) (ls : List Line) : (matchF fs ls).1 = 0 ↔ Fine fs ls := by
  have h := low_iff fs ls (List.replicate fs.length 0) (by simp)
  have hz : ∀ j, (List.replicate fs.length (0 : Int)).getD j 0 = 0 := fun j => by
    simp only [List.getD, List.getElem?_replicate]; split <;> rfl
  simp only [hz, Int.zero_add] at h
  unfold Fine
  rw [← h, matchF, lowOk]
  cases (lowM ls fs (List.replicate fs.length 0)).2 <;> simp
theorem Fine.perm {fs : List Form} {ls ms : List Line} (h : ls.Perm ms) (hf : Fine fs ls) : Fine fs ms := by
  have ho : ∀ j, occ fs j ls = occ fs j ms := fun j => h.countP_eq _
  refine ⟨fun l hl => hf.1 l (h.mem_iff.2 hl), fun j hj => ?_⟩
  rw [← ho j]; exact hf.2 j hj
theorem c15L (fs : List Form) (hsm : smallFs fs) (hcnt : cntFs fs ≤ 40) (hv : checkS fs = 0) (b1 b2 : Bool) (o : Own) (ls : List Line) (hfew : fewLs ls) (hcl : cntLs ls ≤ 20000) (s : St) (K : AV → St → Prop) :
    CallW cx 15 [slv b1 fs.length (encFs fs), slo o b2 ls.length (encLs ls)] s K = K (.tuple [encFl (matchF fs ls), .int .i64 0]) s := by
  refine CallW.eq (CallW.fn' (fn := ir15) rfl rfl (by kernel_rfl) ir15.eq_1 ?_) K
  have k13 := fun st K => c13 fs hsm hcnt b1 st K
  rw [hv] at k13
  have k40 := fun st K => c40 ls o fs b1 b2 st K hsm hcnt hfew hcl
  unfold matchF
  generalize hm : lowM ls fs (List.replicate fs.length 0) = m at *
  simp only [encFl] at k40
  cases h2 : m.2 with
  | true =>
    simp (config := {contextual := true, implicitDefEqProofs := false, maxSteps := 4000000}) only [go_sem, ↓reduceIte, Bool.false_eq_true, Nat.reduceEqDiff, Nat.reduceAdd, Int.reduceLE, Int.reduceLT, Int.reduceEq, Int.reduceToNat, Int.toNat_natCast, Int.cast_ofNat_Int, Int.natCast_one, Nat.reduceMod, Nat.reduceDiv, UInt8.reduceToNat, Nat.reduceLT, k13, k40, h2, show decide ((0 : Int) ≠ 0) = false from rfl]
    simp [encFl]
  | false =>
    simp (config := {contextual := true, implicitDefEqProofs := false, maxSteps := 4000000}) only [go_sem, ↓reduceIte, Bool.false_eq_true, Nat.reduceEqDiff, Nat.reduceAdd, Int.reduceLE, Int.reduceLT, Int.reduceEq, Int.reduceToNat, Int.toNat_natCast, Int.cast_ofNat_Int, Int.natCast_one, Nat.reduceMod, Nat.reduceDiv, UInt8.reduceToNat, Nat.reduceLT, k13, k40, h2, show decide ((0 : Int) ≠ 0) = false from rfl]
    simp [encFl]
theorem c15 (fs : List Form) (hsm : smallFs fs) (hcnt : cntFs fs ≤ 40) (hv : checkS fs = 0) (b1 b2 : Bool) (o : Own) (ls : List Line) (hfew : fewLs ls) (hcl : cntLs ls ≤ 300) (s : St) (K : AV → St → Prop) :
    CallW cx 15 [slv b1 fs.length (encFs fs), slo o b2 ls.length (encLs ls)] s K = K (.tuple [encFl (matchF fs ls), .int .i64 0]) s := c15L fs hsm hcnt hv b1 b2 o ls hfew (by omega) s K
end T10
