/- What the check of forms computes: the walks over the tree. -/
import Derived.Test.YtgpfcgpgbflpgaaK10h
namespace T10
open Go Fw Go.Proofs
set_option maxRecDepth 100000
set_option linter.unusedSimpArgs false
set_option linter.unusedVariables false
mutual
def smallF : Form → Prop
  | .mk w an a kn k l m => w.length ≤ 100 ∧ a.length ≤ 12 ∧ (∀ x ∈ a, x.length ≤ 100) ∧ smallFs k
def smallFs : List Form → Prop
  | [] => True
  | f :: fs => smallF f ∧ smallFs fs
end
mutual
def cntF : Form → Nat
  | .mk w an a kn k l m => 1 + cntFs k
def cntFs : List Form → Nat
  | [] => 0
  | f :: fs => cntF f + cntFs fs
end
theorem smallF_eq (f : Form) : smallF f = (f.word.length ≤ 100 ∧ f.args.length ≤ 12 ∧ (∀ x ∈ f.args, x.length ≤ 100) ∧ smallFs f.kids) := by
  cases f; simp only [smallF, Form.word, Form.args, Form.kids]
theorem cntF_eq (f : Form) : cntF f = 1 + cntFs f.kids := by cases f; simp only [cntF, Form.kids]
theorem smallFs_mem : ∀ {fs : List Form}, smallFs fs → ∀ f ∈ fs, smallF f
  | [], _, _, h => by simp at h
  | g :: fs, hs, f, h => by
    simp only [smallFs] at hs
    rcases List.mem_cons.1 h with rfl | h
    · exact hs.1
    · exact smallFs_mem hs.2 f h
theorem cntFs_mem : ∀ {fs : List Form}, ∀ f ∈ fs, cntFs f.kids + 1 ≤ cntFs fs
  | g :: fs, f, h => by
    simp only [cntFs]
    rcases List.mem_cons.1 h with rfl | h
    · rw [cntF_eq]; omega
    · have := cntFs_mem f h; omega
theorem cntFs_length : ∀ (fs : List Form), fs.length ≤ cntFs fs
  | [] => by simp [cntFs]
  | f :: fs => by have := cntFs_length fs; simp only [cntFs, List.length_cons, cntF_eq]; omega
theorem room_small : ∀ (fs : List Form) (m : Int), -1 ≤ m → 0 ≤ roomFs fs m → smallFs fs ∧ roomFs fs m = m - cntFs fs := by
  refine forms_ind fun fs ih => ?_
  induction fs with
  | nil => intro m hm h; simp [smallFs, roomFs, cntFs]
  | cons f fs ih2 =>
    intro m hm h
    simp only [roomFs] at h ⊢
    split at h
    · omega
    rename_i hm0
    rw [if_neg hm0]
    rw [roomF_eq] at h ⊢
    have hneg : roomFs fs (-1) < 0 := by have := roomFs_le fs (-1) (by omega); omega
    split at h
    · omega
    rename_i hb
    rw [if_neg hb]
    have hk := roomFs_le f.kids (m - 1) (by omega)
    obtain ⟨h1, h2⟩ := ih2 (fun g hg => ih g (by simp [hg])) (roomFs f.kids (m - 1)) hk.1 h
    have hk0 : 0 ≤ roomFs f.kids (m - 1) := by
      have := roomFs_le fs (roomFs f.kids (m - 1)) hk.1; omega
    obtain ⟨h3, h4⟩ := ih f (by simp) (m - 1) (by omega) hk0
    simp only [badF, Bool.or_eq_true, decide_eq_true_eq, not_or, List.any_eq_true, not_exists, not_and] at hb
    refine ⟨?_, ?_⟩
    · simp only [smallFs, smallF_eq]
      exact ⟨⟨by omega, by omega, fun x hx => by have := hb.2 x hx; omega, h3⟩, h1⟩
    · rw [h2, h4]; simp only [cntFs, cntF_eq]; omega

/- the walk over the tree -/
mutual
def allF (chk : List Form → Int → Int) : Form → Int → Int
  | .mk w an a kn k l m, d => if chk k (d + 1) ≠ 0 then chk k (d + 1) else allGo chk k (d + 1)
def allGo (chk : List Form → Int → Int) : List Form → Int → Int
  | [], _ => 0
  | f :: fs, d => if allF chk f d ≠ 0 then allF chk f d else allGo chk fs d
end
def allS (chk : List Form → Int → Int) (fs : List Form) (d : Int) : Int := if chk fs d ≠ 0 then chk fs d else allGo chk fs d
theorem allF_eq (chk : List Form → Int → Int) (f : Form) (d : Int) : allF chk f d = allS chk f.kids (d + 1) := by cases f; simp only [allF, Form.kids, allS]; rfl

def Same (N : Nat) (h : List (Nat × AObj)) (st : St) : Prop := N ≤ st.next ∧ ∀ i, i < N → Fw.look i st.heap = Fw.look i h
theorem Same.low {N : Nat} {h : List (Nat × AObj)} {st : St} (k : Same N h st) (l : Nat) : Same N h { heap := st.heap, next := st.next, low := l } := k
theorem Same.new {N : Nat} {h : List (Nat × AObj)} {st : St} (k : Same N h st) (l : Nat) (o : AObj) : Same N h { heap := (st.next, o) :: st.heap, next := st.next + 1, low := l } :=
  ⟨by have := k.1; simp only; omega, fun i hi => by
    have := k.1
    simp only [Fw.look]
    rw [if_neg (by omega)]; exact k.2 i hi⟩
def ChkOk (fv : AV) (chk : List Form → Int → Int) (N : Nat) (h : List (Nat × AObj)) : Prop :=
  ∀ (fs : List Form) (b : Bool) (d : Int) (st : St) (K : AV → St → Prop), smallFs fs → cntFs fs ≤ 40 → Same N h st → FunK cx fv [slv b fs.length (encFs fs), .int .i64 d] st K = K (.int .i64 (chk fs d)) st

theorem patch_five (a b c d e : AV) (v : List AV) (h : v.length = 5) : patch [a, b, c, d, e] 0 v = some v := by
  simp [patch, h, List.drop_eq_nil_of_le]

theorem l37 (fv : AV) (chk : List Form → Int → Int) (N : Nat) (h0 : List (Nat × AObj)) (b : Bool) (fs : List Form) (hsm : smallFs fs) (d : Int) (hd0 : 0 ≤ d) (hd1 : d ≤ 1000) (L : Nat) (hcnt : fs.length ≤ 40)
    (ih : ∀ f ∈ fs, ∀ (b : Bool) (st : St) (K : AV → St → Prop), Same N h0 st → CallW cx 37 [slv b f.kids.length (encFs f.kids), .int .i64 (d + 1), fv] st K = K (.int .i64 (allS chk f.kids (d + 1))) st)
    (Q : Sig → FE → St → Prop) : ∀ (n i : Nat) (e : FE) (st : St), i + n = fs.length → Same N h0 st → st.low = L → L ≤ st.next → e 1 = .int .i64 d → e 2 = fv → e 18 = slv b fs.length (encFs fs) → e 19 = .int .i64 fs.length → e 20 = .int .i64 i →
    (allGo chk (fs.drop i) d = 0 → ∀ e' st', st'.low = L → Q (.exit 0) e' st') → (allGo chk (fs.drop i) d ≠ 0 → ∀ e' st', st'.low = L → e' 6 = .int .i64 (allGo chk (fs.drop i) d) → Q .ret e' st') → WLoop cx ir37L0 e st Q
  | 0, i, e, st, hi, hS, hL, hLn, h1, h2, h18, h19, h20, hT, hF => by
    refine WLoop.rnd (c := _) ir37L0.eq_1 ?_
    have hd : decide ((i : Int) < (fs.length : Int)) = false := by simp; omega
    simp (config := {contextual := true, implicitDefEqProofs := false, maxSteps := 4000000}) only [go_sem, ↓reduceIte, Bool.false_eq_true, Nat.reduceEqDiff, Nat.reduceAdd, Int.reduceLE, Int.reduceLT, Int.reduceEq, Int.reduceToNat, Int.toNat_natCast, Int.cast_ofNat_Int, Int.natCast_one, Nat.reduceMod, Nat.reduceDiv, UInt8.reduceToNat, Nat.reduceLT, h18, h19, h20, hd]
    exact hT (by rw [List.drop_eq_nil_of_le (by omega)]; simp only [allGo]) _ _ hL
  | n + 1, i, e, st, hi, hS, hL, hLn, h1, h2, h18, h19, h20, hT, hF => by
    refine WLoop.rnd (c := _) ir37L0.eq_1 ?_
    have hd : decide ((i : Int) < (fs.length : Int)) = true := by simp; omega
    have hw := wrap_one (i := i) (by omega)
    have hlt : i < fs.length := by omega
    have hw1 : IntKind.i64.wrap (d + 1) = d + 1 := wrap_i64 (by omega) (by omega)
    have hmin : min st.low st.next = st.low := by omega
    have hS' := hS.new st.low (.cells (some 55) [.str fs[i].word, slv fs[i].an fs[i].args.length (fs[i].args.map AV.str), slv fs[i].kn fs[i].kids.length (encFs fs[i].kids), .int .i64 fs[i].least, .int .i64 fs[i].most])
    have hc := fun K => ih fs[i] (List.getElem_mem hlt) fs[i].kn _ K hS'
    rw [List.drop_eq_getElem_cons hlt] at hT hF
    simp only [allGo, allF_eq] at hT hF
    simp (config := {contextual := true, implicitDefEqProofs := false, maxSteps := 4000000}) only [go_sem, ↓reduceIte, Bool.false_eq_true, Nat.reduceEqDiff, Nat.reduceAdd, Int.reduceLE, Int.reduceLT, Int.reduceEq, Int.reduceToNat, Int.toNat_natCast, Int.cast_ofNat_Int, Int.natCast_one, Nat.reduceMod, Nat.reduceDiv, UInt8.reduceToNat, Nat.reduceLT, h1, h2, h18, h19, h20, hd, hw, hw1, sub_form hlt, encF_eq, hmin, hc]
    refine ⟨by omega, ?_⟩
    by_cases hv : allS chk fs[i].kids (d + 1) = 0
    · have hx : decide (allS chk fs[i].kids (d + 1) ≠ 0) = false := by simp [hv]
      rw [hx, pif_false]
      rw [if_neg (by simp [hv])] at hT hF
      exact l37 fv chk N h0 b fs hsm d hd0 hd1 L hcnt ih Q n (i + 1) _ _ (by omega) hS' hL (by simp only; omega) h1 h2 h18 h19 rfl hT hF
    · have hx : decide (allS chk fs[i].kids (d + 1) ≠ 0) = true := by simp [hv]
      rw [hx, pif_true]
      rw [if_pos hv] at hF
      exact hF hv _ _ hL rfl
theorem c37 (fv : AV) (chk : List Form → Int → Int) (N : Nat) (h0 : List (Nat × AObj)) (hf : ChkOk fv chk N h0) : ∀ (fs : List Form) (b : Bool) (d : Int) (s : St) (K : AV → St → Prop), smallFs fs → 0 ≤ d → cntFs fs ≤ 40 → d + cntFs fs ≤ 100 → Same N h0 s →
    CallW cx 37 [slv b fs.length (encFs fs), .int .i64 d, fv] s K = K (.int .i64 (allS chk fs d)) s := by
  refine forms_ind fun fs ih => ?_
  intro b d s K hsm hd0 hcnt hdc hS
  refine CallW.eq (CallW.fn' (fn := ir37) rfl rfl (by kernel_rfl) ir37.eq_1 ?_) K
  have hc := fun K => hf fs b d _ K hsm hcnt (hS.low s.next)
  have hlen := cntFs_length fs
  by_cases hv : chk fs d = 0
  · have hx : decide (chk fs d ≠ 0) = false := by simp [hv]
    have hall : allS chk fs d = allGo chk fs d := by simp [allS, hv]
    simp (config := {contextual := true, implicitDefEqProofs := false, maxSteps := 4000000}) only [go_sem, ↓reduceIte, Bool.false_eq_true, Nat.reduceEqDiff, Nat.reduceAdd, Int.reduceLE, Int.reduceLT, Int.reduceEq, Int.reduceToNat, Int.toNat_natCast, Int.cast_ofNat_Int, Int.natCast_one, Nat.reduceMod, Nat.reduceDiv, UInt8.reduceToNat, Nat.reduceLT, hc, hx]
    refine l37 fv chk N h0 b fs hsm d hd0 (by omega) s.next (by omega) (fun f hf b st K hS => ?_) _ fs.length 0 _ _ (by omega) (hS.low s.next) rfl (Nat.le_refl _) rfl rfl rfl rfl rfl ?_ ?_
    · have h1 := cntFs_mem f hf
      have h2 := smallFs_mem hsm f hf
      rw [smallF_eq] at h2
      exact ih f hf b (d + 1) st K h2.2.2.2 (by omega) (by omega) (by omega) hS
    · intro h e' st' hl
      rw [List.drop_zero] at h
      simp (config := {contextual := true, implicitDefEqProofs := false, maxSteps := 4000000}) only [go_sem, ↓reduceIte, Bool.false_eq_true, Nat.reduceEqDiff, Nat.reduceAdd, Int.reduceLE, Int.reduceLT, Int.reduceEq, Int.reduceToNat, Int.toNat_natCast, Int.cast_ofNat_Int, Int.natCast_one, Nat.reduceMod, Nat.reduceDiv, UInt8.reduceToNat, Nat.reduceLT]
      rw [LeaveW_int _ _ (by omega)]
      exact ⟨by rw [hall, h], rfl⟩
    · intro h e' st' hl h6
      rw [List.drop_zero] at h6
      simp (config := {contextual := true, implicitDefEqProofs := false, maxSteps := 4000000}) only [go_sem, ↓reduceIte, Bool.false_eq_true, Nat.reduceEqDiff, Nat.reduceAdd, Int.reduceLE, Int.reduceLT, Int.reduceEq, Int.reduceToNat, Int.toNat_natCast, Int.cast_ofNat_Int, Int.natCast_one, Nat.reduceMod, Nat.reduceDiv, UInt8.reduceToNat, Nat.reduceLT, h6]
      rw [LeaveW_int _ _ (by omega)]
      exact ⟨by rw [hall], rfl⟩
  · have hx : decide (chk fs d ≠ 0) = true := by simp [hv]
    have hall : allS chk fs d = chk fs d := by simp [allS, hv]
    simp (config := {contextual := true, implicitDefEqProofs := false, maxSteps := 4000000}) only [go_sem, ↓reduceIte, Bool.false_eq_true, Nat.reduceEqDiff, Nat.reduceAdd, Int.reduceLE, Int.reduceLT, Int.reduceEq, Int.reduceToNat, Int.toNat_natCast, Int.cast_ofNat_Int, Int.natCast_one, Nat.reduceMod, Nat.reduceDiv, UInt8.reduceToNat, Nat.reduceLT, hc, hx]
    rw [hall]
end T10
