/- Parts of the proof, one behind the other. -/
import Derived.Test.YtgpfcgpgbflpgaaK10xc
/- example. -/
namespace T10
open Go Fw Go.Proofs
set_option maxRecDepth 100000
set_option linter.unusedSimpArgs false
set_option linter.unusedVariables false
/-- The tokens of the line that is made: alone without room, or owned by a token. -/
def TokOk (q n : Nat) (o : Own) (st : St) : Prop := (n = 1 ∧ o = .full) ∨ (1 < n ∧ ∃ t, o = .tok t n ∧ q < t ∧ t < st.next ∧ Fw.look t st.heap = some (.tok 23 n 4))
def OutOk (L q n : Nat) (o : Own) (h : List (Nat × AObj)) : Prop := n = 0 ∨ ∃ t, o = .tok t n ∧ L ≤ t ∧ t < q ∧ Fw.look t h = some (.tok 49 n 4)
def Kp (e : FE) (v3 v5 v11 v12 v13 v18 v19 : AV) : Prop := e 3 = v3 ∧ e 5 = v5 ∧ e 11 = v11 ∧ e 12 = v12 ∧ e 13 = v13 ∧ e 18 = v18 ∧ e 19 = v19
theorem l39a (f : Form) (hargs : f.args.length ≤ 12) (hk : ∀ a ∈ f.args, knownB (splitW a) = true ∧ a.length ≤ 100) (q : Nat) (kb : Bool) (kls : List Line) (h : Bool) (h0 : List (Nat × AObj)) (L : Nat) (v3 v5 v11 v12 v13 v18 v19 : AV) (Q : Sig → FE → St → Prop) :
    ∀ (n i : Nat) (ts : List Tok) (o : Own) (e : FE) (st : St), i + n = f.args.length → ts.length ≤ i + 1 → 1 ≤ ts.length → st.low = L → L ≤ q → q < st.next → TokOk q ts.length o st → (∀ x, x < q → Fw.look x st.heap = Fw.look x h0) →
    Fw.look q st.heap = some (.cells (some 49) [.slice (encTs ts) ts.length o, .bool h, slv kb kls.length (encLs kls), .int .i64 0]) →
    e 6 = .ptr q 0 → e 34 = slv f.an f.args.length (f.args.map AV.str) → e 35 = .int .i64 f.args.length → e 36 = .int .i64 i → Kp e v3 v5 v11 v12 v13 v18 v19 →
    (∀ (ts' : List Tok) (o' : Own) (e' : FE) (st' : St), ts' = ts ++ exTs (f.args.drop i) → st'.low = L → q < st'.next → TokOk q ts'.length o' st' → (∀ x, x < q → Fw.look x st'.heap = Fw.look x h0) →
      Fw.look q st'.heap = some (.cells (some 49) [.slice (encTs ts') ts'.length o', .bool h, slv kb kls.length (encLs kls), .int .i64 0]) → e' 6 = .ptr q 0 → Kp e' v3 v5 v11 v12 v13 v18 v19 → Q (.exit 4) e' st') → WLoop cx ir39L0 e st Q
  | 0, i, ts, o, e, st, hi, hts, hts1, hL, hLq, hq, hto, hold, hql, h6, h34, h35, h36, hkp, hT => by
    refine WLoop.rnd (c := _) ir39L0.eq_1 ?_
    have hd : decide ((i : Int) < (f.args.length : Int)) = false := by simp; omega
    simp (config := {contextual := true, implicitDefEqProofs := false, maxSteps := 4000000}) only [go_sem, ↓reduceIte, Bool.false_eq_true, Nat.reduceEqDiff, Nat.reduceAdd, Int.reduceLE, Int.reduceLT, Int.reduceEq, Int.reduceToNat, Int.toNat_natCast, Int.cast_ofNat_Int, Int.natCast_one, Nat.reduceMod, Nat.reduceDiv, UInt8.reduceToNat, Nat.reduceLT, h6, h34, h35, h36, hd]
    exact hT ts o _ _ (by rw [List.drop_eq_nil_of_le (by omega)]; simp [exTs]) hL hq hto hold hql h6 hkp
  | n + 1, i, ts, o, e, st, hi, hts, hts1, hL, hLq, hq, hto, hold, hql, h6, h34, h35, h36, hkp, hT => by
    refine WLoop.rnd (c := _) ir39L0.eq_1 ?_
    have hd : decide ((i : Int) < (f.args.length : Int)) = true := by simp; omega
    have hw := wrap_one (i := i) (by omega)
    have hlt : i < f.args.length := by omega
    obtain ⟨hkn, hal⟩ := hk _ (List.getElem_mem hlt)
    have k51 := fun st K => c51 f.args[i] (by omega) st K
    rw [List.drop_eq_getElem_cons hlt] at hT
    simp only [exTs] at hT
    cases hs : splitB f.args[i] with
    | true =>
      rw [hs] at hT
      simp only [if_true] at hT
      simp (config := {contextual := true, implicitDefEqProofs := false, maxSteps := 4000000}) only [go_sem, ↓reduceIte, Bool.false_eq_true, Nat.reduceEqDiff, Nat.reduceAdd, Int.reduceLE, Int.reduceLT, Int.reduceEq, Int.reduceToNat, Int.toNat_natCast, Int.cast_ofNat_Int, Int.natCast_one, Nat.reduceMod, Nat.reduceDiv, UInt8.reduceToNat, Nat.reduceLT, h6, h34, h35, h36, hd, hw, sub_str hlt, k51, hs]
      refine ⟨by omega, ?_⟩
      exact l39a f hargs hk q kb kls h h0 L v3 v5 v11 v12 v13 v18 v19 Q n (i + 1) ts o _ _ (by omega) (by omega) hts1 hL hLq hq hto hold hql h6 h34 h35 rfl hkp hT
    | false =>
      rw [hs] at hT
      simp only [Bool.false_eq_true, if_false] at hT
      have hsl : (splitW f.args[i]).length ≤ 100 := by unfold splitW; rw [hs]; simpa using hal
      have k53 := fun st K => c53 (splitW f.args[i]) hkn hsl st K
      simp only [encT] at k53
      have hmq : min st.low q = st.low := by omega
      have hnn : (st.next + 1 = st.next) = False := by simp
      have hnq : (st.next = q) = False := by simp; omega
      rcases hto with ⟨h1, rfl⟩ | ⟨h1, t, rfl, h2, h3, h4⟩
      · have ka := fun st => appT_full st ts (sampT (splitW f.args[i])) (by omega)
        simp (config := {contextual := true, implicitDefEqProofs := false, maxSteps := 4000000}) only [go_sem, ↓reduceIte, Bool.false_eq_true, Nat.reduceEqDiff, Nat.reduceAdd, Int.reduceLE, Int.reduceLT, Int.reduceEq, Int.reduceToNat, Int.toNat_natCast, Int.cast_ofNat_Int, Int.natCast_one, Nat.reduceMod, Nat.reduceDiv, UInt8.reduceToNat, Nat.reduceLT, h6, h34, h35, h36, hd, hw, sub_str hlt, k51, hs, hql, k53, ka, hnn, hnq, hmq, and_self, false_and, decide_false, Nat.min_self]
        refine ⟨by omega, ?_⟩
        have hlen : (ts ++ [sampT (splitW f.args[i])]).length = ts.length + 1 := by simp
        refine l39a f hargs hk q kb kls h h0 L v3 v5 v11 v12 v13 v18 v19 Q n (i + 1) (ts ++ [sampT (splitW f.args[i])]) (.tok st.next (ts ++ [sampT (splitW f.args[i])]).length) _ _ (by omega) (by omega) (by omega) (by simp only; omega) hLq (by simp only; omega) (.inr ⟨by omega, st.next, rfl, hq, by simp, by simp [Fw.look]⟩) ?_ ?_ h6 h34 h35 rfl hkp
          (fun ts' o' e' st' hts' => hT ts' o' e' st' (by rw [hts', List.append_assoc]; rfl))
        · intro x hx
          simp only [Fw.look]; rw [if_neg (by omega), look_put, if_neg (by omega)]; exact hold x hx
        · simp only [Fw.look]; rw [if_neg (by omega), look_put, if_pos rfl, hql]; rfl
      · have ka := fun st hk => appT_tok st ts (sampT (splitW f.args[i])) t hk (by omega)
        have hmt : min st.next t = t := by omega
        have htn : (t = st.next) = False := by simp; omega
        have hmlt : min st.low t = st.low := by omega
        have hqt : ∀ o, Fw.look q (put t o st.heap) = Fw.look q st.heap := fun o => by rw [look_put, if_neg (by omega)]
        simp (config := {contextual := true, implicitDefEqProofs := false, maxSteps := 4000000}) only [go_sem, ↓reduceIte, Bool.false_eq_true, Nat.reduceEqDiff, Nat.reduceAdd, Int.reduceLE, Int.reduceLT, Int.reduceEq, Int.reduceToNat, Int.toNat_natCast, Int.cast_ofNat_Int, Int.natCast_one, Nat.reduceMod, Nat.reduceDiv, UInt8.reduceToNat, Nat.reduceLT, h6, h34, h35, h36, hd, hw, sub_str hlt, k51, hs, hql, k53, ka, h4, hmt, htn, hmlt, hqt, hmq, and_self, and_false, false_and, decide_false, Nat.min_self]
        refine ⟨by omega, ?_⟩
        have hlen : (ts ++ [sampT (splitW f.args[i])]).length = ts.length + 1 := by simp
        refine l39a f hargs hk q kb kls h h0 L v3 v5 v11 v12 v13 v18 v19 Q n (i + 1) (ts ++ [sampT (splitW f.args[i])]) (.tok t (ts ++ [sampT (splitW f.args[i])]).length) _ _ (by omega) (by omega) (by omega) hL hLq hq (.inr ⟨by omega, t, rfl, h2, h3, ?_⟩) ?_ ?_ h6 h34 h35 rfl hkp
          (fun ts' o' e' st' hts' => hT ts' o' e' st' (by rw [hts', List.append_assoc]; rfl))
        · rw [look_put, if_neg (by omega), look_put, if_pos rfl, h4]; rfl
        · intro x hx
          rw [look_put, if_neg (by omega), look_put, if_neg (by omega)]; exact hold x hx
        · rw [look_put, if_pos rfl, hqt, hql]; rfl
theorem OutOk.mono {L q q' n : Nat} {o : Own} {h h' : List (Nat × AObj)} (k : OutOk L q n o h) (hq : q ≤ q') (hh : ∀ x, x < q → Fw.look x h' = Fw.look x h) : OutOk L q' n o h' := by
  rcases k with k | ⟨t, k1, k2, k3, k4⟩
  · exact .inl k
  · exact .inr ⟨t, k1, k2, by omega, by rw [hh t k3]; exact k4⟩
theorem exL_full (f : Form) (ts : List Tok) (h : ts = ⟨1, f.word, 0, 0⟩ :: exTs f.args) (h1 : ts.length = 1) : slt (exL f).tn (exL f).toks.length (encTs (exL f).toks) = .slice (encTs ts) ts.length .full := by
  have h2 : (exTs f.args).length = 0 := by rw [h] at h1; simpa using h1
  have h3 : (exL f).tn = (false, true) := by simp only [exL, Line.tn, h2, decide_true]
  have h4 : (exL f).toks = ts := by rw [h]; rfl
  rw [h3, h4, slt_full]
theorem exL_no (f : Form) (ts : List Tok) (h : ts = ⟨1, f.word, 0, 0⟩ :: exTs f.args) (h1 : 1 < ts.length) : slt (exL f).tn (exL f).toks.length (encTs (exL f).toks) = .slice (encTs ts) ts.length .no := by
  have h2 : ¬ (exTs f.args).length = 0 := by rw [h] at h1; simp at h1; omega
  have h3 : (exL f).tn = (false, false) := by simp only [exL, Line.tn, h2, decide_false]
  have h4 : (exL f).toks = ts := by rw [h]; rfl
  rw [h3, h4, slt_no]; simp [slv]
theorem l39b (f : Form) (hsf : smallF f) (hk : ∀ a ∈ f.args, knownB (splitW a) = true ∧ a.length ≤ 100) (hkids : 0 < f.least → ∀ s K, CallW cx 39 [slv f.kn f.kids.length (encFs f.kids)] s K = K (slv true (exFs f.kids).length (encLs (exFs f.kids))) s) (p L : Nat) (v11 v12 v13 : AV) (Q : Sig → FE → St → Prop) :
    ∀ (n r : Nat) (out : List Line) (oo : Own) (e : FE) (st : St), (r + n : Nat) = f.least → f.least ≤ 1000 → out.length + n ≤ 2000 → st.low = L → L ≤ p → p < st.next → Fw.look p st.heap = some (.cells (some 55) [.str f.word, slv f.an f.args.length (f.args.map AV.str), slv f.kn f.kids.length (encFs f.kids), .int .i64 f.least, .int .i64 f.most]) → OutOk L st.next out.length oo st.heap →
    e 3 = slo oo true out.length (encLs out) → e 5 = .ptr p 0 → e 11 = v11 → e 12 = v12 → e 13 = v13 → e 18 = .int .i64 f.least → e 19 = .int .i64 r →
    (∀ (oo' : Own) (out' : List Line) (e' : FE) (st' : St), out' = out ++ List.replicate n (exL f) → st'.low = L → st.next ≤ st'.next → OutOk L st'.next out'.length oo' st'.heap → e' 3 = slo oo' true out'.length (encLs out') → e' 11 = v11 → e' 12 = v12 → e' 13 = v13 → Q (.exit 2) e' st') → WLoop cx ir39L1 e st Q
  | 0, r, out, oo, e, st, hi, hle, hout, hL, hLp, hp, hpl, hoo, h3, h5, h11, h12, h13, h18, h19, hT => by
    refine WLoop.rnd (c := _) ir39L1.eq_1 ?_
    have hd : decide ((r : Int) < f.least) = false := by simp; omega
    simp (config := {contextual := true, implicitDefEqProofs := false, maxSteps := 4000000}) only [go_sem, ↓reduceIte, Bool.false_eq_true, Nat.reduceEqDiff, Nat.reduceAdd, Int.reduceLE, Int.reduceLT, Int.reduceEq, Int.reduceToNat, Int.toNat_natCast, Int.cast_ofNat_Int, Int.natCast_one, Nat.reduceMod, Nat.reduceDiv, UInt8.reduceToNat, Nat.reduceLT, h18, h19, hd]
    exact hT oo out _ _ (by simp) hL (Nat.le_refl _) hoo h3 h11 h12 h13
  | n + 1, r, out, oo, e, st, hi, hle, hout, hL, hLp, hp, hpl, hoo, h3, h5, h11, h12, h13, h18, h19, hT => by
    refine WLoop.rnd (c := _) ir39L1.eq_1 ?_
    have hd : decide ((r : Int) < f.least) = true := by simp; omega
    have hw := wrap_one (i := r) (by omega)
    have h3k : decide (0 < (f.kids.length : Int)) = decide (0 < f.kids.length) := by congr 1; simp
    have kk := hkids (by omega)
    rw [smallF_eq] at hsf
    have hmn : min st.low st.next = st.low := by omega
    have hpn : (st.next = p) = False := by simp; omega
    simp (config := {contextual := true, implicitDefEqProofs := false, maxSteps := 4000000}) only [go_sem, ↓reduceIte, Bool.false_eq_true, Nat.reduceEqDiff, Nat.reduceAdd, Int.reduceLE, Int.reduceLT, Int.reduceEq, Int.reduceToNat, Int.toNat_natCast, Int.cast_ofNat_Int, Int.natCast_one, Nat.reduceMod, Nat.reduceDiv, UInt8.reduceToNat, Nat.reduceLT, h5, h18, h19, hd, hpl, kk, h3k, hmn, hpn, and_self, decide_true]
    refine l39a f hsf.2.1 hk st.next true (exFs f.kids) (decide (0 < f.kids.length)) st.heap L (slo oo true out.length (encLs out)) (.ptr p 0) v11 v12 v13 (.int .i64 f.least) (.int .i64 r) _ f.args.length 0 [⟨1, f.word, 0, 0⟩] .full _ _ (by omega) (by simp) (by simp) (by simp only; omega) (by omega) (by simp) (.inl ⟨rfl, rfl⟩) ?_ ?_ rfl rfl rfl rfl ⟨h3, h5, h11, h12, h13, h18, h19⟩ ?_
    · intro x hx; simp only [Fw.look]; rw [if_neg (by omega)]
    · simp only [Fw.look, ↓reduceIte]; rfl
    · intro ts' o' e' st' hts hlow hq hto hold hql k6 hkp
      obtain ⟨k3, k5, k11, k12, k13, k18, k19⟩ := hkp
      rw [List.drop_zero] at hts
      have hpl' := (hold p hp).trans hpl
      have hoo' := hoo.mono (q' := st'.next) (by omega) hold
      by_cases hn : out.length = 0
      · rcases hto with ⟨h1, rfl⟩ | ⟨h1, tt, rfl, _⟩
        · skip
          have hl : [slt (exL f).tn (exL f).toks.length (encTs (exL f).toks), .bool (exL f).head, slv (exL f).kn (exL f).kids.length (encLs (exL f).kids), .int .i64 (exL f).pos] = [.slice (encTs ts') ts'.length .full, .bool (decide (0 < f.kids.length)), slv true (exFs f.kids).length (encLs (exFs f.kids)), .int .i64 0] := by
            rw [exL_full f ts' hts h1]; rfl
          have ka := fun st => appL_nil st (exL f)
          rw [hl] at ka
          have k3' : e' 3 = .nilslice := by rw [k3]; simp [slo, hn]
          simp (config := {contextual := true, implicitDefEqProofs := false, maxSteps := 4000000}) only [go_sem, ↓reduceIte, Bool.false_eq_true, Nat.reduceEqDiff, Nat.reduceAdd, Int.reduceLE, Int.reduceLT, Int.reduceEq, Int.reduceToNat, Int.toNat_natCast, Int.cast_ofNat_Int, Int.natCast_one, Nat.reduceMod, Nat.reduceDiv, UInt8.reduceToNat, Nat.reduceLT, k3', k6, k5, k18, k19, hql, ka, hw]
          have ho : out = [] := List.eq_nil_of_length_eq_zero hn
          refine l39b f (by rw [smallF_eq]; exact hsf) hk hkids p L v11 v12 v13 Q n (r + 1) (out ++ [exL f]) (.tok st'.next 1) _ _ (by omega) hle (by simp; omega) hlow hLp (by simp only; omega) ?_ (.inr ⟨st'.next, by rw [ho]; rfl, by omega, by simp only; omega, by rw [ho]; simp [Fw.look]⟩) (by rw [ho]; rfl) k5 k11 k12 k13 k18 rfl
            (fun oo' out' e' st2 ho' hl2 hn2 => hT oo' out' e' st2 (by rw [ho', List.append_assoc, List.replicate_succ]; rfl) hl2 (by simp only at hn2; omega))
          simp only [Fw.look]; rw [if_neg (by omega)]; exact hpl'
        · skip
          have hl : [slt (exL f).tn (exL f).toks.length (encTs (exL f).toks), .bool (exL f).head, slv (exL f).kn (exL f).kids.length (encLs (exL f).kids), .int .i64 (exL f).pos] = [.slice (encTs ts') ts'.length .no, .bool (decide (0 < f.kids.length)), slv true (exFs f.kids).length (encLs (exFs f.kids)), .int .i64 0] := by
            rw [exL_no f ts' hts h1]; rfl
          have ka := fun st => appL_nil st (exL f)
          rw [hl] at ka
          have k3' : e' 3 = .nilslice := by rw [k3]; simp [slo, hn]
          simp (config := {contextual := true, implicitDefEqProofs := false, maxSteps := 4000000}) only [go_sem, ↓reduceIte, Bool.false_eq_true, Nat.reduceEqDiff, Nat.reduceAdd, Int.reduceLE, Int.reduceLT, Int.reduceEq, Int.reduceToNat, Int.toNat_natCast, Int.cast_ofNat_Int, Int.natCast_one, Nat.reduceMod, Nat.reduceDiv, UInt8.reduceToNat, Nat.reduceLT, k3', k6, k5, k18, k19, hql, ka, hw]
          have ho : out = [] := List.eq_nil_of_length_eq_zero hn
          refine l39b f (by rw [smallF_eq]; exact hsf) hk hkids p L v11 v12 v13 Q n (r + 1) (out ++ [exL f]) (.tok st'.next 1) _ _ (by omega) hle (by simp; omega) hlow hLp (by simp only; omega) ?_ (.inr ⟨st'.next, by rw [ho]; rfl, by omega, by simp only; omega, by rw [ho]; simp [Fw.look]⟩) (by rw [ho]; rfl) k5 k11 k12 k13 k18 rfl
            (fun oo' out' e' st2 ho' hl2 hn2 => hT oo' out' e' st2 (by rw [ho', List.append_assoc, List.replicate_succ]; rfl) hl2 (by simp only at hn2; omega))
          simp only [Fw.look]; rw [if_neg (by omega)]; exact hpl'
      · obtain ⟨t, rfl, ht2, ht3, ht4⟩ : ∃ t, oo = .tok t out.length ∧ L ≤ t ∧ t < st'.next ∧ Fw.look t st'.heap = some (.tok 49 out.length 4) := by
          rcases hoo' with h | h; exact absurd h hn; exact h
        rcases hto with ⟨h1, rfl⟩ | ⟨h1, tt, rfl, _⟩
        · skip
          have hl : [slt (exL f).tn (exL f).toks.length (encTs (exL f).toks), .bool (exL f).head, slv (exL f).kn (exL f).kids.length (encLs (exL f).kids), .int .i64 (exL f).pos] = [.slice (encTs ts') ts'.length .full, .bool (decide (0 < f.kids.length)), slv true (exFs f.kids).length (encLs (exFs f.kids)), .int .i64 0] := by
            rw [exL_full f ts' hts h1]; rfl
          have ka := fun st hk => appL_tok st out (exL f) t hk (by omega)
          rw [hl] at ka
          have k3' : e' 3 = .slice (encLs out) out.length (.tok t out.length) := by rw [k3]; simp [slo, hn]
          have hmt : min st'.low t = st'.low := by omega
          simp (config := {contextual := true, implicitDefEqProofs := false, maxSteps := 4000000}) only [go_sem, ↓reduceIte, Bool.false_eq_true, Nat.reduceEqDiff, Nat.reduceAdd, Int.reduceLE, Int.reduceLT, Int.reduceEq, Int.reduceToNat, Int.toNat_natCast, Int.cast_ofNat_Int, Int.natCast_one, Nat.reduceMod, Nat.reduceDiv, UInt8.reduceToNat, Nat.reduceLT, k3', k6, k5, k18, k19, hql, ka, hw, ht4, hmt]
          have hpt : p ≠ t := fun hh => by rw [hh, ht4] at hpl'; simp at hpl'
          refine l39b f (by rw [smallF_eq]; exact hsf) hk hkids p L v11 v12 v13 Q n (r + 1) (out ++ [exL f]) (.tok t (out ++ [exL f]).length) _ _ (by omega) hle (by simp; omega) hlow hLp (by simp only; omega) ?_ (.inr ⟨t, rfl, ht2, ht3, by simp only; rw [look_put, if_pos rfl, ht4]; rfl⟩) (by rw [show slo (.tok t (out ++ [exL f]).length) true (out ++ [exL f]).length (encLs (out ++ [exL f])) = .slice (encLs (out ++ [exL f])) (out ++ [exL f]).length (.tok t (out ++ [exL f]).length) by simp [slo]]; rfl) k5 k11 k12 k13 k18 rfl
            (fun oo' out' e' st2 ho' hl2 hn2 => hT oo' out' e' st2 (by rw [ho', List.append_assoc, List.replicate_succ]; rfl) hl2 (by simp only at hn2; omega))
          simp only; rw [look_put, if_neg hpt]; exact hpl'
        · skip
          have hl : [slt (exL f).tn (exL f).toks.length (encTs (exL f).toks), .bool (exL f).head, slv (exL f).kn (exL f).kids.length (encLs (exL f).kids), .int .i64 (exL f).pos] = [.slice (encTs ts') ts'.length .no, .bool (decide (0 < f.kids.length)), slv true (exFs f.kids).length (encLs (exFs f.kids)), .int .i64 0] := by
            rw [exL_no f ts' hts h1]; rfl
          have ka := fun st hk => appL_tok st out (exL f) t hk (by omega)
          rw [hl] at ka
          have k3' : e' 3 = .slice (encLs out) out.length (.tok t out.length) := by rw [k3]; simp [slo, hn]
          have hmt : min st'.low t = st'.low := by omega
          simp (config := {contextual := true, implicitDefEqProofs := false, maxSteps := 4000000}) only [go_sem, ↓reduceIte, Bool.false_eq_true, Nat.reduceEqDiff, Nat.reduceAdd, Int.reduceLE, Int.reduceLT, Int.reduceEq, Int.reduceToNat, Int.toNat_natCast, Int.cast_ofNat_Int, Int.natCast_one, Nat.reduceMod, Nat.reduceDiv, UInt8.reduceToNat, Nat.reduceLT, k3', k6, k5, k18, k19, hql, ka, hw, ht4, hmt]
          have hpt : p ≠ t := fun hh => by rw [hh, ht4] at hpl'; simp at hpl'
          refine l39b f (by rw [smallF_eq]; exact hsf) hk hkids p L v11 v12 v13 Q n (r + 1) (out ++ [exL f]) (.tok t (out ++ [exL f]).length) _ _ (by omega) hle (by simp; omega) hlow hLp (by simp only; omega) ?_ (.inr ⟨t, rfl, ht2, ht3, by simp only; rw [look_put, if_pos rfl, ht4]; rfl⟩) (by rw [show slo (.tok t (out ++ [exL f]).length) true (out ++ [exL f]).length (encLs (out ++ [exL f])) = .slice (encLs (out ++ [exL f])) (out ++ [exL f]).length (.tok t (out ++ [exL f]).length) by simp [slo]]; rfl) k5 k11 k12 k13 k18 rfl
            (fun oo' out' e' st2 ho' hl2 hn2 => hT oo' out' e' st2 (by rw [ho', List.append_assoc, List.replicate_succ]; rfl) hl2 (by simp only at hn2; omega))
          simp only; rw [look_put, if_neg hpt]; exact hpl'
theorem l39c (b : Bool) (fs : List Form) (hcnt : fs.length ≤ 40) (hsm : smallFs fs) (hg : goodS fs) (hsz : szFs fs ≤ 1000) (hkids : ∀ f ∈ fs, 0 < f.least → ∀ s K, CallW cx 39 [slv f.kn f.kids.length (encFs f.kids)] s K = K (slv true (exFs f.kids).length (encLs (exFs f.kids))) s) (L : Nat) (Q : Sig → FE → St → Prop) :
    ∀ (n i : Nat) (out : List Line) (oo : Own) (e : FE) (st : St), i + n = fs.length → out.length + szFs (fs.drop i) ≤ 1000 → st.low = L → L ≤ st.next → OutOk L st.next out.length oo st.heap →
    e 3 = slo oo true out.length (encLs out) → e 11 = slv b fs.length (encFs fs) → e 12 = .int .i64 fs.length → e 13 = .int .i64 i →
    (∀ (oo' : Own) (out' : List Line) (e' : FE) (st' : St), out' = out ++ exFs (fs.drop i) → st'.low = L → OutOk L st'.next out'.length oo' st'.heap → e' 3 = slo oo' true out'.length (encLs out') → Q (.exit 0) e' st') → WLoop cx ir39L2 e st Q
  | 0, i, out, oo, e, st, hi, hout, hL, hLn, hoo, h3, h11, h12, h13, hT => by
    refine WLoop.rnd (c := _) ir39L2.eq_1 ?_
    have hd : decide ((i : Int) < (fs.length : Int)) = false := by simp; omega
    simp (config := {contextual := true, implicitDefEqProofs := false, maxSteps := 4000000}) only [go_sem, ↓reduceIte, Bool.false_eq_true, Nat.reduceEqDiff, Nat.reduceAdd, Int.reduceLE, Int.reduceLT, Int.reduceEq, Int.reduceToNat, Int.toNat_natCast, Int.cast_ofNat_Int, Int.natCast_one, Nat.reduceMod, Nat.reduceDiv, UInt8.reduceToNat, Nat.reduceLT, h11, h12, h13, hd]
    exact hT oo out _ _ (by rw [List.drop_eq_nil_of_le (by omega)]; simp [exFs]) hL hoo h3
  | n + 1, i, out, oo, e, st, hi, hout, hL, hLn, hoo, h3, h11, h12, h13, hT => by
    refine WLoop.rnd (c := _) ir39L2.eq_1 ?_
    have hd : decide ((i : Int) < (fs.length : Int)) = true := by simp; omega
    have hw := wrap_one (i := i) (by omega)
    have hlt : i < fs.length := by omega
    have hmem := List.getElem_mem hlt
    have hsf := smallFs_mem hsm _ hmem
    obtain ⟨hkf, hlf⟩ := hg.1 _ hmem
    obtain ⟨g1, g2, _⟩ := limits_iff _ hlf
    have hmn : min st.low st.next = st.low := by omega
    rw [List.drop_eq_getElem_cons hlt] at hT hout
    simp only [szFs, szF_eq] at hout
    simp only [exFs, exF_eq] at hT
    have hm : fs[i].least.toNat * 1 ≤ fs[i].least.toNat * (1 + szFs fs[i].kids) := Nat.mul_le_mul_left _ (by omega)
    generalize fs[i].least.toNat * (1 + szFs fs[i].kids) = X at *
    have hka : ∀ a ∈ fs[i].args, knownB (splitW a) = true ∧ a.length ≤ 100 := fun a ha => by
      obtain ⟨j, hj, rfl⟩ := List.getElem_of_mem ha
      rw [smallF_eq] at hsf
      exact ⟨(kinds_get fs[i].args.length fs[i].args 0 hkf j hj).1, hsf.2.2.1 _ ha⟩
    simp (config := {contextual := true, implicitDefEqProofs := false, maxSteps := 4000000}) only [go_sem, ↓reduceIte, Bool.false_eq_true, Nat.reduceEqDiff, Nat.reduceAdd, Int.reduceLE, Int.reduceLT, Int.reduceEq, Int.reduceToNat, Int.toNat_natCast, Int.cast_ofNat_Int, Int.natCast_one, Nat.reduceMod, Nat.reduceDiv, UInt8.reduceToNat, Nat.reduceLT, h11, h12, h13, hd, sub_form hlt, encF_eq, hmn]
    refine ⟨by omega, ?_⟩
    refine l39b fs[i] hsf hka (hkids _ hmem) st.next L (slv b fs.length (encFs fs)) (.int .i64 fs.length) (.int .i64 i) _ fs[i].least.toNat 0 out oo _ _ (by omega) g2 (by omega) (by simp only; omega) hLn (by simp) (by simp [Fw.look]) (hoo.mono (by simp) fun x hx => by simp only [Fw.look]; rw [if_neg (by omega)]) h3 rfl h11 h12 h13 rfl rfl ?_
    intro oo' out' e' st' hout' hlow hnx hoo' k3 k11 k12 k13
    simp only at hnx
    simp (config := {contextual := true, implicitDefEqProofs := false, maxSteps := 4000000}) only [go_sem, ↓reduceIte, Bool.false_eq_true, Nat.reduceEqDiff, Nat.reduceAdd, Int.reduceLE, Int.reduceLT, Int.reduceEq, Int.reduceToNat, Int.toNat_natCast, Int.cast_ofNat_Int, Int.natCast_one, Nat.reduceMod, Nat.reduceDiv, UInt8.reduceToNat, Nat.reduceLT, k13, hw]
    refine l39c b fs hcnt hsm hg hsz hkids L Q n (i + 1) out' oo' _ _ (by omega) ?_ hlow (by omega) hoo' k3 k11 k12 rfl
      (fun oo2 out2 e2 st2 ho2 => hT oo2 out2 e2 st2 (by rw [ho2, hout', List.append_assoc]))
    rw [hout']; simp only [List.length_append, List.length_replicate]; omega
theorem c39 : ∀ (fs : List Form) (b : Bool) (s : St) (K : AV → St → Prop), cntFs fs ≤ 40 → smallFs fs → Deep goodS fs → szFs fs ≤ 1000 → CallW cx 39 [slv b fs.length (encFs fs)] s K = K (slv true (exFs fs).length (encLs (exFs fs))) s := by
  refine forms_ind fun fs ih => ?_
  intro b s K hcnt hsm hg hsz
  have hlen := cntFs_length fs
  have hszm : ∀ f ∈ fs, 0 < f.least → szFs f.kids ≤ 1000 := by
    intro f hf hp
    have h1 : ∀ gs : List Form, f ∈ gs → szF f ≤ szFs gs := by
      intro gs
      induction gs with
      | nil => intro h; simp at h
      | cons g gs ih2 =>
        intro h
        simp only [szFs]
        rcases List.mem_cons.1 h with rfl | h
        · omega
        · have := ih2 h; omega
    have h2 := h1 fs hf
    rw [szF_eq] at h2
    have h3 : 1 * (1 + szFs f.kids) ≤ f.least.toNat * (1 + szFs f.kids) := Nat.mul_le_mul_right _ (by omega)
    omega
  refine CallW.eq (CallW.fn' (fn := ir39) rfl rfl (by kernel_rfl) ir39.eq_1 ?_) K
  simp (config := {contextual := true, implicitDefEqProofs := false, maxSteps := 4000000}) only [go_sem, ↓reduceIte, Bool.false_eq_true, Nat.reduceEqDiff, Nat.reduceAdd, Int.reduceLE, Int.reduceLT, Int.reduceEq, Int.reduceToNat, Int.toNat_natCast, Int.cast_ofNat_Int, Int.natCast_one, Nat.reduceMod, Nat.reduceDiv, UInt8.reduceToNat, Nat.reduceLT]
  refine l39c b fs (by omega) hsm hg.top hsz (fun f hf hp s K => ih f hf f.kn s K (by have := cntFs_mem f hf; omega) ?_ (hg.kids f hf) (hszm f hf hp)) s.next _ fs.length 0 [] .no _ _ (by omega) (by simpa using hsz) rfl (Nat.le_refl _) (.inl rfl) rfl rfl rfl rfl ?_
  · have := smallFs_mem hsm f hf; rw [smallF_eq] at this; exact this.2.2.2
  · intro oo' out' e' st' hout' hl hoo k3
    rw [List.drop_zero, List.nil_append] at hout'
    subst hout'
    simp (config := {contextual := true, implicitDefEqProofs := false, maxSteps := 4000000}) only [go_sem, ↓reduceIte, Bool.false_eq_true, Nat.reduceEqDiff, Nat.reduceAdd, Int.reduceLE, Int.reduceLT, Int.reduceEq, Int.reduceToNat, Int.toNat_natCast, Int.cast_ofNat_Int, Int.natCast_one, Nat.reduceMod, Nat.reduceDiv, UInt8.reduceToNat, Nat.reduceLT, k3]
    rw [LeaveW_out ?_ (fun p => al_encLs p _) (by omega)]
    · exact ⟨rfl, rfl⟩
    · rcases hoo with h | ⟨t, h, h2, _⟩
      · exact .inl h
      · exact .inr ⟨t, _, h, h2⟩
end T10
