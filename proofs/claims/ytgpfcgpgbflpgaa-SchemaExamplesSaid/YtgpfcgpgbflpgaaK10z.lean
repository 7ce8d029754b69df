/- Parts of the proof, one behind the other. -/
import Derived.Test.YtgpfcgpgbflpgaaK10y
/- The reference's tokens. -/
namespace T10
open Go Fw Go.Proofs
set_option maxRecDepth 100000
set_option linter.unusedSimpArgs false
set_option linter.unusedVariables false
def lastA (args : List (List UInt8)) : List UInt8 := args.getD (args.length - 1) []
def kindR (args : List (List UInt8)) (i : Nat) : List UInt8 :=
  if args.length = 0 then [] else if i + 1 < args.length ∨ (i + 1 = args.length ∧ starB (lastA args) = false) then args.getD i [] else if starB (lastA args) = true then starW (lastA args) else []
def restR (args : List (List UInt8)) : List Tok → Nat → Option Nat
  | [], _ => none
  | t :: ts, i => if fitsT (kindR args i) t = true then restR args ts (i + 1) else some (i + 1)
def leastR (args : List (List UInt8)) : Nat := if args.length = 0 then 0 else if starB (lastA args) = true then args.length - 1 else args.length
def tokR (l : Line) (args : List (List UInt8)) : Option Nat := match restR args (l.toks.drop 1) 0 with
  | some k => some k
  | none => if l.toks.length - 1 < leastR args then some (l.toks.length - 1) else none
theorem posOf_rest (l : Line) (i : Nat) (h : i < (l.toks.drop 1).length) : posOf l (i + 1) = (l.toks.drop 1)[i].p := by
  rw [List.length_drop] at h
  have hne : l.toks ≠ [] := by intro h2; rw [h2] at h; simp at h
  have hm : min (i + 1) (l.toks.length - 1) = i + 1 := by omega
  simp only [posOf, hne, if_false, hm, List.getElem_drop, Nat.add_comm 1 i]
  rw [List.getD_eq_getElem?_getD, List.getElem?_eq_getElem (by omega), Option.getD_some]
theorem lenv_slice (cs : List AV) (n : Nat) (o : Own) : lenvA (.slice cs n o) = some (.int .i64 n) := rfl
theorem iaddr_slice (z : Nat) (o : Own) (n : Nat) (cs : List AV) (i : Int) (K : AV → Prop) : oget (iaddrA z none (.slice cs n o) i) K = ((0 ≤ i ∧ i < n) ∧ K (.vptr cs (i.toNat * z))) := by
  have := iaddr_slo z o false n cs i K
  simp only [slo, Bool.false_eq_true, false_and, if_false] at this
  exact this
theorem l47 (f : Form) (hargs : f.args.length ≤ 12) (hal : ∀ a ∈ f.args, a.length ≤ 100) (l : Line) (hl : l.toks.length ≤ 300) (htx : ∀ t ∈ l.toks, t.t.length ≤ 2000) (p q r : Nat) (o : Own) (st : St)
    (hp : Fw.look p st.heap = some (.cells (some 55) [.str f.word, slv f.an f.args.length (f.args.map AV.str), slv f.kn f.kids.length (encFs f.kids), .int .i64 f.least, .int .i64 f.most])) (hq : Fw.look q st.heap = some (.cells (some 49) [slt l.tn l.toks.length (encTs l.toks), .bool l.head, slv l.kn l.kids.length (encLs l.kids), .int .i64 l.pos])) (hr : Fw.look r st.heap = some (.cells (some 34) [.int .i64 0, .int .i64 0, .int .i64 0])) (Q : Sig → FE → St → Prop) :
    ∀ (n i : Nat) (e : FE), i + n = (l.toks.drop 1).length → e 2 = .ptr p 0 → e 3 = .ptr q 0 → e 4 = .ptr r 0 → e 5 = .slice (encTs (l.toks.drop 1)) (l.toks.drop 1).length o → e 6 = .int .i64 i →
    (restR f.args ((l.toks.drop 1).drop i) i = none → ∀ e', e' 2 = .ptr p 0 → e' 3 = .ptr q 0 → e' 4 = .ptr r 0 → e' 5 = .slice (encTs (l.toks.drop 1)) (l.toks.drop 1).length o → Q (.exit 0) e' st) →
    (∀ k, restR f.args ((l.toks.drop 1).drop i) i = some k → ∀ e', e' 4 = .ptr r 0 → Q .ret e' (stV st r l (some k))) → WLoop cx ir47L0 e st Q
  | 0, i, e, hi, h2, h3, h4, h5, h6, hT, hF => by
    refine WLoop.rnd (c := _) ir47L0.eq_1 ?_
    have hd : decide ((i : Int) < ((l.toks.drop 1).length : Int)) = false := by simp only [decide_eq_false_iff_not]; omega
    simp (config := {contextual := true, implicitDefEqProofs := false, maxSteps := 4000000}) only [go_sem, ↓reduceIte, Bool.false_eq_true, Nat.reduceEqDiff, Nat.reduceAdd, Int.reduceLE, Int.reduceLT, Int.reduceEq, Int.reduceToNat, Int.toNat_natCast, Int.cast_ofNat_Int, Int.natCast_one, Nat.reduceMod, Nat.reduceDiv, UInt8.reduceToNat, Nat.reduceLT, h2, h3, h4, h5, h6, hd, lenv_slice]
    exact hT (by rw [List.drop_eq_nil_of_le (by omega)]; rfl) _ h2 h3 h4 h5
  | n + 1, i, e, hi, h2, h3, h4, h5, h6, hT, hF => by
    refine WLoop.rnd (c := _) ir47L0.eq_1 ?_
    have hlt : i < (l.toks.drop 1).length := by omega
    have hrl : (l.toks.drop 1).length ≤ 300 := by rw [List.length_drop]; omega
    have hd : decide ((i : Int) < ((l.toks.drop 1).length : Int)) = true := by simp only [decide_eq_true_eq]; omega
    have hw := wrap_one (i := i) (by omega)
    have htl := htx _ (List.mem_of_mem_drop (List.getElem_mem hlt))
    have hpos := posOf_rest l i hlt
    rw [List.drop_eq_getElem_cons hlt] at hT hF
    simp only [restR] at hT hF
    have hsv : stV st r l (some (i + 1)) = { heap := put r (.cells (some 34) [.int .i64 2, .int .i64 l.pos, .int .i64 (l.toks.drop 1)[i].p]) st.heap, next := st.next, low := min st.low r } := by simp only [stV, optC, hpos]
    have k11 := fun kind st K => c11 (l.toks.drop 1)[i].k (l.toks.drop 1)[i].t (l.toks.drop 1)[i].n (l.toks.drop 1)[i].p st K kind (by omega)
    by_cases hn : f.args.length = 0
    · have hx : decide (0 < (f.args.length : Int)) = false := by simp [hn]
      have hkr : kindR f.args i = [] := by simp only [kindR, hn, if_true]
      have hff : fitsB [] (l.toks.drop 1)[i].k (l.toks.drop 1)[i].t (l.toks.drop 1)[i].n = fitsT (kindR f.args i) (l.toks.drop 1)[i] := by rw [hkr]; rfl
      cases hf : fitsT (kindR f.args i) (l.toks.drop 1)[i] with
      | true =>
        simp (config := {contextual := true, implicitDefEqProofs := false, maxSteps := 4000000}) only [go_sem, ↓reduceIte, Bool.false_eq_true, Nat.reduceEqDiff, Nat.reduceAdd, Int.reduceLE, Int.reduceLT, Int.reduceEq, Int.reduceToNat, Int.toNat_natCast, Int.cast_ofNat_Int, Int.natCast_one, Nat.reduceMod, Nat.reduceDiv, UInt8.reduceToNat, Nat.reduceLT, h2, h3, h4, h5, h6, hd, hw, hp, hq, hr, k11, hff, sub_tok hlt, sub_tp hlt, lenv_slice, iaddr_slice, hx, hf]
        rw [hf] at hT hF
        simp only [if_true] at hT hF
        repeat' refine And.intro (by omega) ?_
        exact l47 f hargs hal l hl htx p q r o st hp hq hr Q n (i + 1) _ (by omega) h2 h3 h4 h5 rfl hT hF
      | false =>
        simp (config := {contextual := true, implicitDefEqProofs := false, maxSteps := 4000000}) only [go_sem, ↓reduceIte, Bool.false_eq_true, Nat.reduceEqDiff, Nat.reduceAdd, Int.reduceLE, Int.reduceLT, Int.reduceEq, Int.reduceToNat, Int.toNat_natCast, Int.cast_ofNat_Int, Int.natCast_one, Nat.reduceMod, Nat.reduceDiv, UInt8.reduceToNat, Nat.reduceLT, h2, h3, h4, h5, h6, hd, hw, hp, hq, hr, k11, hff, sub_tok hlt, sub_tp hlt, lenv_slice, iaddr_slice, hx, hf]
        rw [hf] at hF
        repeat' refine And.intro (by omega) ?_
        exact hsv ▸ hF (i + 1) rfl _ h4
    · have hx : decide (0 < (f.args.length : Int)) = true := by simp; omega
      have hw1 : IntKind.i64.wrap ((f.args.length : Int) - 1) = ((f.args.length - 1 : Nat) : Int) := by rw [wrap_i64 (by omega) (by omega)]; omega
      have hlast : f.args.length - 1 < f.args.length := by omega
      have hla : lastA f.args = f.args[f.args.length - 1] := by simp only [lastA]; rw [List.getD_eq_getElem?_getD, List.getElem?_eq_getElem hlast, Option.getD_some]
      have hlal := hal _ (List.getElem_mem hlast)
      have k56 := fun st K => c56 f.args[f.args.length - 1] (by omega) st K
      have hss := sub_str hlast
      by_cases h1 : i + 1 < f.args.length
      · have hy : decide ((i : Int) < ((f.args.length - 1 : Nat) : Int)) = true := by simp only [decide_eq_true_eq]; omega
        have hia : i < f.args.length := by omega
        have hkr : kindR f.args i = f.args[i] := by simp only [kindR, hn, h1, if_false, true_or, if_true]; rw [List.getD_eq_getElem?_getD, List.getElem?_eq_getElem hia, Option.getD_some]
        have hff : fitsB f.args[i] (l.toks.drop 1)[i].k (l.toks.drop 1)[i].t (l.toks.drop 1)[i].n = fitsT (kindR f.args i) (l.toks.drop 1)[i] := by rw [hkr]; rfl
        cases hf : fitsT (kindR f.args i) (l.toks.drop 1)[i] with
        | true =>
          simp (config := {contextual := true, implicitDefEqProofs := false, maxSteps := 4000000}) only [go_sem, ↓reduceIte, Bool.false_eq_true, Nat.reduceEqDiff, Nat.reduceAdd, Int.reduceLE, Int.reduceLT, Int.reduceEq, Int.reduceToNat, Int.toNat_natCast, Int.cast_ofNat_Int, Int.natCast_one, Nat.reduceMod, Nat.reduceDiv, UInt8.reduceToNat, Nat.reduceLT, h2, h3, h4, h5, h6, hd, hw, hp, hq, hr, k11, hff, sub_tok hlt, sub_tp hlt, lenv_slice, iaddr_slice, hx, hw1, k56, hss, hy, sub_str hia, hf]
          rw [hf] at hT hF
          simp only [if_true] at hT hF
          repeat' refine And.intro (by omega) ?_
          exact l47 f hargs hal l hl htx p q r o st hp hq hr Q n (i + 1) _ (by omega) h2 h3 h4 h5 rfl hT hF
        | false =>
          simp (config := {contextual := true, implicitDefEqProofs := false, maxSteps := 4000000}) only [go_sem, ↓reduceIte, Bool.false_eq_true, Nat.reduceEqDiff, Nat.reduceAdd, Int.reduceLE, Int.reduceLT, Int.reduceEq, Int.reduceToNat, Int.toNat_natCast, Int.cast_ofNat_Int, Int.natCast_one, Nat.reduceMod, Nat.reduceDiv, UInt8.reduceToNat, Nat.reduceLT, h2, h3, h4, h5, h6, hd, hw, hp, hq, hr, k11, hff, sub_tok hlt, sub_tp hlt, lenv_slice, iaddr_slice, hx, hw1, k56, hss, hy, sub_str hia, hf]
          rw [hf] at hF
          repeat' refine And.intro (by omega) ?_
          exact hsv ▸ hF (i + 1) rfl _ h4
      · have hy : decide ((i : Int) < ((f.args.length - 1 : Nat) : Int)) = false := by simp only [decide_eq_false_iff_not]; omega
        by_cases h2' : i + 1 = f.args.length
        · have hz : decide ((i : Int) = ((f.args.length - 1 : Nat) : Int)) = true := by simp only [decide_eq_true_eq]; omega
          have hia : i < f.args.length := by omega
          cases hm : starB f.args[f.args.length - 1] with
          | false =>
            have hkr : kindR f.args i = f.args[i] := by
              simp only [kindR, hn, h2', hla, hm, if_false, Nat.lt_irrefl, true_and, or_true, if_true]; rw [List.getD_eq_getElem?_getD, List.getElem?_eq_getElem hia, Option.getD_some]
            have hff : fitsB f.args[i] (l.toks.drop 1)[i].k (l.toks.drop 1)[i].t (l.toks.drop 1)[i].n = fitsT (kindR f.args i) (l.toks.drop 1)[i] := by rw [hkr]; rfl
            cases hf : fitsT (kindR f.args i) (l.toks.drop 1)[i] with
            | true =>
              simp (config := {contextual := true, implicitDefEqProofs := false, maxSteps := 4000000}) only [go_sem, ↓reduceIte, Bool.false_eq_true, Nat.reduceEqDiff, Nat.reduceAdd, Int.reduceLE, Int.reduceLT, Int.reduceEq, Int.reduceToNat, Int.toNat_natCast, Int.cast_ofNat_Int, Int.natCast_one, Nat.reduceMod, Nat.reduceDiv, UInt8.reduceToNat, Nat.reduceLT, h2, h3, h4, h5, h6, hd, hw, hp, hq, hr, k11, hff, sub_tok hlt, sub_tp hlt, lenv_slice, iaddr_slice, hx, hw1, k56, hss, hy, hz, hm, sub_str hia, hf]
              rw [hf] at hT hF
              simp only [if_true] at hT hF
              repeat' refine And.intro (by omega) ?_
              exact l47 f hargs hal l hl htx p q r o st hp hq hr Q n (i + 1) _ (by omega) h2 h3 h4 h5 rfl hT hF
            | false =>
              simp (config := {contextual := true, implicitDefEqProofs := false, maxSteps := 4000000}) only [go_sem, ↓reduceIte, Bool.false_eq_true, Nat.reduceEqDiff, Nat.reduceAdd, Int.reduceLE, Int.reduceLT, Int.reduceEq, Int.reduceToNat, Int.toNat_natCast, Int.cast_ofNat_Int, Int.natCast_one, Nat.reduceMod, Nat.reduceDiv, UInt8.reduceToNat, Nat.reduceLT, h2, h3, h4, h5, h6, hd, hw, hp, hq, hr, k11, hff, sub_tok hlt, sub_tp hlt, lenv_slice, iaddr_slice, hx, hw1, k56, hss, hy, hz, hm, sub_str hia, hf]
              rw [hf] at hF
              repeat' refine And.intro (by omega) ?_
              exact hsv ▸ hF (i + 1) rfl _ h4
          | true =>
            have hkr : kindR f.args i = starW f.args[f.args.length - 1] := by
              simp only [kindR, hn, h2', hla, hm, if_false, Nat.lt_irrefl, true_and, or_self, Bool.true_eq_false, if_true]
            have hff : fitsB (starW f.args[f.args.length - 1]) (l.toks.drop 1)[i].k (l.toks.drop 1)[i].t (l.toks.drop 1)[i].n = fitsT (kindR f.args i) (l.toks.drop 1)[i] := by rw [hkr]; rfl
            cases hf : fitsT (kindR f.args i) (l.toks.drop 1)[i] with
            | true =>
              simp (config := {contextual := true, implicitDefEqProofs := false, maxSteps := 4000000}) only [go_sem, ↓reduceIte, Bool.false_eq_true, Nat.reduceEqDiff, Nat.reduceAdd, Int.reduceLE, Int.reduceLT, Int.reduceEq, Int.reduceToNat, Int.toNat_natCast, Int.cast_ofNat_Int, Int.natCast_one, Nat.reduceMod, Nat.reduceDiv, UInt8.reduceToNat, Nat.reduceLT, h2, h3, h4, h5, h6, hd, hw, hp, hq, hr, k11, hff, sub_tok hlt, sub_tp hlt, lenv_slice, iaddr_slice, hx, hw1, k56, hss, hy, hz, hm, hf]
              rw [hf] at hT hF
              simp only [if_true] at hT hF
              repeat' refine And.intro (by omega) ?_
              exact l47 f hargs hal l hl htx p q r o st hp hq hr Q n (i + 1) _ (by omega) h2 h3 h4 h5 rfl hT hF
            | false =>
              simp (config := {contextual := true, implicitDefEqProofs := false, maxSteps := 4000000}) only [go_sem, ↓reduceIte, Bool.false_eq_true, Nat.reduceEqDiff, Nat.reduceAdd, Int.reduceLE, Int.reduceLT, Int.reduceEq, Int.reduceToNat, Int.toNat_natCast, Int.cast_ofNat_Int, Int.natCast_one, Nat.reduceMod, Nat.reduceDiv, UInt8.reduceToNat, Nat.reduceLT, h2, h3, h4, h5, h6, hd, hw, hp, hq, hr, k11, hff, sub_tok hlt, sub_tp hlt, lenv_slice, iaddr_slice, hx, hw1, k56, hss, hy, hz, hm, hf]
              rw [hf] at hF
              repeat' refine And.intro (by omega) ?_
              exact hsv ▸ hF (i + 1) rfl _ h4
        · have hz : decide ((i : Int) = ((f.args.length - 1 : Nat) : Int)) = false := by simp only [decide_eq_false_iff_not]; omega
          cases hm : starB f.args[f.args.length - 1] with
          | false =>
            have hkr : kindR f.args i = [] := by
              simp only [kindR, hn, h2', h1, hla, hm, if_false, false_and, or_self, Bool.false_eq_true]
            have hff : fitsB [] (l.toks.drop 1)[i].k (l.toks.drop 1)[i].t (l.toks.drop 1)[i].n = fitsT (kindR f.args i) (l.toks.drop 1)[i] := by rw [hkr]; rfl
            cases hf : fitsT (kindR f.args i) (l.toks.drop 1)[i] with
            | true =>
              simp (config := {contextual := true, implicitDefEqProofs := false, maxSteps := 4000000}) only [go_sem, ↓reduceIte, Bool.false_eq_true, Nat.reduceEqDiff, Nat.reduceAdd, Int.reduceLE, Int.reduceLT, Int.reduceEq, Int.reduceToNat, Int.toNat_natCast, Int.cast_ofNat_Int, Int.natCast_one, Nat.reduceMod, Nat.reduceDiv, UInt8.reduceToNat, Nat.reduceLT, h2, h3, h4, h5, h6, hd, hw, hp, hq, hr, k11, hff, sub_tok hlt, sub_tp hlt, lenv_slice, iaddr_slice, hx, hw1, k56, hss, hy, hz, hm, hf]
              rw [hf] at hT hF
              simp only [if_true] at hT hF
              repeat' refine And.intro (by omega) ?_
              exact l47 f hargs hal l hl htx p q r o st hp hq hr Q n (i + 1) _ (by omega) h2 h3 h4 h5 rfl hT hF
            | false =>
              simp (config := {contextual := true, implicitDefEqProofs := false, maxSteps := 4000000}) only [go_sem, ↓reduceIte, Bool.false_eq_true, Nat.reduceEqDiff, Nat.reduceAdd, Int.reduceLE, Int.reduceLT, Int.reduceEq, Int.reduceToNat, Int.toNat_natCast, Int.cast_ofNat_Int, Int.natCast_one, Nat.reduceMod, Nat.reduceDiv, UInt8.reduceToNat, Nat.reduceLT, h2, h3, h4, h5, h6, hd, hw, hp, hq, hr, k11, hff, sub_tok hlt, sub_tp hlt, lenv_slice, iaddr_slice, hx, hw1, k56, hss, hy, hz, hm, hf]
              rw [hf] at hF
              repeat' refine And.intro (by omega) ?_
              exact hsv ▸ hF (i + 1) rfl _ h4
          | true =>
            have hkr : kindR f.args i = starW f.args[f.args.length - 1] := by
              simp only [kindR, hn, h2', h1, hla, hm, if_false, false_and, or_self, if_true]
            have hff : fitsB (starW f.args[f.args.length - 1]) (l.toks.drop 1)[i].k (l.toks.drop 1)[i].t (l.toks.drop 1)[i].n = fitsT (kindR f.args i) (l.toks.drop 1)[i] := by rw [hkr]; rfl
            cases hf : fitsT (kindR f.args i) (l.toks.drop 1)[i] with
            | true =>
              simp (config := {contextual := true, implicitDefEqProofs := false, maxSteps := 4000000}) only [go_sem, ↓reduceIte, Bool.false_eq_true, Nat.reduceEqDiff, Nat.reduceAdd, Int.reduceLE, Int.reduceLT, Int.reduceEq, Int.reduceToNat, Int.toNat_natCast, Int.cast_ofNat_Int, Int.natCast_one, Nat.reduceMod, Nat.reduceDiv, UInt8.reduceToNat, Nat.reduceLT, h2, h3, h4, h5, h6, hd, hw, hp, hq, hr, k11, hff, sub_tok hlt, sub_tp hlt, lenv_slice, iaddr_slice, hx, hw1, k56, hss, hy, hz, hm, hf]
              rw [hf] at hT hF
              simp only [if_true] at hT hF
              repeat' refine And.intro (by omega) ?_
              exact l47 f hargs hal l hl htx p q r o st hp hq hr Q n (i + 1) _ (by omega) h2 h3 h4 h5 rfl hT hF
            | false =>
              simp (config := {contextual := true, implicitDefEqProofs := false, maxSteps := 4000000}) only [go_sem, ↓reduceIte, Bool.false_eq_true, Nat.reduceEqDiff, Nat.reduceAdd, Int.reduceLE, Int.reduceLT, Int.reduceEq, Int.reduceToNat, Int.toNat_natCast, Int.cast_ofNat_Int, Int.natCast_one, Nat.reduceMod, Nat.reduceDiv, UInt8.reduceToNat, Nat.reduceLT, h2, h3, h4, h5, h6, hd, hw, hp, hq, hr, k11, hff, sub_tok hlt, sub_tp hlt, lenv_slice, iaddr_slice, hx, hw1, k56, hss, hy, hz, hm, hf]
              rw [hf] at hF
              repeat' refine And.intro (by omega) ?_
              exact hsv ▸ hF (i + 1) rfl _ h4
theorem encTs_drop (ts : List Tok) : (encTs ts).drop 4 = encTs (ts.drop 1) := by
  cases ts with
  | nil => simp [encTs]
  | cons t ts => simp only [encTs, List.drop_succ_cons, List.drop_zero]; rw [show 4 = (encT t).length from rfl, List.drop_left]
theorem slc_t1 (b : TN) (ts : List Tok) (h : ts ≠ []) : ∃ o, sliceA 4 (slt b ts.length (encTs ts)) (some (.int .i64 1)) none none = some (.slice (encTs (ts.drop 1)) (ts.drop 1).length o) := by
  have hp : 0 < ts.length := List.length_pos_iff.2 h
  rw [List.length_drop]
  have h1 : ¬ (b.1 = true ∧ ts.length = 0) := by omega
  have e : ((encTs ts).drop (1 * 4)).take ((ts.length - 1) * 4) = encTs (ts.drop 1) := by
    rw [Nat.one_mul, encTs_drop, List.take_of_length_le (by rw [encTs_length]; simp)]
  simp only [slt, slo, h1, if_false, sliceA, encTs_length, if_true, bounds]
  rw [if_pos (by omega)]
  simp only [Option.bind_some, Int.toNat_one, e]
  exact ⟨_, rfl⟩
theorem c47 (f : Form) (hargs : f.args.length ≤ 12) (hal : ∀ a ∈ f.args, a.length ≤ 100) (l : Line) (hne : l.toks ≠ []) (hl : l.toks.length ≤ 300) (htx : ∀ t ∈ l.toks, t.t.length ≤ 2000) (s : St) (K : AV → St → Prop) :
    CallW cx 47 [.agg [.str f.word, slv f.an f.args.length (f.args.map AV.str), slv f.kn f.kids.length (encFs f.kids), .int .i64 f.least, .int .i64 f.most], .agg [slt l.tn l.toks.length (encTs l.toks), .bool l.head, slv l.kn l.kids.length (encLs l.kids), .int .i64 l.pos]] s K = K (encFl (tokF l (tokR l f.args))) s := by
  refine CallW.eq (CallW.fn' (fn := ir47) rfl rfl (by kernel_rfl) ir47.eq_1 ?_) K
  have hlp : 0 < l.toks.length := List.length_pos_iff.2 hne
  obtain ⟨o, hsl⟩ := slc_t1 l.tn l.toks hne
  simp (config := {contextual := true, implicitDefEqProofs := false, maxSteps := 4000000}) only [go_sem, ↓reduceIte, Bool.false_eq_true, Nat.reduceEqDiff, Nat.reduceAdd, Int.reduceLE, Int.reduceLT, Int.reduceEq, Int.reduceToNat, Int.toNat_natCast, Int.cast_ofNat_Int, Int.natCast_one, Nat.reduceMod, Nat.reduceDiv, UInt8.reduceToNat, Nat.reduceLT, hsl]
  refine l47 f hargs hal l hl htx s.next (s.next + 1) (s.next + 2) o _ (by simp [Fw.look]) (by simp [Fw.look]) (by simp [Fw.look]) _ (l.toks.drop 1).length 0 _ (by omega) rfl rfl rfl rfl rfl ?_ ?_
  · intro ht e' h2 h3 h4 h5
    rw [List.drop_zero] at ht
    have hrl : (l.toks.drop 1).length = l.toks.length - 1 := List.length_drop
    have hw2 : IntKind.i64.wrap ((l.toks.length : Int) - 1) = ((l.toks.length - 1 : Nat) : Int) := by rw [wrap_i64 (by omega) (by omega)]; omega
    have hlt2 : l.toks.length - 1 < l.toks.length := by omega
    have hpos : posOf l (l.toks.length - 1) = l.toks[l.toks.length - 1].p := by
      simp only [posOf, hne, if_false, Nat.min_self]; rw [List.getD_eq_getElem?_getD, List.getElem?_eq_getElem hlt2, Option.getD_some]
    by_cases hn : f.args.length = 0
    · have hx : decide (0 < (f.args.length : Int)) = false := by simp [hn]
      have hy : decide (((l.toks.drop 1).length : Int) < (f.args.length : Int)) = false := by simp only [decide_eq_false_iff_not]; omega
      have hv : tokR l f.args = none := by simp only [tokR, ht, leastR, hn, if_true]; rfl
      simp (config := {contextual := true, implicitDefEqProofs := false, maxSteps := 4000000}) only [go_sem, ↓reduceIte, Bool.false_eq_true, Nat.reduceEqDiff, Nat.reduceAdd, Int.reduceLE, Int.reduceLT, Int.reduceEq, Int.reduceToNat, Int.toNat_natCast, Int.cast_ofNat_Int, Int.natCast_one, Nat.reduceMod, Nat.reduceDiv, UInt8.reduceToNat, Nat.reduceLT, h2, h3, h4, h5, hx, hy, hv, tokF, encFl, lenv_slice]
    · have hx : decide (0 < (f.args.length : Int)) = true := by simp; omega
      have hw1 : IntKind.i64.wrap ((f.args.length : Int) - 1) = ((f.args.length - 1 : Nat) : Int) := by rw [wrap_i64 (by omega) (by omega)]; omega
      have hlast : f.args.length - 1 < f.args.length := by omega
      have hla : lastA f.args = f.args[f.args.length - 1] := by simp only [lastA]; rw [List.getD_eq_getElem?_getD, List.getElem?_eq_getElem hlast, Option.getD_some]
      have hlal := hal _ (List.getElem_mem hlast)
      have k56 := fun st K => c56 f.args[f.args.length - 1] (by omega) st K
      have hss := sub_str hlast
      cases hm : starB f.args[f.args.length - 1] with
      | true =>
        have hlr : leastR f.args = f.args.length - 1 := by simp only [leastR, hn, hla, hm, if_false, if_true]
        by_cases hc : l.toks.length - 1 < f.args.length - 1
        · have hy : decide (((l.toks.drop 1).length : Int) < ((f.args.length - 1 : Nat) : Int)) = true := by simp only [decide_eq_true_eq]; omega
          have hv : tokR l f.args = some (l.toks.length - 1) := by simp only [tokR, ht, hlr, hc, if_true]
          simp (config := {contextual := true, implicitDefEqProofs := false, maxSteps := 4000000}) only [go_sem, ↓reduceIte, Bool.false_eq_true, Nat.reduceEqDiff, Nat.reduceAdd, Int.reduceLE, Int.reduceLT, Int.reduceEq, Int.reduceToNat, Int.toNat_natCast, Int.cast_ofNat_Int, Int.natCast_one, Nat.reduceMod, Nat.reduceDiv, UInt8.reduceToNat, Nat.reduceLT, h2, h3, h4, h5, hx, hw1, k56, hss, hm, hy, hv, tokF, encFl, lenv_slice, hw2, sub_tp hlt2, hpos]
          omega
        · have hy : decide (((l.toks.drop 1).length : Int) < ((f.args.length - 1 : Nat) : Int)) = false := by simp only [decide_eq_false_iff_not]; omega
          have hv : tokR l f.args = none := by simp only [tokR, ht, hlr, hc, if_false]
          simp (config := {contextual := true, implicitDefEqProofs := false, maxSteps := 4000000}) only [go_sem, ↓reduceIte, Bool.false_eq_true, Nat.reduceEqDiff, Nat.reduceAdd, Int.reduceLE, Int.reduceLT, Int.reduceEq, Int.reduceToNat, Int.toNat_natCast, Int.cast_ofNat_Int, Int.natCast_one, Nat.reduceMod, Nat.reduceDiv, UInt8.reduceToNat, Nat.reduceLT, h2, h3, h4, h5, hx, hw1, k56, hss, hm, hy, hv, tokF, encFl, lenv_slice]
          omega
      | false =>
        have hlr : leastR f.args = f.args.length := by simp only [leastR, hn, hla, hm, if_false, Bool.false_eq_true]
        by_cases hc : l.toks.length - 1 < f.args.length
        · have hy : decide (((l.toks.drop 1).length : Int) < (f.args.length : Int)) = true := by simp only [decide_eq_true_eq]; omega
          have hv : tokR l f.args = some (l.toks.length - 1) := by simp only [tokR, ht, hlr, hc, if_true]
          simp (config := {contextual := true, implicitDefEqProofs := false, maxSteps := 4000000}) only [go_sem, ↓reduceIte, Bool.false_eq_true, Nat.reduceEqDiff, Nat.reduceAdd, Int.reduceLE, Int.reduceLT, Int.reduceEq, Int.reduceToNat, Int.toNat_natCast, Int.cast_ofNat_Int, Int.natCast_one, Nat.reduceMod, Nat.reduceDiv, UInt8.reduceToNat, Nat.reduceLT, h2, h3, h4, h5, hx, hw1, k56, hss, hm, hy, hv, tokF, encFl, lenv_slice, hw2, sub_tp hlt2, hpos]
          omega
        · have hy : decide (((l.toks.drop 1).length : Int) < (f.args.length : Int)) = false := by simp only [decide_eq_false_iff_not]; omega
          have hv : tokR l f.args = none := by simp only [tokR, ht, hlr, hc, if_false]
          simp (config := {contextual := true, implicitDefEqProofs := false, maxSteps := 4000000}) only [go_sem, ↓reduceIte, Bool.false_eq_true, Nat.reduceEqDiff, Nat.reduceAdd, Int.reduceLE, Int.reduceLT, Int.reduceEq, Int.reduceToNat, Int.toNat_natCast, Int.cast_ofNat_Int, Int.natCast_one, Nat.reduceMod, Nat.reduceDiv, UInt8.reduceToNat, Nat.reduceLT, h2, h3, h4, h5, hx, hw1, k56, hss, hm, hy, hv, tokF, encFl, lenv_slice]
          omega
  · intro k ht e' h4
    rw [List.drop_zero] at ht
    have hv : tokR l f.args = some k := by simp only [tokR, ht]
    simp (config := {contextual := true, implicitDefEqProofs := false, maxSteps := 4000000}) only [go_sem, ↓reduceIte, Bool.false_eq_true, Nat.reduceEqDiff, Nat.reduceAdd, Int.reduceLE, Int.reduceLT, Int.reduceEq, Int.reduceToNat, Int.toNat_natCast, Int.cast_ofNat_Int, Int.natCast_one, Nat.reduceMod, Nat.reduceDiv, UInt8.reduceToNat, Nat.reduceLT, h4, hv, tokF, encFl, stV, optC]
end T10
