/- Parts of the proof, one behind the other. -/
import Derived.Test.YtgpfcgpgbflpgaaK10k
/- Lines as a tree, and how they lie in the machine's cells; few lines. -/
namespace T10
open Go Fw Go.Proofs
set_option maxRecDepth 100000
set_option linter.unusedSimpArgs false
set_option linter.unusedVariables false
/-- A slice of whatever room. -/
def slo (o : Own) (b : Bool) (n : Nat) (cs : List AV) : AV := if b = true ∧ n = 0 then .nilslice else .slice cs n o
theorem slo_no (b : Bool) (n : Nat) (cs : List AV) : slo .no b n cs = slv b n cs := rfl
theorem lenv_slo (o : Own) (b : Bool) (n : Nat) (cs : List AV) : lenvA (slo o b n cs) = some (.int .i64 n) := by
  unfold slo; split
  · rename_i h; rw [h.2]; rfl
  · rfl
theorem iaddr_slo (z : Nat) (o : Own) (b : Bool) (n : Nat) (cs : List AV) (i : Int) (K : AV → Prop) : oget (iaddrA z none (slo o b n cs) i) K = ((0 ≤ i ∧ i < n) ∧ K (.vptr cs (i.toNat * z))) := by
  unfold slo; split
  · rename_i h; rw [h.2]; simp only [iaddrA, oget_none, eq_iff_iff, false_iff]; omega
  · exact oget_iaddr_slice z cs n o i K
attribute [go_sem] lenv_slo
attribute [go_sem ↓] iaddr_slo

/-- A slice that is nil, or has no room, or of whose room nothing is known. -/
abbrev TN := Bool × Bool
def ow (b : Bool) : Own := if b = true then .full else .no
def slt (b : TN) (n : Nat) (cs : List AV) : AV := slo (ow b.2) b.1 n cs
theorem slt_no (b : Bool) (n : Nat) (cs : List AV) : slt (b, false) n cs = slv b n cs := rfl
theorem slt_full (n : Nat) (cs : List AV) : slt (false, true) n cs = .slice cs n .full := rfl
theorem lenv_slt (b : TN) (n : Nat) (cs : List AV) : lenvA (slt b n cs) = some (.int .i64 n) := lenv_slo _ _ _ _
theorem iaddr_slt (z : Nat) (b : TN) (n : Nat) (cs : List AV) (i : Int) (K : AV → Prop) : oget (iaddrA z none (slt b n cs) i) K = ((0 ≤ i ∧ i < n) ∧ K (.vptr cs (i.toNat * z))) := iaddr_slo _ _ _ _ _ _ _
theorem cells_slt (b : TN) (n : Nat) (cs : List AV) : (slt b n cs).cells = [slt b n cs] := by unfold slt slo; split <;> rfl
theorem one_slt (b : TN) (n : Nat) (cs : List AV) : (slt b n cs).one = true := by unfold slt slo; split <;> rfl
theorem strip_slt (b : TN) (n : Nat) (cs : List AV) : (slt b n cs).strip = slt b n cs := by
  unfold slt slo ow; split
  · rfl
  · split <;> rfl
attribute [go_sem] lenv_slt cells_slt one_slt strip_slt
attribute [go_sem ↓] iaddr_slt

structure Tok where
  k : Int
  t : List UInt8
  n : Int
  p : Int
  deriving Inhabited
inductive Line where
  | mk (tn : TN) (toks : List Tok) (head : Bool) (kn : Bool) (kids : List Line) (pos : Int)
def Line.tn : Line → TN | .mk b _ _ _ _ _ => b
def Line.toks : Line → List Tok | .mk _ t _ _ _ _ => t
def Line.head : Line → Bool | .mk _ _ h _ _ _ => h
def Line.kn : Line → Bool | .mk _ _ _ b _ _ => b
def Line.kids : Line → List Line | .mk _ _ _ _ k _ => k
def Line.pos : Line → Int | .mk _ _ _ _ _ p => p
def encT (t : Tok) : List AV := [.int .i64 t.k, .str t.t, .int .i64 t.n, .int .i64 t.p]
def encTs : List Tok → List AV
  | [] => []
  | t :: ts => encT t ++ encTs ts
mutual
def encL : Line → List AV
  | .mk tn ts h kn k p => [slt tn ts.length (encTs ts), .bool h, slv kn k.length (encLs k), .int .i64 p]
def encLs : List Line → List AV
  | [] => []
  | l :: ls => encL l ++ encLs ls
end
theorem encL_eq (l : Line) : encL l = [slt l.tn l.toks.length (encTs l.toks), .bool l.head, slv l.kn l.kids.length (encLs l.kids), .int .i64 l.pos] := by
  cases l; simp only [encL, Line.tn, Line.toks, Line.head, Line.kn, Line.kids, Line.pos]
theorem encL_length (l : Line) : (encL l).length = 4 := by rw [encL_eq]; rfl
theorem encT_length (t : Tok) : (encT t).length = 4 := rfl
theorem sub_encTs : ∀ (ts : List Tok) (i : Nat) (h : i < ts.length) (j n : Nat), j + n ≤ 4 → sub (encTs ts) (i * 4 + j) n = sub (encT ts[i]) j n
  | t :: ts, 0, h, j, n, hj => by
    simp only [encTs, Nat.zero_mul, Nat.zero_add, List.getElem_cons_zero]
    exact sub_append_left (by rw [encT_length]; exact hj)
  | t :: ts, i + 1, h, j, n, hj => by
    simp only [encTs, List.getElem_cons_succ]
    rw [show (i + 1) * 4 + j = (encT t).length + (i * 4 + j) by rw [encT_length]; omega, sub_append_right]
    exact sub_encTs ts i (by simpa using h) j n hj
theorem sub_encLs : ∀ (ls : List Line) (i : Nat) (h : i < ls.length) (j n : Nat), j + n ≤ 4 → sub (encLs ls) (i * 4 + j) n = sub (encL ls[i]) j n
  | l :: ls, 0, h, j, n, hj => by
    simp only [encLs, Nat.zero_mul, Nat.zero_add, List.getElem_cons_zero]
    exact sub_append_left (by rw [encL_length]; exact hj)
  | l :: ls, i + 1, h, j, n, hj => by
    simp only [encLs, List.getElem_cons_succ]
    rw [show (i + 1) * 4 + j = (encL l).length + (i * 4 + j) by rw [encL_length]; omega, sub_append_right]
    exact sub_encLs ls i (by simpa using h) j n hj
theorem encTs_length : ∀ ts : List Tok, (encTs ts).length = ts.length * 4
  | [] => by simp [encTs]
  | t :: ts => by simp [encTs, encT_length, encTs_length ts]; omega
theorem encLs_length : ∀ ls : List Line, (encLs ls).length = ls.length * 4
  | [] => by simp [encLs]
  | l :: ls => by simp [encLs, encL_length, encLs_length ls]; omega
section
variable {ts : List Tok} {i : Nat} (h : i < ts.length)
include h
theorem sub_tok : sub (encTs ts) (i * 4) 4 = some [.int .i64 ts[i].k, .str ts[i].t, .int .i64 ts[i].n, .int .i64 ts[i].p] := by
  have := sub_encTs ts i h 0 4 (by omega)
  rw [Nat.add_zero] at this
  rw [this]; rfl
theorem sub_tk : sub (encTs ts) (i * 4) 1 = some [.int .i64 ts[i].k] := by
  have := sub_encTs ts i h 0 1 (by omega)
  rw [Nat.add_zero] at this
  rw [this]; rfl
theorem sub_tt : sub (encTs ts) (i * 4 + 1) 1 = some [.str ts[i].t] := by rw [sub_encTs ts i h 1 1 (by omega)]; rfl
theorem sub_tp : sub (encTs ts) (i * 4 + 3) 1 = some [.int .i64 ts[i].p] := by rw [sub_encTs ts i h 3 1 (by omega)]; rfl
end
section
variable {ls : List Line} {i : Nat} (h : i < ls.length)
include h
theorem sub_line : sub (encLs ls) (i * 4) 4 = some (encL ls[i]) := by
  have := sub_encLs ls i h 0 4 (by omega)
  rw [Nat.add_zero] at this
  rw [this, encL_eq]; rfl
theorem sub_ltoks : sub (encLs ls) (i * 4) 1 = some [slt ls[i].tn ls[i].toks.length (encTs ls[i].toks)] := by
  have := sub_encLs ls i h 0 1 (by omega)
  rw [Nat.add_zero] at this
  rw [this, encL_eq]; rfl
theorem sub_lkids : sub (encLs ls) (i * 4 + 2) 1 = some [slv ls[i].kn ls[i].kids.length (encLs ls[i].kids)] := by rw [sub_encLs ls i h 2 1 (by omega), encL_eq]; rfl
end
/- typed arguments are lines -/
theorem flatten_encTs (es : List (List AV)) (h : ∀ x ∈ es, ∃ f : Tok, x = encT f) : ∃ fs : List Tok, es.flatten = encTs fs ∧ es.length = fs.length := by
  induction es with
  | nil => exact ⟨[], rfl, rfl⟩
  | cons e es ih =>
    obtain ⟨f, rfl⟩ := h e (by simp)
    obtain ⟨fs, h1, h2⟩ := ih fun x hx => h x (by simp [hx])
    exact ⟨f :: fs, by simp [encTs, h1], by simp [h2]⟩
theorem flatten_encLs (es : List (List AV)) (h : ∀ x ∈ es, ∃ f : Line, x = encL f) : ∃ fs : List Line, es.flatten = encLs fs ∧ es.length = fs.length := by
  induction es with
  | nil => exact ⟨[], rfl, rfl⟩
  | cons e es ih =>
    obtain ⟨f, rfl⟩ := h e (by simp)
    obtain ⟨fs, h1, h2⟩ := ih fun x hx => h x (by simp [hx])
    exact ⟨f :: fs, by simp [encLs, h1], by simp [h2]⟩
theorem Ty_tok {f : Nat} {us : List AV} (h : Ty Try.prog f 23 us) : ∃ t : Tok, us = encT t := by
  obtain ⟨f0, hf⟩ := Ty_struct Try.underlying23 h
  obtain ⟨p1, q1, e1, h5, _, p2, q2, rfl, h6, _, p3, q3, rfl, h7, _, p4, q4, rfl, h8, _, rfl⟩ := hf
  rw [e1]
  obtain ⟨k, rfl, _⟩ := Ty_int Try.underlying3 h5
  obtain ⟨t, rfl, _⟩ := Ty_string Try.underlying9 h6
  obtain ⟨n, rfl, _⟩ := Ty_int Try.underlying2 h7
  obtain ⟨m, rfl, _⟩ := Ty_int Try.underlying3 h8
  exact ⟨⟨k, t, n, m⟩, rfl⟩
theorem Ty_toks {f : Nat} {us : List AV} (h : Ty Try.prog f 47 us) : ∃ (b : Bool) (ts : List Tok), us = [slv b ts.length (encTs ts)] := by
  rcases Ty_slice Try.underlying47 h with rfl | ⟨f', _, es, h1, _, rfl⟩
  · exact ⟨true, [], rfl⟩
  · obtain ⟨ts, h2, h3⟩ := flatten_encTs es fun x hx => Ty_tok (h1 x hx).1
    exact ⟨false, ts, by simp [slv, h2, h3]⟩
theorem Ty_line : ∀ (f : Nat) (us : List AV), Ty Try.prog f 49 us → ∃ l : Line, us = encL l := by
  intro f
  induction f using Nat.strongRecOn with
  | ind f ih =>
    intro us h
    obtain ⟨f0, hf0, hf⟩ := Ty_struct' Try.underlying49 h
    obtain ⟨p1, q1, e1, h5, _, p2, q2, rfl, h6, _, p3, q3, rfl, h7, _, p4, q4, rfl, h8, _, rfl⟩ := hf
    rw [e1]
    obtain ⟨b, ts, rfl⟩ := Ty_toks h5
    obtain ⟨hd, rfl⟩ := Ty_bool Try.underlying4 h6
    obtain ⟨m, rfl, _⟩ := Ty_int Try.underlying3 h8
    rcases Ty_slice Try.underlying30 h7 with rfl | ⟨f', hf', es, h10, _, rfl⟩
    · exact ⟨.mk (b, false) ts hd true [] m, rfl⟩
    · obtain ⟨ls, h11, h12⟩ := flatten_encLs es fun x hx => ih f' (by omega) x (h10 x hx).1
      exact ⟨.mk (b, false) ts hd false ls m, by simp [encL, slt_no, slv, h11, h12]⟩
theorem TyArg_lines {a : AV} (h : TyArg Try.prog 30 a) : ∃ (b : Bool) (ls : List Line), a = slv b ls.length (encLs ls) := by
  rcases TyArg_slice Try.underlying30 h with rfl | ⟨f, es, h1, _, rfl⟩
  · exact ⟨true, [], rfl⟩
  · obtain ⟨ls, h2, h3⟩ := flatten_encLs es fun x hx => Ty_line f x (h1 x hx).1
    exact ⟨false, ls, by simp [slv, h2, h3]⟩

theorem lines_ind {P : List Line → Prop} (h : ∀ ls, (∀ l ∈ ls, P l.kids) → P ls) : ∀ ls, P ls := by
  have key : ∀ n ls, SizeOf.sizeOf ls < n → P ls := by
    intro n
    induction n with
    | zero => intro ls h; omega
    | succ n ih =>
      intro ls hn
      refine h ls fun l hl => ih l.kids ?_
      have h1 := List.sizeOf_lt_of_mem hl
      cases l with
      | mk tn ts hd kn k p =>
        simp only [Line.kids]
        have : SizeOf.sizeOf (Line.mk tn ts hd kn k p) = 1 + SizeOf.sizeOf tn + SizeOf.sizeOf ts + SizeOf.sizeOf hd + SizeOf.sizeOf kn + SizeOf.sizeOf k + SizeOf.sizeOf p := Line.mk.sizeOf_spec tn ts hd kn k p
        omega
  exact fun ls => key (SizeOf.sizeOf ls + 1) ls (Nat.lt_succ_self _)

/- few lines -/
mutual
def leftL : Line → Int → Int
  | .mk tn ts h kn k p, m => if m < ts.length then -1 else if (ts.any fun t => decide (2000 < t.t.length)) = true then -1 else leftLs k (m - 1 - ts.length)
def leftLs : List Line → Int → Int
  | [], m => m
  | l :: ls, m => if m < 0 then m else leftLs ls (leftL l m)
end
theorem leftL_eq (l : Line) (m : Int) : leftL l m = if m < l.toks.length then -1 else if (l.toks.any fun t => decide (2000 < t.t.length)) = true then -1 else leftLs l.kids (m - 1 - l.toks.length) := by
  cases l; simp only [leftL, Line.kids, Line.toks]; rfl
theorem leftLs_le : ∀ (ls : List Line) (m : Int), -1 ≤ m → -1 ≤ leftLs ls m ∧ leftLs ls m ≤ m := by
  refine lines_ind fun ls ih => ?_
  induction ls with
  | nil => intro m hm; simp [leftLs, hm]
  | cons l ls ih2 =>
    intro m hm
    simp only [leftLs]
    split
    · omega
    · have h1 : -1 ≤ leftL l m ∧ leftL l m ≤ m := by
        rw [leftL_eq]; split
        · omega
        · split
          · omega
          · have := ih l (by simp) (m - 1 - l.toks.length) (by omega); omega
      have h2 := ih2 (fun g hg => ih g (by simp [hg])) (leftL l m) h1.1
      omega
theorem l41a (o : Own) (b : Bool) (ls : List Line) (i : Nat) (hi : i < ls.length) (m : Int) (st : St) (Q : Sig → FE → St → Prop) : ∀ (n k : Nat) (e : FE), k + n = ls[i].toks.length → ls[i].toks.length ≤ 300 → e 0 = slo o b ls.length (encLs ls) → e 1 = .int .i64 m → e 5 = .int .i64 i → e 6 = .int .i64 k →
    ((ls[i].toks.drop k).any (fun t => decide (2000 < t.t.length)) = false → ∀ e', e' 0 = slo o b ls.length (encLs ls) → e' 1 = .int .i64 m → e' 5 = .int .i64 i → Q (.exit 2) e' st) →
    ((ls[i].toks.drop k).any (fun t => decide (2000 < t.t.length)) = true → ∀ e', e' 4 = .int .i64 (-1) → Q .ret e' st) → WLoop cx ir41L0 e st Q
  | 0, k, e, hk, hk2, h0, h1, h5, h6, hT, hF => by
    refine WLoop.rnd (c := _) ir41L0.eq_1 ?_
    have hd : decide ((k : Int) < (ls[i].toks.length : Int)) = false := by simp; omega
    simp (config := {contextual := true, implicitDefEqProofs := false, maxSteps := 4000000}) only [go_sem, ↓reduceIte, Bool.false_eq_true, Nat.reduceEqDiff, Nat.reduceAdd, Int.reduceLE, Int.reduceLT, Int.reduceEq, Int.reduceToNat, Int.toNat_natCast, Int.cast_ofNat_Int, Int.natCast_one, Nat.reduceMod, Nat.reduceDiv, UInt8.reduceToNat, Nat.reduceLT, h0, h1, h5, h6, hd, sub_ltoks hi]
    refine ⟨by omega, hT (by rw [List.drop_eq_nil_of_le (by omega)]; rfl) _ h0 h1 h5⟩
  | n + 1, k, e, hk, hk2, h0, h1, h5, h6, hT, hF => by
    refine WLoop.rnd (c := _) ir41L0.eq_1 ?_
    have hd : decide ((k : Int) < (ls[i].toks.length : Int)) = true := by simp; omega
    have hw := wrap_one (i := k) (by omega)
    have hlt : k < ls[i].toks.length := by omega
    simp (config := {contextual := true, implicitDefEqProofs := false, maxSteps := 4000000}) only [go_sem, ↓reduceIte, Bool.false_eq_true, Nat.reduceEqDiff, Nat.reduceAdd, Int.reduceLE, Int.reduceLT, Int.reduceEq, Int.reduceToNat, Int.toNat_natCast, Int.cast_ofNat_Int, Int.natCast_one, Nat.reduceMod, Nat.reduceDiv, UInt8.reduceToNat, Nat.reduceLT, h0, h1, h5, h6, hd, hw, sub_ltoks hi, sub_tt hlt]
    rw [List.drop_eq_getElem_cons hlt, List.any_cons] at hT hF
    refine ⟨by omega, by omega, by omega, ?_⟩
    by_cases hl : 2000 < ls[i].toks[k].t.length
    · have hx : decide (2000 < (ls[i].toks[k].t.length : Int)) = true := by simp; omega
      have hy : decide (2000 < ls[i].toks[k].t.length) = true := by simp [hl]
      rw [hx, pif_true]
      exact hF (by rw [hy]; rfl) _ rfl
    · have hx : decide (2000 < (ls[i].toks[k].t.length : Int)) = false := by simp; omega
      have hy : decide (2000 < ls[i].toks[k].t.length) = false := by simp [hl]
      rw [hx, pif_false]
      rw [hy, Bool.false_or] at hT hF
      exact l41a o b ls i hi m st Q n (k + 1) _ (by omega) hk2 h0 h1 h5 rfl hT hF
theorem l41 (o : Own) (b : Bool) (ls : List Line) (ih : ∀ l ∈ ls, ∀ (b : Bool) (m : Int) (s : St) (K : AV → St → Prop), -1 ≤ m → m ≤ 300 → CallW cx 41 [slv b l.kids.length (encLs l.kids), .int .i64 m] s K = K (.int .i64 (leftLs l.kids m)) s) (st : St) (Q : Sig → FE → St → Prop) :
    ∀ (n i : Nat) (m : Int) (e : FE), i + n = ls.length → i + m ≤ 300 → -1 ≤ m → e 0 = slo o b ls.length (encLs ls) → e 1 = .int .i64 m → e 5 = .int .i64 i →
    (∀ e' m', leftLs (ls.drop i) m = m' → e' 1 = .int .i64 m' → Q (.exit 0) e' st) → (leftLs (ls.drop i) m = -1 → ∀ e', e' 4 = .int .i64 (-1) → Q .ret e' st) → WLoop cx ir41L1 e st Q
  | 0, i, m, e, hi, him, hm, h0, h1, h5, hT, hF => by
    refine WLoop.rnd (c := _) ir41L1.eq_1 ?_
    have hd : decide ((i : Int) < (ls.length : Int)) = false := by simp; omega
    simp (config := {contextual := true, implicitDefEqProofs := false, maxSteps := 4000000}) only [go_sem, ↓reduceIte, Bool.false_eq_true, Nat.reduceEqDiff, Nat.reduceAdd, Int.reduceLE, Int.reduceLT, Int.reduceEq, Int.reduceToNat, Int.toNat_natCast, Int.cast_ofNat_Int, Int.natCast_one, Nat.reduceMod, Nat.reduceDiv, UInt8.reduceToNat, Nat.reduceLT, h0, h1, h5, hd]
    exact hT _ m (by rw [List.drop_eq_nil_of_le (by omega)]; rfl) h1
  | n + 1, i, m, e, hi, him, hm, h0, h1, h5, hT, hF => by
    refine WLoop.rnd (c := _) ir41L1.eq_1 ?_
    have hd : decide ((i : Int) < (ls.length : Int)) = true := by simp; omega
    have hlt : i < ls.length := by omega
    rw [List.drop_eq_getElem_cons hlt] at hT hF
    by_cases hm0 : m < 0
    · have hx : decide (0 ≤ m) = false := by simp; omega
      simp (config := {contextual := true, implicitDefEqProofs := false, maxSteps := 4000000}) only [go_sem, ↓reduceIte, Bool.false_eq_true, Nat.reduceEqDiff, Nat.reduceAdd, Int.reduceLE, Int.reduceLT, Int.reduceEq, Int.reduceToNat, Int.toNat_natCast, Int.cast_ofNat_Int, Int.natCast_one, Nat.reduceMod, Nat.reduceDiv, UInt8.reduceToNat, Nat.reduceLT, h0, h1, h5, hd, hx]
      exact hT _ m (by simp only [leftLs]; rw [if_pos hm0]) h1
    have hx : decide (0 ≤ m) = true := by simp; omega
    have hr : leftLs (ls[i] :: ls.drop (i + 1)) m = leftLs (ls.drop (i + 1)) (leftL ls[i] m) := by
      simp only [leftLs]; rw [if_neg hm0]
    rw [hr, leftL_eq] at hT hF
    have hneg : ∀ l, leftLs l (-1) = -1 := fun l => by have := leftLs_le l (-1) (by omega); omega
    by_cases hw : m < (ls[i].toks.length : Int)
    · have hy : decide (m < (ls[i].toks.length : Int)) = true := by simp [hw]
      simp (config := {contextual := true, implicitDefEqProofs := false, maxSteps := 4000000}) only [go_sem, ↓reduceIte, Bool.false_eq_true, Nat.reduceEqDiff, Nat.reduceAdd, Int.reduceLE, Int.reduceLT, Int.reduceEq, Int.reduceToNat, Int.toNat_natCast, Int.cast_ofNat_Int, Int.natCast_one, Nat.reduceMod, Nat.reduceDiv, UInt8.reduceToNat, Nat.reduceLT, h0, h1, h5, hd, hx, sub_ltoks hlt, hy]
      rw [if_pos hw, hneg] at hF
      exact ⟨by omega, hF rfl _ rfl⟩
    have hy : decide (m < (ls[i].toks.length : Int)) = false := by simp; omega
    rw [if_neg hw] at hT hF
    simp (config := {contextual := true, implicitDefEqProofs := false, maxSteps := 4000000}) only [go_sem, ↓reduceIte, Bool.false_eq_true, Nat.reduceEqDiff, Nat.reduceAdd, Int.reduceLE, Int.reduceLT, Int.reduceEq, Int.reduceToNat, Int.toNat_natCast, Int.cast_ofNat_Int, Int.natCast_one, Nat.reduceMod, Nat.reduceDiv, UInt8.reduceToNat, Nat.reduceLT, h0, h1, h5, hd, hx, sub_ltoks hlt, hy]
    refine ⟨by omega, ?_⟩
    refine l41a o b ls i hlt m st _ ls[i].toks.length 0 _ (by omega) (by omega) h0 h1 h5 rfl ?_ ?_
    · intro hany e' k0 k1 k5
      rw [List.drop_zero] at hany
      rw [hany] at hT hF
      simp only [Bool.false_eq_true, if_false] at hT hF
      have hw1 : IntKind.i64.wrap (m - 1) = m - 1 := wrap_i64 (by omega) (by omega)
      have hw3 : IntKind.i64.wrap (m - 1 - ls[i].toks.length) = m - 1 - ls[i].toks.length := wrap_i64 (by omega) (by omega)
      have hw2 := wrap_one (i := i) (by omega)
      have hc := fun st K => ih ls[i] (List.getElem_mem hlt) ls[i].kn (m - 1 - ls[i].toks.length) st K (by omega) (by omega)
      simp (config := {contextual := true, implicitDefEqProofs := false, maxSteps := 4000000}) only [go_sem, ↓reduceIte, Bool.false_eq_true, Nat.reduceEqDiff, Nat.reduceAdd, Int.reduceLE, Int.reduceLT, Int.reduceEq, Int.reduceToNat, Int.toNat_natCast, Int.cast_ofNat_Int, Int.natCast_one, Nat.reduceMod, Nat.reduceDiv, UInt8.reduceToNat, Nat.reduceLT, k0, k1, k5, hw1, hw2, hw3, sub_lkids hlt, sub_ltoks hlt, hc]
      have hle := leftLs_le ls[i].kids (m - 1 - ls[i].toks.length) (by omega)
      refine ⟨by omega, by omega, ?_⟩
      exact l41 o b ls ih st Q n (i + 1) _ _ (by omega) (by omega) (by omega) k0 rfl rfl hT hF
    · intro hany e' k4
      rw [List.drop_zero] at hany
      rw [hany, if_pos rfl, hneg] at hF
      simp (config := {contextual := true, implicitDefEqProofs := false, maxSteps := 4000000}) only [go_sem, ↓reduceIte, Bool.false_eq_true, Nat.reduceEqDiff, Nat.reduceAdd, Int.reduceLE, Int.reduceLT, Int.reduceEq, Int.reduceToNat, Int.toNat_natCast, Int.cast_ofNat_Int, Int.natCast_one, Nat.reduceMod, Nat.reduceDiv, UInt8.reduceToNat, Nat.reduceLT, k4]
      exact hF rfl _ k4
theorem c41 : ∀ (ls : List Line) (o : Own) (b : Bool) (m : Int) (s : St) (K : AV → St → Prop), -1 ≤ m → m ≤ 300 → CallW cx 41 [slo o b ls.length (encLs ls), .int .i64 m] s K = K (.int .i64 (leftLs ls m)) s := by
  refine lines_ind fun ls ih => ?_
  intro o b m s K h1 h2
  refine CallW.eq (CallW.fn' (fn := ir41) rfl rfl (by kernel_rfl) ir41.eq_1 ?_) K
  simp (config := {contextual := true, implicitDefEqProofs := false, maxSteps := 4000000}) only [go_sem, ↓reduceIte, Bool.false_eq_true, Nat.reduceEqDiff, Nat.reduceAdd, Int.reduceLE, Int.reduceLT, Int.reduceEq, Int.reduceToNat, Int.toNat_natCast, Int.cast_ofNat_Int, Int.natCast_one, Nat.reduceMod, Nat.reduceDiv, UInt8.reduceToNat, Nat.reduceLT]
  refine l41 o b ls (fun l hl b m s K h1 h2 => by rw [← slo_no]; exact ih l hl .no b m s K h1 h2) _ _ ls.length 0 m _ (by omega) (by omega) h1 rfl rfl rfl ?_ ?_
  · intro e' m' hm k1
    rw [List.drop_zero] at hm
    simp (config := {contextual := true, implicitDefEqProofs := false, maxSteps := 4000000}) only [go_sem, ↓reduceIte, Bool.false_eq_true, Nat.reduceEqDiff, Nat.reduceAdd, Int.reduceLE, Int.reduceLT, Int.reduceEq, Int.reduceToNat, Int.toNat_natCast, Int.cast_ofNat_Int, Int.natCast_one, Nat.reduceMod, Nat.reduceDiv, UInt8.reduceToNat, Nat.reduceLT, k1]
    rw [hm]
  · intro hm e' k4
    rw [List.drop_zero] at hm
    simp (config := {contextual := true, implicitDefEqProofs := false, maxSteps := 4000000}) only [go_sem, ↓reduceIte, Bool.false_eq_true, Nat.reduceEqDiff, Nat.reduceAdd, Int.reduceLE, Int.reduceLT, Int.reduceEq, Int.reduceToNat, Int.toNat_natCast, Int.cast_ofNat_Int, Int.natCast_one, Nat.reduceMod, Nat.reduceDiv, UInt8.reduceToNat, Nat.reduceLT, k4]
    rw [hm]
theorem c16 (ls : List Line) (b : Bool) (s : St) (K : AV → St → Prop) : CallW cx 16 [slv b ls.length (encLs ls), .int .i64 300] s K = K (.bool (decide (0 ≤ leftLs ls 300))) s := by
  refine CallW.eq (CallW.fn' (fn := ir16) rfl rfl (by kernel_rfl) ir16.eq_1 ?_) K
  have hc := fun st K => c41 ls .no b 300 st K (by omega) (by omega)
  simp only [slo_no] at hc
  simp (config := {contextual := true, implicitDefEqProofs := false, maxSteps := 4000000}) only [go_sem, ↓reduceIte, Bool.false_eq_true, Nat.reduceEqDiff, Nat.reduceAdd, Int.reduceLE, Int.reduceLT, Int.reduceEq, Int.reduceToNat, Int.toNat_natCast, Int.cast_ofNat_Int, Int.natCast_one, Nat.reduceMod, Nat.reduceDiv, UInt8.reduceToNat, Nat.reduceLT, hc]
mutual
def fewL : Line → Prop
  | .mk tn ts h kn k p => ts.length ≤ 300 ∧ (∀ t ∈ ts, t.t.length ≤ 2000) ∧ fewLs k
def fewLs : List Line → Prop
  | [] => True
  | l :: ls => fewL l ∧ fewLs ls
end
mutual
def cntL : Line → Nat
  | .mk tn ts h kn k p => 1 + ts.length + cntLs k
def cntLs : List Line → Nat
  | [] => 0
  | l :: ls => cntL l + cntLs ls
end
theorem fewL_eq (l : Line) : fewL l = (l.toks.length ≤ 300 ∧ (∀ t ∈ l.toks, t.t.length ≤ 2000) ∧ fewLs l.kids) := by cases l; simp only [fewL, Line.toks, Line.kids]
theorem cntL_eq (l : Line) : cntL l = 1 + l.toks.length + cntLs l.kids := by cases l; simp only [cntL, Line.toks, Line.kids]
theorem fewLs_mem : ∀ {ls : List Line}, fewLs ls → ∀ l ∈ ls, fewL l
  | [], _, _, h => by simp at h
  | g :: ls, hs, l, h => by
    simp only [fewLs] at hs
    rcases List.mem_cons.1 h with rfl | h
    · exact hs.1
    · exact fewLs_mem hs.2 l h
theorem cntLs_mem : ∀ {ls : List Line}, ∀ l ∈ ls, cntLs l.kids + 1 ≤ cntLs ls
  | g :: ls, l, h => by
    simp only [cntLs]
    rcases List.mem_cons.1 h with rfl | h
    · rw [cntL_eq]; omega
    · have := cntLs_mem l h; omega
theorem cntLs_length : ∀ (ls : List Line), ls.length ≤ cntLs ls
  | [] => by simp [cntLs]
  | f :: ls => by have := cntLs_length ls; simp only [cntLs, List.length_cons, cntL_eq]; omega
theorem left_few : ∀ (ls : List Line) (m : Int), -1 ≤ m → m ≤ 300 → 0 ≤ leftLs ls m → fewLs ls ∧ leftLs ls m = m - cntLs ls := by
  refine lines_ind fun ls ih => ?_
  induction ls with
  | nil => intro m hm _ h; simp [fewLs, leftLs, cntLs]
  | cons f ls ih2 =>
    intro m hm hm3 h
    simp only [leftLs] at h ⊢
    split at h
    · omega
    rename_i hm0
    rw [if_neg hm0]
    rw [leftL_eq] at h ⊢
    have hneg : leftLs ls (-1) < 0 := by have := leftLs_le ls (-1) (by omega); omega
    split at h
    · omega
    rename_i hb
    rw [if_neg hb]
    split at h
    · omega
    rename_i hb2
    rw [if_neg hb2]
    have hk := leftLs_le f.kids (m - 1 - f.toks.length) (by omega)
    obtain ⟨h1, h2⟩ := ih2 (fun g hg => ih g (by simp [hg])) (leftLs f.kids (m - 1 - f.toks.length)) hk.1 (by omega) h
    have hk0 : 0 ≤ leftLs f.kids (m - 1 - f.toks.length) := by
      have := leftLs_le ls (leftLs f.kids (m - 1 - f.toks.length)) hk.1; omega
    obtain ⟨h3, h4⟩ := ih f (by simp) (m - 1 - f.toks.length) (by omega) (by omega) hk0
    simp only [List.any_eq_true, decide_eq_true_eq, not_exists, not_and] at hb2
    refine ⟨?_, ?_⟩
    · simp only [fewLs, fewL_eq]
      exact ⟨⟨by omega, fun x hx => by have := hb2 x hx; omega, h3⟩, h1⟩
    · rw [h2, h4]; simp only [cntLs, cntL_eq]; omega
end T10

/- What Find and the faults of lines come to. -/
namespace T10
open Go Fw Go.Proofs
set_option maxRecDepth 100000
set_option linter.unusedSimpArgs false
set_option linter.unusedVariables false
def findGo (w : List UInt8) : List Form → Nat → Int
  | [], _ => -1
  | f :: fs, i => if f.word = w then i else findGo w fs (i + 1)
def isWord (l : Line) : Bool := match l.toks with
  | [] => false
  | t :: _ => decide (t.k = 1)
def wordOf (l : Line) : List UInt8 := match l.toks with
  | [] => []
  | t :: _ => t.t
def findL (fs : List Form) (l : Line) : Int := if isWord l = true then findGo (wordOf l) fs 0 else -1
theorem findGo_range (w : List UInt8) : ∀ (fs : List Form) (i : Nat), findGo w fs i = -1 ∨ ∃ j : Nat, findGo w fs i = (j : Int) ∧ i ≤ j ∧ j < i + fs.length
  | [], i => .inl rfl
  | f :: fs, i => by
    simp only [findGo]
    split
    · exact .inr ⟨i, rfl, Nat.le_refl _, by simp⟩
    · rcases findGo_range w fs (i + 1) with h | ⟨j, h, h1, h2⟩
      · exact .inl h
      · exact .inr ⟨j, h, by omega, by simp at h2 ⊢; omega⟩
theorem findL_range (fs : List Form) (l : Line) : findL fs l = -1 ∨ ∃ j : Nat, findL fs l = (j : Int) ∧ j < fs.length := by
  unfold findL
  split
  · rcases findGo_range (wordOf l) fs 0 with h | ⟨j, h, _, h2⟩
    · exact .inl h
    · exact .inr ⟨j, h, by omega⟩
  · exact .inl rfl
theorem tok0 {l : Line} (h : l.toks ≠ []) : 0 < l.toks.length ∧ isWord l = decide ((l.toks[0]'(List.length_pos_iff.2 h)).k = 1) ∧ wordOf l = (l.toks[0]'(List.length_pos_iff.2 h)).t := by
  refine ⟨List.length_pos_iff.2 h, ?_, ?_⟩
  · unfold isWord
    split
    · rename_i ht; exact absurd ht h
    · rename_i t ts ht; simp [ht]
  · unfold wordOf
    split
    · rename_i ht; exact absurd ht h
    · rename_i t ts ht; simp [ht]
theorem l20 (b : Bool) (fs : List Form) (hcnt : fs.length ≤ 40) (l : Line) (hne : l.toks ≠ []) (p : Nat) (L : Nat) (Q : Sig → FE → St → Prop) : ∀ (n i : Nat) (e : FE) (st : St), i + n = fs.length → st.low = L → L ≤ st.next → p < st.next → Fw.look p st.heap = some (.cells (some 49) [slt l.tn l.toks.length (encTs l.toks), .bool l.head, slv l.kn l.kids.length (encLs l.kids), .int .i64 l.pos]) →
    e 3 = .ptr p 0 → e 19 = slv b fs.length (encFs fs) → e 20 = .int .i64 fs.length → e 21 = .int .i64 i →
    (findGo (wordOf l) (fs.drop i) i = -1 → ∀ e' st', st'.low = L → Q (.exit 0) e' st') → (findGo (wordOf l) (fs.drop i) i ≠ -1 → ∀ e' st', st'.low = L → e' 4 = .int .i64 (findGo (wordOf l) (fs.drop i) i) → Q .ret e' st') → WLoop cx ir20L0 e st Q
  | 0, i, e, st, hi, hL, hLn, hp, hpl, h3, h19, h20, h21, hT, hF => by
    refine WLoop.rnd (c := _) ir20L0.eq_1 ?_
    have hd : decide ((i : Int) < (fs.length : Int)) = false := by simp; omega
    simp (config := {contextual := true, implicitDefEqProofs := false, maxSteps := 4000000}) only [go_sem, ↓reduceIte, Bool.false_eq_true, Nat.reduceEqDiff, Nat.reduceAdd, Int.reduceLE, Int.reduceLT, Int.reduceEq, Int.reduceToNat, Int.toNat_natCast, Int.cast_ofNat_Int, Int.natCast_one, Nat.reduceMod, Nat.reduceDiv, UInt8.reduceToNat, Nat.reduceLT, h19, h20, h21, hd]
    exact hT (by rw [List.drop_eq_nil_of_le (by omega)]; rfl) _ _ hL
  | n + 1, i, e, st, hi, hL, hLn, hp, hpl, h3, h19, h20, h21, hT, hF => by
    refine WLoop.rnd (c := _) ir20L0.eq_1 ?_
    have hd : decide ((i : Int) < (fs.length : Int)) = true := by simp; omega
    have hw := wrap_one (i := i) (by omega)
    have hlt : i < fs.length := by omega
    have hmin : min st.low st.next = st.low := by omega
    have hne2 : (st.next = p) = False := by simp; omega
    obtain ⟨ht0, _, hwd⟩ := tok0 hne
    rw [List.drop_eq_getElem_cons hlt] at hT hF
    simp only [findGo] at hT hF
    have st0 : sub (encTs l.toks) 1 1 = some [.str l.toks[0].t] := by have := sub_tt ht0; simpa using this
    by_cases hq : fs[i].word = wordOf l
    · have hx : decide (fs[i].word = l.toks[0].t) = true := by rw [← hwd]; simp [hq]
      simp (config := {contextual := true, implicitDefEqProofs := false, maxSteps := 4000000}) only [go_sem, ↓reduceIte, Bool.false_eq_true, Nat.reduceEqDiff, Nat.reduceAdd, Int.reduceLE, Int.reduceLT, Int.reduceEq, Int.reduceToNat, Int.toNat_natCast, Int.cast_ofNat_Int, Int.natCast_one, Nat.reduceMod, Nat.reduceDiv, UInt8.reduceToNat, Nat.reduceLT, h3, h19, h20, h21, hd, hw, sub_form hlt, encF_eq, hmin, hne2, hpl, st0, hx, Int.reduceMul, Nat.reduceMul, Nat.zero_mul]
      rw [if_pos hq] at hF
      refine ⟨by omega, by omega, ?_⟩
      exact hF (by omega) _ _ hL rfl
    · have hx : decide (fs[i].word = l.toks[0].t) = false := by rw [← hwd]; simp [hq]
      simp (config := {contextual := true, implicitDefEqProofs := false, maxSteps := 4000000}) only [go_sem, ↓reduceIte, Bool.false_eq_true, Nat.reduceEqDiff, Nat.reduceAdd, Int.reduceLE, Int.reduceLT, Int.reduceEq, Int.reduceToNat, Int.toNat_natCast, Int.cast_ofNat_Int, Int.natCast_one, Nat.reduceMod, Nat.reduceDiv, UInt8.reduceToNat, Nat.reduceLT, h3, h19, h20, h21, hd, hw, sub_form hlt, encF_eq, hmin, hne2, hpl, st0, hx, Int.reduceMul, Nat.reduceMul, Nat.zero_mul]
      rw [if_neg hq] at hT hF
      refine ⟨by omega, by omega, ?_⟩
      exact l20 b fs hcnt l hne p L Q n (i + 1) _ _ (by omega) hL (by simp only; omega) (by simp only; omega) (by simp only [Fw.look]; rw [if_neg (by omega)]; exact hpl) h3 h19 h20 rfl hT hF
theorem c20 (fs : List Form) (hcnt : fs.length ≤ 40) (b : Bool) (l : Line) (s : St) (K : AV → St → Prop) : CallW cx 20 [slv b fs.length (encFs fs), .agg [slt l.tn l.toks.length (encTs l.toks), .bool l.head, slv l.kn l.kids.length (encLs l.kids), .int .i64 l.pos]] s K = K (.int .i64 (findL fs l)) s := by
  refine CallW.eq (CallW.fn' (fn := ir20) rfl rfl (by kernel_rfl) ir20.eq_1 ?_) K
  by_cases hne : l.toks = []
  · have hx : decide ((l.toks.length : Int) = 0) = true := by simp [hne]
    have hv : findL fs l = -1 := by simp [findL, isWord, hne]
    simp (config := {contextual := true, implicitDefEqProofs := false, maxSteps := 4000000}) only [go_sem, ↓reduceIte, Bool.false_eq_true, Nat.reduceEqDiff, Nat.reduceAdd, Int.reduceLE, Int.reduceLT, Int.reduceEq, Int.reduceToNat, Int.toNat_natCast, Int.cast_ofNat_Int, Int.natCast_one, Nat.reduceMod, Nat.reduceDiv, UInt8.reduceToNat, Nat.reduceLT, hx, hv]
  · obtain ⟨ht0, hw, _⟩ := tok0 hne
    have hx : decide ((l.toks.length : Int) = 0) = false := by simp [hne]
    have st0 : sub (encTs l.toks) 0 1 = some [.int .i64 l.toks[0].k] := by have := sub_tk ht0; simpa using this
    by_cases hk : l.toks[0].k = 1
    · have hy : decide (l.toks[0].k ≠ 1) = false := by simp [hk]
      have hiw : isWord l = true := by rw [hw]; simp [hk]
      have hv : findL fs l = findGo (wordOf l) fs 0 := by simp [findL, hiw]
      simp (config := {contextual := true, implicitDefEqProofs := false, maxSteps := 4000000}) only [go_sem, ↓reduceIte, Bool.false_eq_true, Nat.reduceEqDiff, Nat.reduceAdd, Int.reduceLE, Int.reduceLT, Int.reduceEq, Int.reduceToNat, Int.toNat_natCast, Int.cast_ofNat_Int, Int.natCast_one, Nat.reduceMod, Nat.reduceDiv, UInt8.reduceToNat, Nat.reduceLT, hx, hy, st0, Nat.zero_mul]
      refine ⟨by omega, ?_⟩
      refine l20 b fs hcnt l hne s.next s.next _ fs.length 0 _ _ (by omega) rfl (by simp) (by simp) (by simp [Fw.look]) rfl rfl rfl rfl ?_ ?_
      · intro h e' st' hl
        rw [List.drop_zero] at h
        simp (config := {contextual := true, implicitDefEqProofs := false, maxSteps := 4000000}) only [go_sem, ↓reduceIte, Bool.false_eq_true, Nat.reduceEqDiff, Nat.reduceAdd, Int.reduceLE, Int.reduceLT, Int.reduceEq, Int.reduceToNat, Int.toNat_natCast, Int.cast_ofNat_Int, Int.natCast_one, Nat.reduceMod, Nat.reduceDiv, UInt8.reduceToNat, Nat.reduceLT]
        rw [LeaveW_int _ _ (by omega)]
        exact ⟨by rw [hv, h], rfl⟩
      · intro h e' st' hl h4
        rw [List.drop_zero] at h4
        simp (config := {contextual := true, implicitDefEqProofs := false, maxSteps := 4000000}) only [go_sem, ↓reduceIte, Bool.false_eq_true, Nat.reduceEqDiff, Nat.reduceAdd, Int.reduceLE, Int.reduceLT, Int.reduceEq, Int.reduceToNat, Int.toNat_natCast, Int.cast_ofNat_Int, Int.natCast_one, Nat.reduceMod, Nat.reduceDiv, UInt8.reduceToNat, Nat.reduceLT, h4]
        rw [LeaveW_int _ _ (by omega)]
        exact ⟨by rw [hv], rfl⟩
    · have hy : decide (l.toks[0].k ≠ 1) = true := by simp [hk]
      have hiw : isWord l = false := by rw [hw]; simp [hk]
      have hv : findL fs l = -1 := by simp [findL, hiw]
      simp (config := {contextual := true, implicitDefEqProofs := false, maxSteps := 4000000}) only [go_sem, ↓reduceIte, Bool.false_eq_true, Nat.reduceEqDiff, Nat.reduceAdd, Int.reduceLE, Int.reduceLT, Int.reduceEq, Int.reduceToNat, Int.toNat_natCast, Int.cast_ofNat_Int, Int.natCast_one, Nat.reduceMod, Nat.reduceDiv, UInt8.reduceToNat, Nat.reduceLT, hx, hy, st0, hv, Nat.zero_mul]
      omega
/- faults -/
def posOf (l : Line) (k : Nat) : Int := if l.toks = [] then 1 else (l.toks.getD (min k (l.toks.length - 1)) default).p
def faultV (c : Int) (l : Line) (k : Nat) : AV := .agg [.int .i64 c, .int .i64 l.pos, .int .i64 (posOf l k)]
theorem c54 (c : Int) (l : Line) (hl : l.toks.length ≤ 300) (k : Nat) (hk : k ≤ 1000) (s : St) (K : AV → St → Prop) : CallW cx 54 [.int .i64 c, .agg [slt l.tn l.toks.length (encTs l.toks), .bool l.head, slv l.kn l.kids.length (encLs l.kids), .int .i64 l.pos], .int .i64 k] s K = K (faultV c l k) s := by
  refine CallW.eq (CallW.fn' (fn := ir54) rfl rfl (by kernel_rfl) ir54.eq_1 ?_) K
  by_cases hne : l.toks = []
  · have hx : decide (0 < (l.toks.length : Int)) = false := by simp [hne]
    have hv : posOf l k = 1 := by simp [posOf, hne]
    simp (config := {contextual := true, implicitDefEqProofs := false, maxSteps := 4000000}) only [go_sem, ↓reduceIte, Bool.false_eq_true, Nat.reduceEqDiff, Nat.reduceAdd, Int.reduceLE, Int.reduceLT, Int.reduceEq, Int.reduceToNat, Int.toNat_natCast, Int.cast_ofNat_Int, Int.natCast_one, Nat.reduceMod, Nat.reduceDiv, UInt8.reduceToNat, Nat.reduceLT, hx, faultV, hv]
  · have hp : 0 < l.toks.length := List.length_pos_iff.2 hne
    have hx : decide (0 < (l.toks.length : Int)) = true := by simp; omega
    have hw : IntKind.i64.wrap ((l.toks.length : Int) - 1) = ((l.toks.length - 1 : Nat) : Int) := by rw [wrap_i64 (by omega) (by omega)]; omega
    have hmin : min (k : Int) ((l.toks.length - 1 : Nat) : Int) = ((min k (l.toks.length - 1) : Nat) : Int) := by omega
    have hlt : min k (l.toks.length - 1) < l.toks.length := by omega
    have hv : posOf l k = (l.toks[min k (l.toks.length - 1)]).p := by simp [posOf, hne, List.getD, hlt]
    simp (config := {contextual := true, implicitDefEqProofs := false, maxSteps := 4000000}) only [go_sem, ↓reduceIte, Bool.false_eq_true, Nat.reduceEqDiff, Nat.reduceAdd, Int.reduceLE, Int.reduceLT, Int.reduceEq, Int.reduceToNat, Int.toNat_natCast, Int.cast_ofNat_Int, Int.natCast_one, Nat.reduceMod, Nat.reduceDiv, UInt8.reduceToNat, Nat.reduceLT, hx, hw, hmin, sub_tp hlt, faultV, hv]
    omega
theorem c46 (c : Int) (l : Line) (s : St) (K : AV → St → Prop) : CallW cx 46 [.int .i64 c, .agg [slt l.tn l.toks.length (encTs l.toks), .bool l.head, slv l.kn l.kids.length (encLs l.kids), .int .i64 l.pos]] s K = K (faultV c l 0) s := by
  refine CallW.eq (CallW.fn' (fn := ir46) rfl rfl (by kernel_rfl) ir46.eq_1 ?_) K
  by_cases hne : l.toks = []
  · have hx : decide ((l.toks.length : Int) = 0) = true := by simp [hne]
    have hv : posOf l 0 = 1 := by simp [posOf, hne]
    simp (config := {contextual := true, implicitDefEqProofs := false, maxSteps := 4000000}) only [go_sem, ↓reduceIte, Bool.false_eq_true, Nat.reduceEqDiff, Nat.reduceAdd, Int.reduceLE, Int.reduceLT, Int.reduceEq, Int.reduceToNat, Int.toNat_natCast, Int.cast_ofNat_Int, Int.natCast_one, Nat.reduceMod, Nat.reduceDiv, UInt8.reduceToNat, Nat.reduceLT, hx, faultV, hv]
  · have hp : 0 < l.toks.length := List.length_pos_iff.2 hne
    have hx : decide ((l.toks.length : Int) = 0) = false := by simp [hne]
    have hv : posOf l 0 = (l.toks[0]).p := by simp [posOf, hne, List.getD, hp]
    have st0 : sub (encTs l.toks) 3 1 = some [.int .i64 l.toks[0].p] := by have := sub_tp hp; simpa using this
    simp (config := {contextual := true, implicitDefEqProofs := false, maxSteps := 4000000}) only [go_sem, ↓reduceIte, Bool.false_eq_true, Nat.reduceEqDiff, Nat.reduceAdd, Int.reduceLE, Int.reduceLT, Int.reduceEq, Int.reduceToNat, Int.toNat_natCast, Int.cast_ofNat_Int, Int.natCast_one, Nat.reduceMod, Nat.reduceDiv, UInt8.reduceToNat, Nat.reduceLT, hx, st0, faultV, hv, Nat.zero_mul]
    omega
theorem c79 (l : Line) (hl : l.toks.length ≤ 300) (k : Nat) (hk : k ≤ 1000) (p : Nat) (s : St) (hp : p < s.next) (hpl : Fw.look p s.heap = some (.cells (some 49) [slt l.tn l.toks.length (encTs l.toks), .bool l.head, slv l.kn l.kids.length (encLs l.kids), .int .i64 l.pos])) (K : AV → St → Prop) : CallW cx 79 [.int .i64 k, .ptr p 0] s K = K (faultV 2 l k) s := by
  refine CallW.eq (CallW.fn' (fn := ir79) rfl rfl (by kernel_rfl) ir79.eq_1 ?_) K
  have hne : (s.next = p) = False := by simp; omega
  have k54 := fun st K => c54 2 l hl k hk st K
  simp only [faultV] at k54
  simp (config := {contextual := true, implicitDefEqProofs := false, maxSteps := 4000000}) only [go_sem, ↓reduceIte, Bool.false_eq_true, Nat.reduceEqDiff, Nat.reduceAdd, Int.reduceLE, Int.reduceLT, Int.reduceEq, Int.reduceToNat, Int.toNat_natCast, Int.cast_ofNat_Int, Int.natCast_one, Nat.reduceMod, Nat.reduceDiv, UInt8.reduceToNat, Nat.reduceLT, hne, hpl, k54, faultV]
end T10

/- What the check of a line's tokens comes to. -/
namespace T10
open Go Fw Go.Proofs
set_option maxRecDepth 100000
set_option linter.unusedSimpArgs false
set_option linter.unusedVariables false
def fitsT (w : List UInt8) (t : Tok) : Bool := fitsB w t.k t.t t.n
def restBad (w : List UInt8) : List Tok → Nat → Option Nat
  | [], _ => none
  | t :: ts, i => if fitsT w t = true then restBad w ts (i + 1) else some i
def tokGo (l : Line) : List (List UInt8) → Nat → Option Nat
  | [], k => if k < l.toks.length then some k else none
  | a :: us, k => if splitB a = true then restBad (splitW a) (l.toks.drop k) k
    else match l.toks[k]? with
      | some t => if fitsT (splitW a) t = true then tokGo l us (k + 1) else some k
      | none => some k
def optC (l : Line) : Option Nat → List AV
  | none => [.int .i64 0, .int .i64 0, .int .i64 0]
  | some k => [.int .i64 2, .int .i64 l.pos, .int .i64 (posOf l k)]
def stV (st : St) (r : Nat) (l : Line) (o : Option Nat) : St := { heap := put r (.cells (some 34) (optC l o)) st.heap, next := st.next, low := min st.low r }
theorem restBad_le (w : List UInt8) : ∀ (ts : List Tok) (i k : Nat), restBad w ts i = some k → k < i + ts.length
  | [], i, k, h => by simp [restBad] at h
  | t :: ts, i, k, h => by
    simp only [restBad] at h
    split at h
    · have := restBad_le w ts (i + 1) k h; simp; omega
    · cases h; simp
theorem l71a (w : List UInt8) (l : Line) (hl : l.toks.length ≤ 300) (htx : ∀ t ∈ l.toks, t.t.length ≤ 2000) (p r : Nat) (st : St) (hp : p < st.next) (hpl : Fw.look p st.heap = some (.cells (some 49) [slt l.tn l.toks.length (encTs l.toks), .bool l.head, slv l.kn l.kids.length (encLs l.kids), .int .i64 l.pos])) (hrl : Fw.look r st.heap = some (.cells (some 34) [.int .i64 0, .int .i64 0, .int .i64 0]))
    (Q : Sig → FE → St → Prop) : ∀ (n k : Nat) (e : FE), k + n = max k l.toks.length → k ≤ 400 → e 3 = .ptr p 0 → e 4 = .ptr r 0 → e 5 = .func 79 [] [.ptr p 0] → e 6 = .int .i64 k → e 9 = .str w →
    (restBad w (l.toks.drop k) k = none → ∀ e', e' 4 = .ptr r 0 → Q (.exit 2) e' st) → (∀ j, restBad w (l.toks.drop k) k = some j → ∀ e', e' 4 = .ptr r 0 → Q .ret e' (stV st r l (some j))) → WLoop cx ir71L0 e st Q
  | 0, k, e, hk, hk4, h3, h4, h5, h6, h9, hT, hF => by
    refine WLoop.rnd (c := _) ir71L0.eq_1 ?_
    have hd : decide ((k : Int) < (l.toks.length : Int)) = false := by simp; omega
    simp (config := {contextual := true, implicitDefEqProofs := false, maxSteps := 4000000}) only [go_sem, ↓reduceIte, Bool.false_eq_true, Nat.reduceEqDiff, Nat.reduceAdd, Int.reduceLE, Int.reduceLT, Int.reduceEq, Int.reduceToNat, Int.toNat_natCast, Int.cast_ofNat_Int, Int.natCast_one, Nat.reduceMod, Nat.reduceDiv, UInt8.reduceToNat, Nat.reduceLT, h3, h6, hd, hpl]
    exact hT (by rw [List.drop_eq_nil_of_le (by omega)]; rfl) _ h4
  | n + 1, k, e, hk, hk4, h3, h4, h5, h6, h9, hT, hF => by
    refine WLoop.rnd (c := _) ir71L0.eq_1 ?_
    have hlt : k < l.toks.length := by omega
    have hd : decide ((k : Int) < (l.toks.length : Int)) = true := by simp; omega
    have hw := wrap_one (i := k) (by omega)
    have htl := htx _ (List.getElem_mem hlt)
    have k25 := fun st K => c25 l.toks[k].k l.toks[k].t l.toks[k].n l.toks[k].p st K w (by omega)
    have k79 := fun K => c79 l hl k (by omega) p st hp hpl K
    simp only [faultV] at k79
    rw [List.drop_eq_getElem_cons hlt] at hT hF
    simp only [restBad] at hT hF
    have hff : fitsB w l.toks[k].k l.toks[k].t l.toks[k].n = fitsT w l.toks[k] := rfl
    cases hf : fitsT w l.toks[k] with
    | true =>
      simp (config := {contextual := true, implicitDefEqProofs := false, maxSteps := 4000000}) only [go_sem, ↓reduceIte, Bool.false_eq_true, Nat.reduceEqDiff, Nat.reduceAdd, Int.reduceLE, Int.reduceLT, Int.reduceEq, Int.reduceToNat, Int.toNat_natCast, Int.cast_ofNat_Int, Int.natCast_one, Nat.reduceMod, Nat.reduceDiv, UInt8.reduceToNat, Nat.reduceLT, h3, h4, h5, h6, h9, hd, hpl, hw, sub_tok hlt, k25, hff, hf]
      rw [hf] at hT hF
      simp only [if_true] at hT hF
      refine ⟨by omega, ?_⟩
      exact l71a w l hl htx p r st hp hpl hrl Q n (k + 1) _ (by omega) (by omega) h3 h4 h5 rfl h9 hT hF
    | false =>
      simp (config := {contextual := true, implicitDefEqProofs := false, maxSteps := 4000000}) only [go_sem, ↓reduceIte, Bool.false_eq_true, Nat.reduceEqDiff, Nat.reduceAdd, Int.reduceLE, Int.reduceLT, Int.reduceEq, Int.reduceToNat, Int.toNat_natCast, Int.cast_ofNat_Int, Int.natCast_one, Nat.reduceMod, Nat.reduceDiv, UInt8.reduceToNat, Nat.reduceLT, h3, h4, h5, h6, h9, hd, hpl, hw, sub_tok hlt, k25, k79, hff, hf, hrl]
      rw [hf] at hF
      exact ⟨by omega, hF k rfl _ h4⟩
theorem l71 (f : Form) (hargs : f.args.length ≤ 12) (hal : ∀ a ∈ f.args, a.length ≤ 100) (l : Line) (hl : l.toks.length ≤ 300) (htx : ∀ t ∈ l.toks, t.t.length ≤ 2000) (p r : Nat) (st : St) (hp : p < st.next) (hpl : Fw.look p st.heap = some (.cells (some 49) [slt l.tn l.toks.length (encTs l.toks), .bool l.head, slv l.kn l.kids.length (encLs l.kids), .int .i64 l.pos])) (hrl : Fw.look r st.heap = some (.cells (some 34) [.int .i64 0, .int .i64 0, .int .i64 0]))
    (Q : Sig → FE → St → Prop) : ∀ (n i : Nat) (e : FE), i + n = f.args.length → e 3 = .ptr p 0 → e 4 = .ptr r 0 → e 5 = .func 79 [] [.ptr p 0] → e 6 = .int .i64 ((i + 1 : Nat) : Int) → e 13 = slv f.an f.args.length (f.args.map AV.str) → e 14 = .int .i64 f.args.length → e 15 = .int .i64 i →
    (tokGo l (f.args.drop i) (i + 1) = tokGo l [] (f.args.length + 1) → ∀ e', e' 3 = .ptr p 0 → e' 4 = .ptr r 0 → e' 5 = .func 79 [] [.ptr p 0] → e' 6 = .int .i64 ((f.args.length + 1 : Nat) : Int) → Q (.exit 0) e' st) →
    (∀ e', e' 4 = .ptr r 0 → Q .ret e' (stV st r l (tokGo l (f.args.drop i) (i + 1)))) → WLoop cx ir71L1 e st Q
  | 0, i, e, hi, h3, h4, h5, h6, h13, h14, h15, hT, hF => by
    refine WLoop.rnd (c := _) ir71L1.eq_1 ?_
    have hd : decide ((i : Int) < (f.args.length : Int)) = false := by simp; omega
    simp (config := {contextual := true, implicitDefEqProofs := false, maxSteps := 4000000}) only [go_sem, ↓reduceIte, Bool.false_eq_true, Nat.reduceEqDiff, Nat.reduceAdd, Int.reduceLE, Int.reduceLT, Int.reduceEq, Int.reduceToNat, Int.toNat_natCast, Int.cast_ofNat_Int, Int.natCast_one, Nat.reduceMod, Nat.reduceDiv, UInt8.reduceToNat, Nat.reduceLT, h13, h14, h15, hd]
    have hie : i = f.args.length := by omega
    subst hie
    exact hT (by rw [List.drop_length]) _ h3 h4 h5 h6
  | n + 1, i, e, hi, h3, h4, h5, h6, h13, h14, h15, hT, hF => by
    refine WLoop.rnd (c := _) ir71L1.eq_1 ?_
    have hlt : i < f.args.length := by omega
    have hd : decide ((i : Int) < (f.args.length : Int)) = true := by simp; omega
    have hw := wrap_one (i := i) (by omega)
    have hw2 := wrap_one (i := i + 1) (by omega)
    have hal' := hal _ (List.getElem_mem hlt)
    have k51 := fun st K => c51 f.args[i] (by omega) st K
    rw [List.drop_eq_getElem_cons hlt] at hT hF
    simp only [tokGo] at hT hF
    cases hsp : splitB f.args[i] with
    | true =>
      rw [hsp] at hF
      simp only [if_true] at hF
      simp (config := {contextual := true, implicitDefEqProofs := false, maxSteps := 4000000}) only [go_sem, ↓reduceIte, Bool.false_eq_true, Nat.reduceEqDiff, Nat.reduceAdd, Int.reduceLE, Int.reduceLT, Int.reduceEq, Int.reduceToNat, Int.toNat_natCast, Int.cast_ofNat_Int, Int.natCast_one, Nat.reduceMod, Nat.reduceDiv, UInt8.reduceToNat, Nat.reduceLT, h3, h4, h5, h6, h13, h14, h15, hd, sub_str hlt, k51, hsp]
      refine ⟨by omega, ?_⟩
      refine l71a (splitW f.args[i]) l hl htx p r st hp hpl hrl _ (max (i + 1) l.toks.length - (i + 1)) (i + 1) _ (by omega) (by omega) h3 h4 h5 h6 rfl ?_ ?_
      · intro hr e' k4
        rw [hr] at hF
        simp (config := {contextual := true, implicitDefEqProofs := false, maxSteps := 4000000}) only [go_sem, ↓reduceIte, Bool.false_eq_true, Nat.reduceEqDiff, Nat.reduceAdd, Int.reduceLE, Int.reduceLT, Int.reduceEq, Int.reduceToNat, Int.toNat_natCast, Int.cast_ofNat_Int, Int.natCast_one, Nat.reduceMod, Nat.reduceDiv, UInt8.reduceToNat, Nat.reduceLT, k4, hrl]
        exact hF _ k4
      · intro j hr e' k4
        rw [hr] at hF
        simp (config := {contextual := true, implicitDefEqProofs := false, maxSteps := 4000000}) only [go_sem, ↓reduceIte, Bool.false_eq_true, Nat.reduceEqDiff, Nat.reduceAdd, Int.reduceLE, Int.reduceLT, Int.reduceEq, Int.reduceToNat, Int.toNat_natCast, Int.cast_ofNat_Int, Int.natCast_one, Nat.reduceMod, Nat.reduceDiv, UInt8.reduceToNat, Nat.reduceLT, k4]
        exact hF _ k4
    | false =>
      rw [hsp] at hT hF
      simp only [Bool.false_eq_true, if_false] at hT hF
      by_cases hlen : i + 1 < l.toks.length
      · have hx : decide ((l.toks.length : Int) ≤ ((i + 1 : Nat) : Int)) = false := by simp; omega
        have htl := htx _ (List.getElem_mem hlen)
        have k25 := fun st K => c25 l.toks[i + 1].k l.toks[i + 1].t l.toks[i + 1].n l.toks[i + 1].p st K (splitW f.args[i]) (by omega)
        have k79 := fun K => c79 l hl (i + 1) (by omega) p st hp hpl K
        simp only [faultV] at k79
        have hff : fitsB (splitW f.args[i]) l.toks[i + 1].k l.toks[i + 1].t l.toks[i + 1].n = fitsT (splitW f.args[i]) l.toks[i + 1] := rfl
        rw [List.getElem?_eq_getElem hlen] at hT hF
        simp only at hT hF
        cases hf : fitsT (splitW f.args[i]) l.toks[i + 1] with
        | true =>
          rw [hf] at hT hF
          simp only [if_true] at hT hF
          simp (config := {contextual := true, implicitDefEqProofs := false, maxSteps := 4000000}) only [go_sem, ↓reduceIte, Bool.false_eq_true, Nat.reduceEqDiff, Nat.reduceAdd, Int.reduceLE, Int.reduceLT, Int.reduceEq, Int.reduceToNat, Int.toNat_natCast, Int.cast_ofNat_Int, Int.natCast_one, Nat.reduceMod, Nat.reduceDiv, UInt8.reduceToNat, Nat.reduceLT, h3, h4, h5, h6, h13, h14, h15, hd, hw, hw2, sub_str hlt, k51, hsp, hx, hpl, sub_tok hlen, k25, hff, hf]
          refine ⟨by omega, by omega, ?_⟩
          exact l71 f hargs hal l hl htx p r st hp hpl hrl Q n (i + 1) _ (by omega) h3 h4 h5 rfl h13 h14 rfl hT hF
        | false =>
          rw [hf] at hF
          simp only [Bool.false_eq_true, if_false] at hF
          simp (config := {contextual := true, implicitDefEqProofs := false, maxSteps := 4000000}) only [go_sem, ↓reduceIte, Bool.false_eq_true, Nat.reduceEqDiff, Nat.reduceAdd, Int.reduceLE, Int.reduceLT, Int.reduceEq, Int.reduceToNat, Int.toNat_natCast, Int.cast_ofNat_Int, Int.natCast_one, Nat.reduceMod, Nat.reduceDiv, UInt8.reduceToNat, Nat.reduceLT, h3, h4, h5, h6, h13, h14, h15, hd, hw, hw2, sub_str hlt, k51, hsp, hx, hpl, sub_tok hlen, k25, hff, hf, k79, hrl]
          exact ⟨by omega, by omega, hF _ h4⟩
      · have hx : decide ((l.toks.length : Int) ≤ ((i + 1 : Nat) : Int)) = true := by simp; omega
        have k79 := fun K => c79 l hl (i + 1) (by omega) p st hp hpl K
        simp only [faultV] at k79
        rw [List.getElem?_eq_none (by omega)] at hF
        simp only at hF
        simp (config := {contextual := true, implicitDefEqProofs := false, maxSteps := 4000000}) only [go_sem, ↓reduceIte, Bool.false_eq_true, Nat.reduceEqDiff, Nat.reduceAdd, Int.reduceLE, Int.reduceLT, Int.reduceEq, Int.reduceToNat, Int.toNat_natCast, Int.cast_ofNat_Int, Int.natCast_one, Nat.reduceMod, Nat.reduceDiv, UInt8.reduceToNat, Nat.reduceLT, h3, h4, h5, h6, h13, h14, h15, hd, hw, hw2, sub_str hlt, k51, hsp, hx, hpl, k79, hrl]
        exact ⟨by omega, hF _ h4⟩
def tokV (l : Line) (o : Option Nat) : AV := .agg (optC l o)
theorem c71 (f : Form) (hargs : f.args.length ≤ 12) (hal : ∀ a ∈ f.args, a.length ≤ 100) (l : Line) (hl : l.toks.length ≤ 300) (htx : ∀ t ∈ l.toks, t.t.length ≤ 2000) (s : St) (K : AV → St → Prop) :
    CallW cx 71 [.agg [.str f.word, slv f.an f.args.length (f.args.map AV.str), slv f.kn f.kids.length (encFs f.kids), .int .i64 f.least, .int .i64 f.most], .agg [slt l.tn l.toks.length (encTs l.toks), .bool l.head, slv l.kn l.kids.length (encLs l.kids), .int .i64 l.pos]] s K = K (tokV l (tokGo l f.args 1)) s := by
  refine CallW.eq (CallW.fn' (fn := ir71) rfl rfl (by kernel_rfl) ir71.eq_1 ?_) K
  simp (config := {contextual := true, implicitDefEqProofs := false, maxSteps := 4000000}) only [go_sem, ↓reduceIte, Bool.false_eq_true, Nat.reduceEqDiff, Nat.reduceAdd, Int.reduceLE, Int.reduceLT, Int.reduceEq, Int.reduceToNat, Int.toNat_natCast, Int.cast_ofNat_Int, Int.natCast_one, Nat.reduceMod, Nat.reduceDiv, UInt8.reduceToNat, Nat.reduceLT]
  refine l71 f hargs hal l hl htx (s.next + 1) (s.next + 2) _ (by simp) (by simp [Fw.look]) (by simp [Fw.look]) _ f.args.length 0 _ (by omega) rfl rfl rfl rfl rfl rfl rfl ?_ ?_
  · intro ht e' k3 k4 k5 k6
    rw [List.drop_zero] at ht
    rw [ht]
    by_cases hlen : f.args.length + 1 < l.toks.length
    · have hx : decide (((f.args.length + 1 : Nat) : Int) < (l.toks.length : Int)) = true := by simp; omega
      have k79 := fun st hp hpl K => c79 l hl (f.args.length + 1) (by omega) (s.next + 1) st hp hpl K
      simp only [faultV] at k79
      have hv : tokGo l [] (f.args.length + 1) = some (f.args.length + 1) := by simp [tokGo, hlen]
      simp (config := {contextual := true, implicitDefEqProofs := false, maxSteps := 4000000}) only [go_sem, ↓reduceIte, Bool.false_eq_true, Nat.reduceEqDiff, Nat.reduceAdd, Int.reduceLE, Int.reduceLT, Int.reduceEq, Int.reduceToNat, Int.toNat_natCast, Int.cast_ofNat_Int, Int.natCast_one, Nat.reduceMod, Nat.reduceDiv, UInt8.reduceToNat, Nat.reduceLT, k3, k4, k5, k6, hx, k79, tokV, hv, optC]
    · have hx : decide (((f.args.length + 1 : Nat) : Int) < (l.toks.length : Int)) = false := by simp; omega
      have hv : tokGo l [] (f.args.length + 1) = none := by simp [tokGo]; omega
      simp (config := {contextual := true, implicitDefEqProofs := false, maxSteps := 4000000}) only [go_sem, ↓reduceIte, Bool.false_eq_true, Nat.reduceEqDiff, Nat.reduceAdd, Int.reduceLE, Int.reduceLT, Int.reduceEq, Int.reduceToNat, Int.toNat_natCast, Int.cast_ofNat_Int, Int.natCast_one, Nat.reduceMod, Nat.reduceDiv, UInt8.reduceToNat, Nat.reduceLT, k3, k4, k5, k6, hx, tokV, hv, optC]
  · intro e' k4
    rw [List.drop_zero]
    cases tokGo l f.args (0 + 1) with
    | none =>
      simp only [stV, optC, tokV]
      simp (config := {contextual := true, implicitDefEqProofs := false, maxSteps := 4000000}) only [go_sem, ↓reduceIte, Bool.false_eq_true, Nat.reduceEqDiff, Nat.reduceAdd, Int.reduceLE, Int.reduceLT, Int.reduceEq, Int.reduceToNat, Int.toNat_natCast, Int.cast_ofNat_Int, Int.natCast_one, Nat.reduceMod, Nat.reduceDiv, UInt8.reduceToNat, Nat.reduceLT, k4]
    | some k =>
      simp only [stV, optC, tokV]
      simp (config := {contextual := true, implicitDefEqProofs := false, maxSteps := 4000000}) only [go_sem, ↓reduceIte, Bool.false_eq_true, Nat.reduceEqDiff, Nat.reduceAdd, Int.reduceLE, Int.reduceLT, Int.reduceEq, Int.reduceToNat, Int.toNat_natCast, Int.cast_ofNat_Int, Int.natCast_one, Nat.reduceMod, Nat.reduceDiv, UInt8.reduceToNat, Nat.reduceLT, k4]
end T10
