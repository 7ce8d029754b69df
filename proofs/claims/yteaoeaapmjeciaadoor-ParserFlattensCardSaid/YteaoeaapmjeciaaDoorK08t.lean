/- Parts of the proof, one behind the other. -/
import Derived.Test.YteaoeaapmjeciaaDoorK08d
import Derived.Test.YteaoeaapmjeciaaDoorFwX
import Derived.Test.YteaoeaapmjeciaaDoorFwG
set_option linter.unusedSimpArgs false
set_option linter.unusedVariables false
/- Lines as a tree, and how they lie in the machine's cells. -/
namespace T08
open Go Fw Go.Proofs
set_option maxRecDepth 100000
set_option linter.unusedSimpArgs false
set_option linter.unusedVariables false
theorem drop_at {a : List UInt8} {i : Nat} (h : i < a.length) : a.drop i = a.getD i 0 :: a.drop (i + 1) := by
  rw [List.drop_eq_getElem_cons h]; simp [List.getD, h]
theorem wrap_one {i : Nat} (h : i < 9223372036854775807) : IntKind.i64.wrap ((i : Int) + 1) = ((i + 1 : Nat) : Int) := by rw [wrap_i64 (by omega) (by omega)]; rfl
theorem byte_eq {c : UInt8} {n : UInt8} (h : (c.toNat : Int) = (n.toNat : Int)) : c = n := UInt8.toNat.inj (by omega)
theorem sub_append_left {us bs : List AV} {j n : Nat} (h : j + n ≤ us.length) : sub (us ++ bs) j n = sub us j n := by
  unfold sub
  rw [if_pos h, if_pos (by simp; omega)]
  congr 1
  rw [List.drop_append_of_le_length (by omega), List.take_append_of_le_length (by simp; omega)]
theorem sub_append_right {us bs : List AV} {j n : Nat} : sub (us ++ bs) (us.length + j) n = sub bs j n := by
  unfold sub
  simp only [List.length_append, List.drop_append, List.drop_eq_nil_of_le (Nat.le_add_right us.length j), Nat.add_sub_cancel_left, List.nil_append]
  by_cases h : j + n ≤ bs.length
  · rw [if_pos h, if_pos (by omega)]
  · rw [if_neg h, if_neg (by omega)]
/-- A slice that is nil, or has no room, or of whose room nothing is known. -/
abbrev TN := Bool × Bool
def ow (b : Bool) : Own := if b = true then .full else .no
def slt (b : TN) (n : Nat) (cs : List AV) : AV := if b.1 = true ∧ n = 0 then .nilslice else .slice cs n (ow b.2)
theorem slt_no (n : Nat) (cs : List AV) : slt (false, false) n cs = .slice cs n .no := rfl
theorem slt_full (n : Nat) (cs : List AV) : slt (false, true) n cs = .slice cs n .full := rfl
theorem slt_nil (b : Bool) (cs : List AV) : slt (true, b) 0 cs = .nilslice := rfl
theorem lenv_slt (b : TN) (n : Nat) (cs : List AV) : lenvA (slt b n cs) = some (.int .i64 n) := by
  unfold slt; split
  · rename_i h; rw [h.2]; rfl
  · rfl
theorem iaddr_slt (z : Nat) (b : TN) (n : Nat) (cs : List AV) (i : Int) (K : AV → Prop) : oget (iaddrA z none (slt b n cs) i) K = ((0 ≤ i ∧ i < n) ∧ K (.vptr cs (i.toNat * z))) := by
  unfold slt; split
  · rename_i h; rw [h.2]; simp only [iaddrA, oget_none, eq_iff_iff, false_iff]; omega
  · exact oget_iaddr_slice z cs n (ow b.2) i K
theorem cells_slt (b : TN) (n : Nat) (cs : List AV) : (slt b n cs).cells = [slt b n cs] := by unfold slt; split <;> rfl
theorem one_slt (b : TN) (n : Nat) (cs : List AV) : (slt b n cs).one = true := by unfold slt; split <;> rfl
theorem strip_slt (b : TN) (n : Nat) (cs : List AV) : (slt b n cs).strip = slt b n cs := by
  unfold slt ow; split
  · rfl
  · split <;> rfl
theorem cellsOf_slt (st : St) (z : Nat) (b : TN) (n : Nat) (cs : List AV) (h : cs.length = n * z) : cellsOf st z (slt b n cs) = some cs := by
  unfold slt; split
  · rename_i h2
    have : cs = [] := List.eq_nil_of_length_eq_zero (by rw [h, h2.2, Nat.zero_mul])
    rw [this]; rfl
  · simp only [cellsOf]; rw [if_pos h]
theorem count_slt (b : TN) (n : Nat) (cs : List AV) : (slt b n cs).count = some n := by
  unfold slt; split
  · rename_i h; rw [h.2]; rfl
  · rfl
theorem al_slt (b : TN) (n : Nat) (cs : List AV) (h : alAll (fun _ => false) cs = true) : (slt b n cs).al (fun _ => false) = true := by
  unfold slt ow; split
  · rfl
  · split <;> simp [AV.al, Own.al, h]
attribute [go_sem] lenv_slt cells_slt one_slt strip_slt
attribute [go_sem ↓] iaddr_slt
structure Tok where
  k : Int
  t : List UInt8
  n : Int
  p : Int
  deriving Inhabited, DecidableEq
inductive Line where
  | mk (tn : TN) (toks : List Tok) (head : Bool) (kn : TN) (kids : List Line) (pos : Int)
def Line.tn : Line → TN | .mk b _ _ _ _ _ => b
def Line.toks : Line → List Tok | .mk _ t _ _ _ _ => t
def Line.head : Line → Bool | .mk _ _ h _ _ _ => h
def Line.kn : Line → TN | .mk _ _ _ b _ _ => b
def Line.kids : Line → List Line | .mk _ _ _ _ k _ => k
def Line.pos : Line → Int | .mk _ _ _ _ _ p => p
def encT (t : Tok) : List AV := [.int .i64 t.k, .str t.t, .int .i64 t.n, .int .i64 t.p]
def encTs : List Tok → List AV
  | [] => []
  | t :: ts => encT t ++ encTs ts
mutual
def encL : Line → List AV
  | .mk tn ts h kn k p => [slt tn ts.length (encTs ts), .bool h, slt kn k.length (encLs k), .int .i64 p]
def encLs : List Line → List AV
  | [] => []
  | l :: ls => encL l ++ encLs ls
end
theorem encL_eq (l : Line) : encL l = [slt l.tn l.toks.length (encTs l.toks), .bool l.head, slt l.kn l.kids.length (encLs l.kids), .int .i64 l.pos] := by
  cases l; simp only [encL, Line.tn, Line.toks, Line.head, Line.kn, Line.kids, Line.pos]
theorem encL_length (l : Line) : (encL l).length = 4 := by rw [encL_eq]; rfl
theorem encT_length (t : Tok) : (encT t).length = 4 := rfl
theorem sub_encTs : ∀ (ts : List Tok) (i : Nat) (h : i < ts.length) (j n : Nat), j + n ≤ 4 → sub (encTs ts) (i * 4 + j) n = sub (encT ts[i]) j n
  | t :: ts, 0, h, j, n, hj => by
    simp only [encTs, Nat.zero_mul, Nat.zero_add, List.getElem_cons_zero]
    exact sub_append_left (by rw [encT_length]; exact hj)
  | t :: ts, i + 1, h, j, n, hj => by
    simp only [encTs, List.getElem_cons_succ]
    rw [show (i + 1) * 4 + j = (encT t).length + (i * 4 + j) by rw [encT_length]; omega, sub_append_right]
    exact sub_encTs ts i (by simpa using h) j n hj
theorem sub_encLs : ∀ (ls : List Line) (i : Nat) (h : i < ls.length) (j n : Nat), j + n ≤ 4 → sub (encLs ls) (i * 4 + j) n = sub (encL ls[i]) j n
  | l :: ls, 0, h, j, n, hj => by
    simp only [encLs, Nat.zero_mul, Nat.zero_add, List.getElem_cons_zero]
    exact sub_append_left (by rw [encL_length]; exact hj)
  | l :: ls, i + 1, h, j, n, hj => by
    simp only [encLs, List.getElem_cons_succ]
    rw [show (i + 1) * 4 + j = (encL l).length + (i * 4 + j) by rw [encL_length]; omega, sub_append_right]
    exact sub_encLs ls i (by simpa using h) j n hj
theorem encTs_length : ∀ ts : List Tok, (encTs ts).length = ts.length * 4
  | [] => by simp [encTs]
  | t :: ts => by simp [encTs, encT_length, encTs_length ts]; omega
theorem encLs_length : ∀ ls : List Line, (encLs ls).length = ls.length * 4
  | [] => by simp [encLs]
  | l :: ls => by simp [encLs, encL_length, encLs_length ls]; omega
theorem encTs_append : ∀ a b : List Tok, encTs (a ++ b) = encTs a ++ encTs b
  | [], b => rfl
  | t :: a, b => by simp only [List.cons_append, encTs, encTs_append a b, List.append_assoc]
theorem encLs_append : ∀ a b : List Line, encLs (a ++ b) = encLs a ++ encLs b
  | [], b => rfl
  | t :: a, b => by simp only [List.cons_append, encLs, encLs_append a b, List.append_assoc]
theorem encTs_al : ∀ ts : List Tok, alAll (fun _ => false) (encTs ts) = true
  | [] => rfl
  | t :: ts => by simp [encTs, encT, alAll, AV.al, encTs_al ts]
theorem encTs_one : ∀ ts : List Tok, (encTs ts).all AV.one = true
  | [] => rfl
  | t :: ts => by simp [encTs, encT, AV.one, encTs_one ts]
theorem encTs_strip : ∀ ts : List Tok, (encTs ts).map AV.strip = encTs ts
  | [] => rfl
  | t :: ts => by simp [encTs, encT, AV.strip, encTs_strip ts]
section
variable {ts : List Tok} {i : Nat} (h : i < ts.length)
include h
theorem sub_tok : sub (encTs ts) (i * 4) 4 = some [.int .i64 ts[i].k, .str ts[i].t, .int .i64 ts[i].n, .int .i64 ts[i].p] := by
  have := sub_encTs ts i h 0 4 (by omega)
  rw [Nat.add_zero] at this
  rw [this]; rfl
theorem sub_tk : sub (encTs ts) (i * 4) 1 = some [.int .i64 ts[i].k] := by
  have := sub_encTs ts i h 0 1 (by omega)
  rw [Nat.add_zero] at this
  rw [this]; rfl
theorem sub_tt : sub (encTs ts) (i * 4 + 1) 1 = some [.str ts[i].t] := by rw [sub_encTs ts i h 1 1 (by omega)]; rfl
theorem sub_tnn : sub (encTs ts) (i * 4 + 2) 1 = some [.int .i64 ts[i].n] := by rw [sub_encTs ts i h 2 1 (by omega)]; rfl
theorem sub_tp : sub (encTs ts) (i * 4 + 3) 1 = some [.int .i64 ts[i].p] := by rw [sub_encTs ts i h 3 1 (by omega)]; rfl
end
section
variable {ls : List Line} {i : Nat} (h : i < ls.length)
include h
theorem sub_line : sub (encLs ls) (i * 4) 4 = some [slt ls[i].tn ls[i].toks.length (encTs ls[i].toks), .bool ls[i].head, slt ls[i].kn ls[i].kids.length (encLs ls[i].kids), .int .i64 ls[i].pos] := by
  have := sub_encLs ls i h 0 4 (by omega)
  rw [Nat.add_zero] at this
  rw [this, encL_eq]; rfl
theorem sub_ltoks : sub (encLs ls) (i * 4) 1 = some [slt ls[i].tn ls[i].toks.length (encTs ls[i].toks)] := by
  have := sub_encLs ls i h 0 1 (by omega)
  rw [Nat.add_zero] at this
  rw [this, encL_eq]; rfl
theorem sub_lhead : sub (encLs ls) (i * 4 + 1) 1 = some [.bool ls[i].head] := by rw [sub_encLs ls i h 1 1 (by omega), encL_eq]; rfl
theorem sub_lkids : sub (encLs ls) (i * 4 + 2) 1 = some [slt ls[i].kn ls[i].kids.length (encLs ls[i].kids)] := by rw [sub_encLs ls i h 2 1 (by omega), encL_eq]; rfl
theorem sub_lpos : sub (encLs ls) (i * 4 + 3) 1 = some [.int .i64 ls[i].pos] := by rw [sub_encLs ls i h 3 1 (by omega), encL_eq]; rfl
end
/-- A tree of lines can be taken kid by kid. -/
theorem lines_ind {P : List Line → Prop} (h : ∀ ls, (∀ l ∈ ls, P l.kids) → P ls) : ∀ ls, P ls := by
  have key : ∀ n ls, SizeOf.sizeOf ls < n → P ls := by
    intro n
    induction n with
    | zero => intro ls h; omega
    | succ n ih =>
      intro ls hn
      refine h ls fun l hl => ih l.kids ?_
      have h1 := List.sizeOf_lt_of_mem hl
      cases l with
      | mk tn ts hd kn k p =>
        simp only [Line.kids]
        have : SizeOf.sizeOf (Line.mk tn ts hd kn k p) = 1 + SizeOf.sizeOf tn + SizeOf.sizeOf ts + SizeOf.sizeOf hd + SizeOf.sizeOf kn + SizeOf.sizeOf k + SizeOf.sizeOf p := Line.mk.sizeOf_spec tn ts hd kn k p
        omega
  exact fun ls => key (SizeOf.sizeOf ls + 1) ls (Nat.lt_succ_self _)
theorem encLs_al : ∀ ls : List Line, alAll (fun _ => false) (encLs ls) = true := by
  refine lines_ind fun ls ih => ?_
  induction ls with
  | nil => rfl
  | cons l ls ih2 =>
    have h1 := ih l (by simp)
    have h2 := ih2 fun x hx => ih x (by simp [hx])
    simp only [encLs, encL_eq, List.cons_append, List.nil_append, alAll, h2, AV.al, al_slt _ _ _ h1, al_slt _ _ _ (encTs_al _), Bool.and_self]
theorem encLs_one : ∀ ls : List Line, (encLs ls).all AV.one = true
  | [] => rfl
  | l :: ls => by simp only [encLs, encL_eq, List.cons_append, List.nil_append, List.all_cons, one_slt, encLs_one ls, one_bool, one_int, Bool.and_self]
theorem encLs_strip : ∀ ls : List Line, (encLs ls).map AV.strip = encLs ls
  | [] => rfl
  | l :: ls => by simp only [encLs, encL_eq, List.cons_append, List.nil_append, List.map_cons, strip_slt, encLs_strip ls, strip_bool, strip_int]
/- typed arguments are lines -/
theorem flatten_encTs (es : List (List AV)) (h : ∀ x ∈ es, ∃ f : Tok, x = encT f) : ∃ fs : List Tok, es.flatten = encTs fs ∧ es.length = fs.length := by
  induction es with
  | nil => exact ⟨[], rfl, rfl⟩
  | cons e es ih =>
    obtain ⟨f, rfl⟩ := h e (by simp)
    obtain ⟨fs, h1, h2⟩ := ih fun x hx => h x (by simp [hx])
    exact ⟨f :: fs, by simp [encTs, h1], by simp [h2]⟩
theorem flatten_encLs (es : List (List AV)) (h : ∀ x ∈ es, ∃ f : Line, x = encL f) : ∃ fs : List Line, es.flatten = encLs fs ∧ es.length = fs.length := by
  induction es with
  | nil => exact ⟨[], rfl, rfl⟩
  | cons e es ih =>
    obtain ⟨f, rfl⟩ := h e (by simp)
    obtain ⟨fs, h1, h2⟩ := ih fun x hx => h x (by simp [hx])
    exact ⟨f :: fs, by simp [encLs, h1], by simp [h2]⟩
theorem Ty_tok {f : Nat} {us : List AV} (h : Ty Tryd.prog f 63 us) : ∃ t : Tok, us = encT t := by
  obtain ⟨f0, hf⟩ := Ty_struct Tryd.underlying63 h
  obtain ⟨p1, q1, e1, h5, _, p2, q2, rfl, h6, _, p3, q3, rfl, h7, _, p4, q4, rfl, h8, _, rfl⟩ := hf
  rw [e1]
  obtain ⟨k, rfl, _⟩ := Ty_int Tryd.underlying3 h5
  obtain ⟨t, rfl, _⟩ := Ty_string Tryd.underlying9 h6
  obtain ⟨n, rfl, _⟩ := Ty_int Tryd.underlying2 h7
  obtain ⟨m, rfl, _⟩ := Ty_int Tryd.underlying3 h8
  exact ⟨⟨k, t, n, m⟩, rfl⟩
theorem Ty_toks {f : Nat} {us : List AV} (h : Ty Tryd.prog f 44 us) : ∃ (b : Bool) (ts : List Tok), us = [slt (b, false) ts.length (encTs ts)] := by
  rcases Ty_slice Tryd.underlying44 h with rfl | ⟨f', _, es, h1, _, rfl⟩
  · exact ⟨true, [], rfl⟩
  · obtain ⟨ts, h2, h3⟩ := flatten_encTs es fun x hx => Ty_tok (h1 x hx).1
    exact ⟨false, ts, by simp [slt, ow, h2, h3]⟩
theorem Ty_line : ∀ (f : Nat) (us : List AV), Ty Tryd.prog f 50 us → ∃ l : Line, us = encL l := by
  intro f
  induction f using Nat.strongRecOn with
  | ind f ih =>
    intro us h
    obtain ⟨f0, hf0, hf⟩ := Ty_struct' Tryd.underlying50 h
    obtain ⟨p1, q1, e1, h5, _, p2, q2, rfl, h6, _, p3, q3, rfl, h7, _, p4, q4, rfl, h8, _, rfl⟩ := hf
    rw [e1]
    obtain ⟨b, ts, rfl⟩ := Ty_toks h5
    obtain ⟨hd, rfl⟩ := Ty_bool Tryd.underlying4 h6
    obtain ⟨m, rfl, _⟩ := Ty_int Tryd.underlying3 h8
    rcases Ty_slice Tryd.underlying22 h7 with rfl | ⟨f', hf', es, h10, _, rfl⟩
    · exact ⟨.mk (b, false) ts hd (true, false) [] m, rfl⟩
    · obtain ⟨ls, h11, h12⟩ := flatten_encLs es fun x hx => ih f' (by omega) x (h10 x hx).1
      exact ⟨.mk (b, false) ts hd (false, false) ls m, by simp [encL, slt_no, h11, h12]⟩
theorem TyArg_lines {a : AV} (h : TyArg Tryd.prog 22 a) : ∃ (b : Bool) (ls : List Line), a = slt (b, false) ls.length (encLs ls) := by
  rcases TyArg_slice Tryd.underlying22 h with rfl | ⟨f, es, h1, _, rfl⟩
  · exact ⟨true, [], rfl⟩
  · obtain ⟨ls, h2, h3⟩ := flatten_encLs es fun x hx => Ty_line f x (h1 x hx).1
    exact ⟨false, ls, by simp [slt, ow, h2, h3]⟩
end T08

/- Few lines; trees are compared. -/
namespace T08
open Go Fw Go.Proofs
set_option maxRecDepth 100000
set_option maxHeartbeats 4000000
set_option linter.unusedSimpArgs false
set_option linter.unusedVariables false
def longT (t : Tok) : Bool := decide (2000 < t.t.length)
def leftG (f : List Line → Int → Int) (z : Bool) : List Line → Int → Int
  | [], n => n
  | l :: ls, n => if n < 0 then n else if z then -1 else if 70 < l.toks.length then -1 else if l.toks.any longT then -1 else leftG f z ls (f l.kids (n - 1))
def leftD : Nat → List Line → Int → Int
  | 0 => leftG (fun _ _ => 0) true
  | d + 1 => leftG (leftD d) false
theorem leftG_le {f : List Line → Int → Int} {z : Bool} (hf : ∀ ls n, -1 ≤ n → -1 ≤ f ls n ∧ f ls n ≤ n) : ∀ (ls : List Line) (n : Int), -1 ≤ n → -1 ≤ leftG f z ls n ∧ leftG f z ls n ≤ n
  | [], n, h => by simp [leftG, h]
  | l :: ls, n, h => by
    simp only [leftG]
    split
    · omega
    · split
      · omega
      · split
        · omega
        · split
          · omega
          · have h1 := hf l.kids (n - 1) (by omega)
            have h2 := leftG_le (z := z) hf ls (f l.kids (n - 1)) h1.1
            omega
theorem leftD_le : ∀ (d : Nat) (ls : List Line) (n : Int), -1 ≤ n → -1 ≤ leftD d ls n ∧ leftD d ls n ≤ n
  | 0, ls, n, h => by
    have : leftD 0 ls n = n ∨ leftD 0 ls n = -1 := by
      cases ls with
      | nil => exact .inl rfl
      | cons l ls => simp only [leftD, leftG]; split <;> simp
    rcases this with h1 | h1 <;> rw [h1] <;> omega
  | d + 1, ls, n, h => leftG_le (leftD_le d) ls n h
theorem l22t (b : TN) (ls : List Line) (i : Nat) (hi : i < ls.length) (m : Int) (dd : Int) (st : St) (Q : Sig → FE → St → Prop) : ∀ (n k : Nat) (e : FE), k + n = ls[i].toks.length → ls[i].toks.length ≤ 70 → e 0 = slt b ls.length (encLs ls) → e 1 = .int .i64 m → e 2 = .int .i64 dd → e 7 = .int .i64 (i : Int) → e 8 = .int .i64 (k : Int) →
    ((ls[i].toks.drop k).any longT = false → ∀ e', e' 0 = slt b ls.length (encLs ls) → e' 1 = .int .i64 m → e' 2 = .int .i64 dd → e' 7 = .int .i64 (i : Int) → Q (.exit 2) e' st) →
    ((ls[i].toks.drop k).any longT = true → ∀ e', e' 6 = .int .i64 (-1) → Q .ret e' st) → WLoop cx ir22L0 e st Q
  | 0, k, e, hk, hl, h0, h1, h2, h7, h8, hA, hB => by
    refine WLoop.rnd (c := _) ir22L0.eq_1 ?_
    have hd : decide ((k : Int) < (ls[i].toks.length : Int)) = false := decide_eq_false (by omega)
    have hin : (0 : Int) ≤ (i : Int) ∧ (i : Int) < (ls.length : Int) := by omega
    rw [List.drop_eq_nil_of_le (by omega)] at hA
    simp (config := {contextual := true, implicitDefEqProofs := false, maxSteps := 4000000}) only [go_sem, ↓reduceIte, Bool.false_eq_true, Nat.reduceEqDiff, Nat.reduceAdd, Int.reduceLE, Int.reduceLT, Int.reduceEq, Int.reduceToNat, Int.toNat_natCast, Int.cast_ofNat_Int, Int.natCast_one, Nat.reduceMod, Nat.reduceDiv, UInt8.reduceToNat, Nat.reduceLT, h0, h7, h8, hin, sub_ltoks hi, hd]
    exact hA rfl _ h0 h1 h2 h7
  | n + 1, k, e, hk, hl, h0, h1, h2, h7, h8, hA, hB => by
    refine WLoop.rnd (c := _) ir22L0.eq_1 ?_
    have hd : decide ((k : Int) < (ls[i].toks.length : Int)) = true := decide_eq_true (by omega)
    have hin : (0 : Int) ≤ (i : Int) ∧ (i : Int) < (ls.length : Int) := by omega
    have hkn : (0 : Int) ≤ (k : Int) ∧ (k : Int) < (ls[i].toks.length : Int) := by omega
    have hlt : k < ls[i].toks.length := by omega
    have hw := wrap_one (i := k) (by omega)
    rw [List.drop_eq_getElem_cons hlt] at hA hB
    simp only [List.any_cons] at hA hB
    by_cases hx : 2000 < (ls[i].toks[k].t).length
    · have d1 : decide ((2000 : Int) < ((ls[i].toks[k].t).length : Int)) = true := decide_eq_true (by omega)
      have d2 : longT ls[i].toks[k] = true := by unfold longT; exact decide_eq_true hx
      rw [d2, Bool.true_or] at hB
      simp (config := {contextual := true, implicitDefEqProofs := false, maxSteps := 4000000}) only [go_sem, ↓reduceIte, Bool.false_eq_true, Nat.reduceEqDiff, Nat.reduceAdd, Int.reduceLE, Int.reduceLT, Int.reduceEq, Int.reduceToNat, Int.toNat_natCast, Int.cast_ofNat_Int, Int.natCast_one, Nat.reduceMod, Nat.reduceDiv, UInt8.reduceToNat, Nat.reduceLT, h0, h7, h8, hin, hkn, sub_ltoks hi, hd, sub_tt hlt, d1]
      exact hB rfl _ rfl
    · have d1 : decide ((2000 : Int) < ((ls[i].toks[k].t).length : Int)) = false := decide_eq_false (by omega)
      have d2 : longT ls[i].toks[k] = false := by unfold longT; exact decide_eq_false hx
      rw [d2, Bool.false_or] at hA hB
      simp (config := {contextual := true, implicitDefEqProofs := false, maxSteps := 4000000}) only [go_sem, ↓reduceIte, Bool.false_eq_true, Nat.reduceEqDiff, Nat.reduceAdd, Int.reduceLE, Int.reduceLT, Int.reduceEq, Int.reduceToNat, Int.toNat_natCast, Int.cast_ofNat_Int, Int.natCast_one, Nat.reduceMod, Nat.reduceDiv, UInt8.reduceToNat, Nat.reduceLT, h0, h7, h8, hin, hkn, sub_ltoks hi, hd, sub_tt hlt, d1, hw]
      exact l22t b ls i hi m dd st Q n (k + 1) _ (by omega) hl h0 h1 h2 h7 rfl hA hB
theorem l22 (b : TN) (ls : List Line) (d : Nat) (hd0 : d ≤ 1000) (f : List Line → Int → Int) (hf : ∀ ls n, -1 ≤ n → -1 ≤ f ls n ∧ f ls n ≤ n)
    (hc : d ≠ 0 → ∀ l ∈ ls, ∀ (n : Int) (s : St) (K : AV → St → Prop), -1 ≤ n → n ≤ 1000 → CallW cx 22 [slt l.kn l.kids.length (encLs l.kids), .int .i64 n, .int .i64 ((d : Int) - 1)] s K = K (.int .i64 (f l.kids n)) s) (st : St) (Q : Sig → FE → St → Prop) :
    ∀ (n i : Nat) (m : Int) (e : FE), i + n = ls.length → -1 ≤ m → (i : Int) + m ≤ 1000 → e 0 = slt b ls.length (encLs ls) → e 1 = .int .i64 m → e 2 = .int .i64 (d : Int) → e 7 = .int .i64 (i : Int) →
    (∀ e' (r : Int), r = leftG f (decide (d = 0)) (ls.drop i) m → e' 1 = .int .i64 r → Q (.exit 0) e' st) → (leftG f (decide (d = 0)) (ls.drop i) m = -1 → ∀ e', e' 6 = .int .i64 (-1) → Q .ret e' st) → WLoop cx ir22L1 e st Q
  | 0, i, m, e, hi, hm, hm2, h0, h1, h2, h7, hA, hB => by
    refine WLoop.rnd (c := _) ir22L1.eq_1 ?_
    have d1 : decide ((i : Int) < (ls.length : Int)) = false := decide_eq_false (by omega)
    rw [List.drop_eq_nil_of_le (by omega)] at hA
    simp (config := {contextual := true, implicitDefEqProofs := false, maxSteps := 4000000}) only [go_sem, ↓reduceIte, Bool.false_eq_true, Nat.reduceEqDiff, Nat.reduceAdd, Int.reduceLE, Int.reduceLT, Int.reduceEq, Int.reduceToNat, Int.toNat_natCast, Int.cast_ofNat_Int, Int.natCast_one, Nat.reduceMod, Nat.reduceDiv, UInt8.reduceToNat, Nat.reduceLT, h0, h1, h7, d1]
    exact hA _ m rfl h1
  | n + 1, i, m, e, hi, hm, hm2, h0, h1, h2, h7, hA, hB => by
    refine WLoop.rnd (c := _) ir22L1.eq_1 ?_
    have d1 : decide ((i : Int) < (ls.length : Int)) = true := decide_eq_true (by omega)
    have hlt : i < ls.length := by omega
    have hin : (0 : Int) ≤ (i : Int) ∧ (i : Int) < (ls.length : Int) := by omega
    rw [List.drop_eq_getElem_cons hlt] at hA hB
    simp only [leftG] at hA hB
    by_cases hneg : m < 0
    · have d2 : decide ((0 : Int) ≤ m) = false := decide_eq_false (by omega)
      rw [if_pos hneg] at hA
      simp (config := {contextual := true, implicitDefEqProofs := false, maxSteps := 4000000}) only [go_sem, ↓reduceIte, Bool.false_eq_true, Nat.reduceEqDiff, Nat.reduceAdd, Int.reduceLE, Int.reduceLT, Int.reduceEq, Int.reduceToNat, Int.toNat_natCast, Int.cast_ofNat_Int, Int.natCast_one, Nat.reduceMod, Nat.reduceDiv, UInt8.reduceToNat, Nat.reduceLT, h0, h1, h7, d1, d2]
      exact hA _ m rfl h1
    have d2 : decide ((0 : Int) ≤ m) = true := decide_eq_true (by omega)
    have hw := wrap_one (i := i) (by omega)
    rw [if_neg hneg] at hA hB
    by_cases hz : d = 0
    · have d3 : decide ((d : Int) = 0) = true := decide_eq_true (by omega)
      rw [if_pos (by simpa using hz)] at hB
      simp (config := {contextual := true, implicitDefEqProofs := false, maxSteps := 4000000}) only [go_sem, ↓reduceIte, Bool.false_eq_true, Nat.reduceEqDiff, Nat.reduceAdd, Int.reduceLE, Int.reduceLT, Int.reduceEq, Int.reduceToNat, Int.toNat_natCast, Int.cast_ofNat_Int, Int.natCast_one, Nat.reduceMod, Nat.reduceDiv, UInt8.reduceToNat, Nat.reduceLT, h0, h1, h2, h7, d1, d2, d3]
      exact hB rfl _ rfl
    have d3 : decide ((d : Int) = 0) = false := decide_eq_false (by omega)
    rw [if_neg (by simpa using hz)] at hA hB
    by_cases h70 : 70 < ls[i].toks.length
    · have d4 : decide ((70 : Int) < (ls[i].toks.length : Int)) = true := decide_eq_true (by omega)
      rw [if_pos h70] at hB
      simp (config := {contextual := true, implicitDefEqProofs := false, maxSteps := 4000000}) only [go_sem, ↓reduceIte, Bool.false_eq_true, Nat.reduceEqDiff, Nat.reduceAdd, Int.reduceLE, Int.reduceLT, Int.reduceEq, Int.reduceToNat, Int.toNat_natCast, Int.cast_ofNat_Int, Int.natCast_one, Nat.reduceMod, Nat.reduceDiv, UInt8.reduceToNat, Nat.reduceLT, h0, h1, h2, h7, d1, d2, d3, hin, sub_ltoks hlt, d4]
      exact hB rfl _ rfl
    have d4 : decide ((70 : Int) < (ls[i].toks.length : Int)) = false := decide_eq_false (by omega)
    rw [if_neg h70] at hA hB
    simp (config := {contextual := true, implicitDefEqProofs := false, maxSteps := 4000000}) only [go_sem, ↓reduceIte, Bool.false_eq_true, Nat.reduceEqDiff, Nat.reduceAdd, Int.reduceLE, Int.reduceLT, Int.reduceEq, Int.reduceToNat, Int.toNat_natCast, Int.cast_ofNat_Int, Int.natCast_one, Nat.reduceMod, Nat.reduceDiv, UInt8.reduceToNat, Nat.reduceLT, h0, h1, h2, h7, d1, d2, d3, hin, sub_ltoks hlt, d4]
    refine l22t b ls i hlt m d st _ ls[i].toks.length 0 _ (by omega) (by omega) h0 h1 h2 h7 rfl ?_ ?_
    · intro hany e' h0' h1' h2' h7'
      rw [List.drop_zero] at hany
      rw [hany, if_neg (by decide)] at hA hB
      have hw2 : IntKind.i64.wrap (m - 1) = m - 1 := wrap_i64 (by omega) (by omega)
      have hw3 : IntKind.i64.wrap ((d : Int) - 1) = (d : Int) - 1 := wrap_i64 (by omega) (by omega)
      have k := fun st K => hc hz ls[i] (List.getElem_mem hlt) (m - 1) st K (by omega) (by omega)
      have hle := hf ls[i].kids (m - 1) (by omega)
      simp (config := {contextual := true, implicitDefEqProofs := false, maxSteps := 4000000}) only [go_sem, ↓reduceIte, Bool.false_eq_true, Nat.reduceEqDiff, Nat.reduceAdd, Int.reduceLE, Int.reduceLT, Int.reduceEq, Int.reduceToNat, Int.toNat_natCast, Int.cast_ofNat_Int, Int.natCast_one, Nat.reduceMod, Nat.reduceDiv, UInt8.reduceToNat, Nat.reduceLT, h0', h1', h2', h7', hin, sub_lkids hlt, hw2, hw3, k, hw]
      exact l22 b ls d hd0 f hf hc st Q n (i + 1) (f ls[i].kids (m - 1)) _ (by omega) hle.1 (by omega) h0' rfl h2' rfl hA hB
    · intro hany e' h6'
      rw [List.drop_zero] at hany
      rw [hany, if_pos rfl] at hB
      simp (config := {contextual := true, implicitDefEqProofs := false, maxSteps := 4000000}) only [go_sem, ↓reduceIte, Bool.false_eq_true, Nat.reduceEqDiff, Nat.reduceAdd, Int.reduceLE, Int.reduceLT, Int.reduceEq, Int.reduceToNat, Int.toNat_natCast, Int.cast_ofNat_Int, Int.natCast_one, Nat.reduceMod, Nat.reduceDiv, UInt8.reduceToNat, Nat.reduceLT, h6']
      exact hB rfl _ h6'
theorem c22 : ∀ (d : Nat) (b : TN) (ls : List Line) (n : Int) (s : St) (K : AV → St → Prop), d ≤ 1000 → -1 ≤ n → n ≤ 1000 → CallW cx 22 [slt b ls.length (encLs ls), .int .i64 n, .int .i64 (d : Int)] s K = K (.int .i64 (leftD d ls n)) s
  | 0, b, ls, n, s, K, hd, hn, hn2 => by
    refine CallW.eq (CallW.fn' (fn := ir22) rfl rfl (by kernel_rfl) ir22.eq_1 ?_) K
    simp (config := {contextual := true, implicitDefEqProofs := false, maxSteps := 4000000}) only [go_sem, ↓reduceIte, Bool.false_eq_true, Nat.reduceEqDiff, Nat.reduceAdd, Int.reduceLE, Int.reduceLT, Int.reduceEq, Int.reduceToNat, Int.toNat_natCast, Int.cast_ofNat_Int, Int.natCast_one, Nat.reduceMod, Nat.reduceDiv, UInt8.reduceToNat, Nat.reduceLT]
    refine l22 b ls 0 (by omega) (fun _ _ => -1) (fun ls n h => by omega) (fun h => absurd rfl h) _ _ ls.length 0 n _ (by omega) hn (by omega) rfl rfl rfl rfl ?_ ?_
    · intro e' r hr h1
      have : leftG (fun _ _ => -1) (decide (0 = 0)) (ls.drop 0) n = leftD 0 ls n := by
        rw [List.drop_zero]; cases ls with
        | nil => rfl
        | cons l ls => simp [leftD, leftG]
      rw [this] at hr; subst hr
      simp (config := {contextual := true, implicitDefEqProofs := false, maxSteps := 4000000}) only [go_sem, ↓reduceIte, Bool.false_eq_true, Nat.reduceEqDiff, Nat.reduceAdd, Int.reduceLE, Int.reduceLT, Int.reduceEq, Int.reduceToNat, Int.toNat_natCast, Int.cast_ofNat_Int, Int.natCast_one, Nat.reduceMod, Nat.reduceDiv, UInt8.reduceToNat, Nat.reduceLT, h1]
    · intro hr e' h6
      have : leftG (fun _ _ => -1) (decide (0 = 0)) (ls.drop 0) n = leftD 0 ls n := by
        rw [List.drop_zero]; cases ls with
        | nil => rfl
        | cons l ls => simp [leftD, leftG]
      rw [this] at hr; rw [hr]
      simp (config := {contextual := true, implicitDefEqProofs := false, maxSteps := 4000000}) only [go_sem, ↓reduceIte, Bool.false_eq_true, Nat.reduceEqDiff, Nat.reduceAdd, Int.reduceLE, Int.reduceLT, Int.reduceEq, Int.reduceToNat, Int.toNat_natCast, Int.cast_ofNat_Int, Int.natCast_one, Nat.reduceMod, Nat.reduceDiv, UInt8.reduceToNat, Nat.reduceLT, h6]
  | d + 1, b, ls, n, s, K, hd, hn, hn2 => by
    refine CallW.eq (CallW.fn' (fn := ir22) rfl rfl (by kernel_rfl) ir22.eq_1 ?_) K
    simp (config := {contextual := true, implicitDefEqProofs := false, maxSteps := 4000000}) only [go_sem, ↓reduceIte, Bool.false_eq_true, Nat.reduceEqDiff, Nat.reduceAdd, Int.reduceLE, Int.reduceLT, Int.reduceEq, Int.reduceToNat, Int.toNat_natCast, Int.cast_ofNat_Int, Int.natCast_one, Nat.reduceMod, Nat.reduceDiv, UInt8.reduceToNat, Nat.reduceLT]
    have hdd : ((d + 1 : Nat) : Int) - 1 = (d : Int) := by omega
    refine l22 b ls (d + 1) (by omega) (leftD d) (leftD_le d) (fun _ l _ n s K h h2 => by rw [hdd]; exact c22 d l.kn l.kids n s K (by omega) h h2) _ _ ls.length 0 n _ (by omega) hn (by omega) rfl rfl rfl rfl ?_ ?_
    · intro e' r hr h1
      rw [List.drop_zero, decide_eq_false (by omega)] at hr
      subst hr
      simp (config := {contextual := true, implicitDefEqProofs := false, maxSteps := 4000000}) only [go_sem, ↓reduceIte, Bool.false_eq_true, Nat.reduceEqDiff, Nat.reduceAdd, Int.reduceLE, Int.reduceLT, Int.reduceEq, Int.reduceToNat, Int.toNat_natCast, Int.cast_ofNat_Int, Int.natCast_one, Nat.reduceMod, Nat.reduceDiv, UInt8.reduceToNat, Nat.reduceLT, h1]
      rfl
    · intro hr e' h6
      rw [List.drop_zero, decide_eq_false (by omega)] at hr
      simp (config := {contextual := true, implicitDefEqProofs := false, maxSteps := 4000000}) only [go_sem, ↓reduceIte, Bool.false_eq_true, Nat.reduceEqDiff, Nat.reduceAdd, Int.reduceLE, Int.reduceLT, Int.reduceEq, Int.reduceToNat, Int.toNat_natCast, Int.cast_ofNat_Int, Int.natCast_one, Nat.reduceMod, Nat.reduceDiv, UInt8.reduceToNat, Nat.reduceLT, h6]
      exact congrArg (AV.int .i64) hr.symm
/-- Few lines, few tokens, short texts. -/
def small (ls : List Line) : Bool := decide (0 ≤ leftD 12 ls 60)
theorem c8 (b : TN) (ls : List Line) (s : St) (K : AV → St → Prop) : CallW cx 8 [slt b ls.length (encLs ls), .int .i64 60] s K = K (.bool (small ls)) s := by
  refine CallW.eq (CallW.fn' (fn := ir8) rfl rfl (by kernel_rfl) ir8.eq_1 ?_) K
  have k := fun st K => c22 12 b ls 60 st K (by decide) (by decide) (by decide)
  simp only [Int.cast_ofNat_Int] at k
  simp (config := {contextual := true, implicitDefEqProofs := false, maxSteps := 4000000}) only [go_sem, ↓reduceIte, Bool.false_eq_true, Nat.reduceEqDiff, Nat.reduceAdd, Int.reduceLE, Int.reduceLT, Int.reduceEq, Int.reduceToNat, Int.toNat_natCast, Int.cast_ofNat_Int, Int.natCast_one, Nat.reduceMod, Nat.reduceDiv, UInt8.reduceToNat, Nat.reduceLT, k, small]
/- how many lines -/
mutual
def cntL : Line → Nat
  | .mk _ _ _ _ k _ => 1 + cntLs k
def cntLs : List Line → Nat
  | [] => 0
  | l :: ls => cntL l + cntLs ls
end
theorem cntL_eq (l : Line) : cntL l = 1 + cntLs l.kids := by cases l; simp only [cntL, Line.kids]
mutual
def fewL : Line → Prop
  | .mk _ ts _ _ k _ => ts.length ≤ 70 ∧ (∀ t ∈ ts, t.t.length ≤ 2000) ∧ fewLs k
def fewLs : List Line → Prop
  | [] => True
  | l :: ls => fewL l ∧ fewLs ls
end
theorem fewL_eq (l : Line) : fewL l = (l.toks.length ≤ 70 ∧ (∀ t ∈ l.toks, t.t.length ≤ 2000) ∧ fewLs l.kids) := by cases l; simp only [fewL, Line.toks, Line.kids]
theorem leftG_few {f : List Line → Int → Int} {z : Bool} (hf0 : ∀ ls n, -1 ≤ n → -1 ≤ f ls n ∧ f ls n ≤ n) (hf : z = false → ∀ ls n, -1 ≤ n → 0 ≤ f ls n → fewLs ls ∧ f ls n + cntLs ls = n) : ∀ (ls : List Line) (n : Int), -1 ≤ n → 0 ≤ leftG f z ls n → fewLs ls ∧ leftG f z ls n + cntLs ls = n
  | [], n, hn, h => by simp [leftG, fewLs, cntLs]
  | l :: ls, n, hn, h => by
    simp only [leftG] at h ⊢
    by_cases h1 : n < 0
    · rw [if_pos h1] at h; omega
    rw [if_neg h1] at h ⊢
    cases z with
    | true => rw [if_pos rfl] at h; omega
    | false =>
      rw [if_neg (by decide)] at h ⊢
      by_cases h2 : 70 < l.toks.length
      · rw [if_pos h2] at h; omega
      rw [if_neg h2] at h ⊢
      by_cases h3 : l.toks.any longT = true
      · rw [if_pos h3] at h; omega
      rw [if_neg h3] at h ⊢
      have h4 := hf0 l.kids (n - 1) (by omega)
      have h5 := leftG_le (z := false) hf0 ls (f l.kids (n - 1)) h4.1
      obtain ⟨h6, h7⟩ := hf rfl l.kids (n - 1) (by omega) (by omega)
      obtain ⟨h8, h9⟩ := leftG_few hf0 hf ls (f l.kids (n - 1)) h4.1 h
      refine ⟨?_, ?_⟩
      · simp only [fewLs, fewL_eq]
        refine ⟨⟨by omega, fun t ht => ?_, h6⟩, h8⟩
        have h10 : l.toks.any longT = false := by simpa using h3
        have := List.any_eq_false.1 h10 t ht
        unfold longT at this
        simp at this; omega
      · simp only [cntLs, cntL_eq]; omega
theorem leftD_few : ∀ (d : Nat) (ls : List Line) (n : Int), -1 ≤ n → 0 ≤ leftD d ls n → fewLs ls ∧ leftD d ls n + cntLs ls = n
  | 0, ls, n, hn, h => by
    cases ls with
    | nil => exact ⟨trivial, by simp [leftD, leftG, cntLs]⟩
    | cons l ls =>
      have h2 : leftD 0 (l :: ls) n = if n < 0 then n else -1 := by simp only [leftD, leftG, if_true]
      rw [h2] at h
      split at h <;> omega
  | d + 1, ls, n, hn, h => leftG_few (leftD_le d) (fun _ => leftD_few d) ls n hn h
theorem small_few {ls : List Line} (h : small ls = true) : fewLs ls ∧ cntLs ls ≤ 60 := by
  unfold small at h
  have h := of_decide_eq_true h
  obtain ⟨h1, h2⟩ := leftD_few 12 ls 60 (by decide) h
  exact ⟨h1, by omega⟩
end T08

/- Trees are compared. -/
namespace T08
open Go Fw Go.Proofs
set_option maxRecDepth 100000
set_option maxHeartbeats 4000000
set_option linter.unusedSimpArgs false
set_option linter.unusedVariables false
def sameT (p : Bool) (a b : Tok) : Bool := decide (a.k = b.k) && (decide (a.t = b.t) && (decide (a.n = b.n) && (!p || decide (a.p = b.p))))
def sameTs (p : Bool) : List Tok → List Tok → Bool
  | [], [] => true
  | a :: us, b :: vs => sameT p a b && sameTs p us vs
  | _, _ => false
theorem sameTs_len {p : Bool} : ∀ {us vs : List Tok}, us.length ≠ vs.length → sameTs p us vs = false
  | [], [], h => absurd rfl h
  | [], b :: vs, _ => rfl
  | a :: us, [], _ => rfl
  | a :: us, b :: vs, h => by
    simp only [sameTs]
    rw [sameTs_len (us := us) (vs := vs) (by simpa using h), Bool.and_false]
theorem sameTs_refl (p : Bool) : ∀ us : List Tok, sameTs p us us = true
  | [] => rfl
  | a :: us => by simp [sameTs, sameT, sameTs_refl p us]
theorem l25 (b1 b2 : TN) (p : Bool) (us vs : List Tok) (hlen : us.length = vs.length) (hl : us.length ≤ 4611686018427387904) (L : Nat) (Q : Sig → FE → St → Prop) : ∀ (n i : Nat) (e : FE) (st : St), i + n = us.length → st.low = L → L ≤ st.next → e 0 = slt b1 us.length (encTs us) → e 1 = slt b2 us.length (encTs vs) → e 2 = .bool p → e 7 = .int .i64 (i : Int) →
    (sameTs p (us.drop i) (vs.drop i) = true → ∀ e' st', st'.low = L → Q (.exit 0) e' st') → (sameTs p (us.drop i) (vs.drop i) = false → ∀ e' st', st'.low = L → e' 6 = .bool false → Q .ret e' st') → WLoop cx ir25L0 e st Q
  | 0, i, e, st, hi, hL, hLn, h0, h1, h2, h7, hA, hB => by
    refine WLoop.rnd (c := _) ir25L0.eq_1 ?_
    have hd : decide ((i : Int) < (us.length : Int)) = false := decide_eq_false (by omega)
    rw [List.drop_eq_nil_of_le (by omega), List.drop_eq_nil_of_le (by omega)] at hA
    simp (config := {contextual := true, implicitDefEqProofs := false, maxSteps := 4000000}) only [go_sem, ↓reduceIte, Bool.false_eq_true, Nat.reduceEqDiff, Nat.reduceAdd, Int.reduceLE, Int.reduceLT, Int.reduceEq, Int.reduceToNat, Int.toNat_natCast, Int.cast_ofNat_Int, Int.natCast_one, Nat.reduceMod, Nat.reduceDiv, UInt8.reduceToNat, Nat.reduceLT, h0, h1, h2, h7, hd]
    exact hA rfl _ _ hL
  | n + 1, i, e, st, hi, hL, hLn, h0, h1, h2, h7, hA, hB => by
    refine WLoop.rnd (c := _) ir25L0.eq_1 ?_
    have hd : decide ((i : Int) < (us.length : Int)) = true := decide_eq_true (by omega)
    have hin : (0 : Int) ≤ (i : Int) ∧ (i : Int) < (us.length : Int) := by omega
    have hlt : i < us.length := by omega
    have hlt2 : i < vs.length := by omega
    have hw := wrap_one (i := i) (by omega)
    rw [List.drop_eq_getElem_cons hlt, List.drop_eq_getElem_cons hlt2] at hA hB
    simp only [sameTs] at hA hB
    have hmin : min st.low st.next = st.low := by omega
    have hmin2 : min st.low (st.next + 1) = st.low := by omega
    have ih := fun e st a b c d x1 x2 x3 => l25 b1 b2 p us vs hlen hl L Q n (i + 1) e st (by omega) a b c d x1 x2 x3
    have sA := sub_tok hlt
    have sB := sub_tok hlt2
    obtain ⟨a, ha⟩ : ∃ a, us[i] = a := ⟨_, rfl⟩
    obtain ⟨b, hb⟩ : ∃ a, vs[i] = a := ⟨_, rfl⟩
    rw [ha] at sA hA hB
    rw [hb] at sB hA hB
    have hin2 : (0 : Int) ≤ (i : Int) ∧ (i : Int) < (us.length : Int) := hin
    have hminL : min (min st.low st.next) (st.next + 1) = st.low := by omega
    by_cases k1 : a.k = b.k
    case neg =>
      have hx : sameT p a b = false := by unfold sameT; rw [decide_eq_false k1]; rfl
      rw [hx, Bool.false_and] at hB
      cases p
      · simp (config := {contextual := true, implicitDefEqProofs := false, maxSteps := 4000000}) only [go_sem, ↓reduceIte, Bool.false_eq_true, Nat.reduceEqDiff, Nat.reduceAdd, Int.reduceLE, Int.reduceLT, Int.reduceEq, Int.reduceToNat, Int.toNat_natCast, Int.cast_ofNat_Int, Int.natCast_one, Nat.reduceMod, Nat.reduceDiv, UInt8.reduceToNat, Nat.reduceLT, h0, h1, h2, h7, hd, hin, hin2, sA, sB, hw, hmin, hmin2, hminL, k1]
        exact hB rfl _ _ hL rfl
      · simp (config := {contextual := true, implicitDefEqProofs := false, maxSteps := 4000000}) only [go_sem, ↓reduceIte, Bool.false_eq_true, Nat.reduceEqDiff, Nat.reduceAdd, Int.reduceLE, Int.reduceLT, Int.reduceEq, Int.reduceToNat, Int.toNat_natCast, Int.cast_ofNat_Int, Int.natCast_one, Nat.reduceMod, Nat.reduceDiv, UInt8.reduceToNat, Nat.reduceLT, h0, h1, h2, h7, hd, hin, hin2, sA, sB, hw, hmin, hmin2, hminL, k1]
        exact hB rfl _ _ hL rfl
    by_cases k2 : a.t = b.t
    case neg =>
      have hx : sameT p a b = false := by unfold sameT; rw [decide_eq_false k2, Bool.false_and, Bool.and_false]
      rw [hx, Bool.false_and] at hB
      cases p
      · simp (config := {contextual := true, implicitDefEqProofs := false, maxSteps := 4000000}) only [go_sem, ↓reduceIte, Bool.false_eq_true, Nat.reduceEqDiff, Nat.reduceAdd, Int.reduceLE, Int.reduceLT, Int.reduceEq, Int.reduceToNat, Int.toNat_natCast, Int.cast_ofNat_Int, Int.natCast_one, Nat.reduceMod, Nat.reduceDiv, UInt8.reduceToNat, Nat.reduceLT, h0, h1, h2, h7, hd, hin, hin2, sA, sB, hw, hmin, hmin2, hminL, k1, k2]
        exact hB rfl _ _ hL rfl
      · simp (config := {contextual := true, implicitDefEqProofs := false, maxSteps := 4000000}) only [go_sem, ↓reduceIte, Bool.false_eq_true, Nat.reduceEqDiff, Nat.reduceAdd, Int.reduceLE, Int.reduceLT, Int.reduceEq, Int.reduceToNat, Int.toNat_natCast, Int.cast_ofNat_Int, Int.natCast_one, Nat.reduceMod, Nat.reduceDiv, UInt8.reduceToNat, Nat.reduceLT, h0, h1, h2, h7, hd, hin, hin2, sA, sB, hw, hmin, hmin2, hminL, k1, k2]
        exact hB rfl _ _ hL rfl
    by_cases k3 : a.n = b.n
    case neg =>
      have hx : sameT p a b = false := by unfold sameT; rw [decide_eq_false k3, Bool.false_and, Bool.and_false, Bool.and_false]
      rw [hx, Bool.false_and] at hB
      cases p
      · simp (config := {contextual := true, implicitDefEqProofs := false, maxSteps := 4000000}) only [go_sem, ↓reduceIte, Bool.false_eq_true, Nat.reduceEqDiff, Nat.reduceAdd, Int.reduceLE, Int.reduceLT, Int.reduceEq, Int.reduceToNat, Int.toNat_natCast, Int.cast_ofNat_Int, Int.natCast_one, Nat.reduceMod, Nat.reduceDiv, UInt8.reduceToNat, Nat.reduceLT, h0, h1, h2, h7, hd, hin, hin2, sA, sB, hw, hmin, hmin2, hminL, k1, k2, k3]
        exact hB rfl _ _ hL rfl
      · simp (config := {contextual := true, implicitDefEqProofs := false, maxSteps := 4000000}) only [go_sem, ↓reduceIte, Bool.false_eq_true, Nat.reduceEqDiff, Nat.reduceAdd, Int.reduceLE, Int.reduceLT, Int.reduceEq, Int.reduceToNat, Int.toNat_natCast, Int.cast_ofNat_Int, Int.natCast_one, Nat.reduceMod, Nat.reduceDiv, UInt8.reduceToNat, Nat.reduceLT, h0, h1, h2, h7, hd, hin, hin2, sA, sB, hw, hmin, hmin2, hminL, k1, k2, k3]
        exact hB rfl _ _ hL rfl
    cases p with
    | false =>
      have hx : sameT false a b = true := by unfold sameT; rw [decide_eq_true k1, decide_eq_true k2, decide_eq_true k3]; rfl
      rw [hx, Bool.true_and] at hA hB
      simp (config := {contextual := true, implicitDefEqProofs := false, maxSteps := 4000000}) only [go_sem, ↓reduceIte, Bool.false_eq_true, Nat.reduceEqDiff, Nat.reduceAdd, Int.reduceLE, Int.reduceLT, Int.reduceEq, Int.reduceToNat, Int.toNat_natCast, Int.cast_ofNat_Int, Int.natCast_one, Nat.reduceMod, Nat.reduceDiv, UInt8.reduceToNat, Nat.reduceLT, h0, h1, h2, h7, hd, hin, hin2, sA, sB, hw, hmin, hmin2, hminL, k1, k2, k3]
      exact ih _ _ hL (by simp only; omega) h0 h1 h2 rfl hA hB
    | true =>
      by_cases k4 : a.p = b.p
      case neg =>
        have hx : sameT true a b = false := by unfold sameT; rw [decide_eq_false k4]; simp
        rw [hx, Bool.false_and] at hB
        simp (config := {contextual := true, implicitDefEqProofs := false, maxSteps := 4000000}) only [go_sem, ↓reduceIte, Bool.false_eq_true, Nat.reduceEqDiff, Nat.reduceAdd, Int.reduceLE, Int.reduceLT, Int.reduceEq, Int.reduceToNat, Int.toNat_natCast, Int.cast_ofNat_Int, Int.natCast_one, Nat.reduceMod, Nat.reduceDiv, UInt8.reduceToNat, Nat.reduceLT, h0, h1, h2, h7, hd, hin, hin2, sA, sB, hw, hmin, hmin2, hminL, k1, k2, k3, k4]
        exact hB rfl _ _ hL rfl
      case pos =>
        have hx : sameT true a b = true := by unfold sameT; rw [decide_eq_true k1, decide_eq_true k2, decide_eq_true k3, decide_eq_true k4]; rfl
        rw [hx, Bool.true_and] at hA hB
        simp (config := {contextual := true, implicitDefEqProofs := false, maxSteps := 4000000}) only [go_sem, ↓reduceIte, Bool.false_eq_true, Nat.reduceEqDiff, Nat.reduceAdd, Int.reduceLE, Int.reduceLT, Int.reduceEq, Int.reduceToNat, Int.toNat_natCast, Int.cast_ofNat_Int, Int.natCast_one, Nat.reduceMod, Nat.reduceDiv, UInt8.reduceToNat, Nat.reduceLT, h0, h1, h2, h7, hd, hin, hin2, sA, sB, hw, hmin, hmin2, hminL, k1, k2, k3, k4]
        exact ih _ _ hL (by simp only; omega) h0 h1 h2 rfl hA hB
theorem c25 (b1 b2 : TN) (p : Bool) (us vs : List Tok) (hl : us.length ≤ 4611686018427387904) (s : St) (K : AV → St → Prop) : CallW cx 25 [slt b1 us.length (encTs us), slt b2 vs.length (encTs vs), .bool p] s K = K (.bool (sameTs p us vs)) s := by
  refine CallW.eq (CallW.fn' (fn := ir25) rfl rfl (by kernel_rfl) ir25.eq_1 ?_) K
  by_cases hlen : us.length = vs.length
  · have hx : decide ((us.length : Int) ≠ (vs.length : Int)) = false := decide_eq_false (by omega)
    have hz : (slt b2 vs.length (encTs vs)) = slt b2 us.length (encTs vs) := by rw [hlen]
    rw [hz] at *
    rw [hlen] at hx
    simp (config := {contextual := true, implicitDefEqProofs := false, maxSteps := 4000000}) only [go_sem, ↓reduceIte, Bool.false_eq_true, Nat.reduceEqDiff, Nat.reduceAdd, Int.reduceLE, Int.reduceLT, Int.reduceEq, Int.reduceToNat, Int.toNat_natCast, Int.cast_ofNat_Int, Int.natCast_one, Nat.reduceMod, Nat.reduceDiv, UInt8.reduceToNat, Nat.reduceLT, hx, hlen]
    rw [← hlen]
    refine l25 b1 b2 p us vs hlen hl s.next _ us.length 0 _ _ (by omega) rfl (by simp only; omega) rfl rfl rfl rfl ?_ ?_
    · intro h e' st' hL
      rw [List.drop_zero, List.drop_zero] at h
      simp (config := {contextual := true, implicitDefEqProofs := false, maxSteps := 4000000}) only [go_sem, ↓reduceIte, Bool.false_eq_true, Nat.reduceEqDiff, Nat.reduceAdd, Int.reduceLE, Int.reduceLT, Int.reduceEq, Int.reduceToNat, Int.toNat_natCast, Int.cast_ofNat_Int, Int.natCast_one, Nat.reduceMod, Nat.reduceDiv, UInt8.reduceToNat, Nat.reduceLT, h, hL]
    · intro h e' st' hL h6
      rw [List.drop_zero, List.drop_zero] at h
      simp (config := {contextual := true, implicitDefEqProofs := false, maxSteps := 4000000}) only [go_sem, ↓reduceIte, Bool.false_eq_true, Nat.reduceEqDiff, Nat.reduceAdd, Int.reduceLE, Int.reduceLT, Int.reduceEq, Int.reduceToNat, Int.toNat_natCast, Int.cast_ofNat_Int, Int.natCast_one, Nat.reduceMod, Nat.reduceDiv, UInt8.reduceToNat, Nat.reduceLT, h, hL, h6]
  · have hx : decide ((us.length : Int) ≠ (vs.length : Int)) = true := decide_eq_true (by omega)
    rw [sameTs_len hlen]
    simp (config := {contextual := true, implicitDefEqProofs := false, maxSteps := 4000000}) only [go_sem, ↓reduceIte, Bool.false_eq_true, Nat.reduceEqDiff, Nat.reduceAdd, Int.reduceLE, Int.reduceLT, Int.reduceEq, Int.reduceToNat, Int.toNat_natCast, Int.cast_ofNat_Int, Int.natCast_one, Nat.reduceMod, Nat.reduceDiv, UInt8.reduceToNat, Nat.reduceLT, hx]
/- lines -/
mutual
def sameL (p : Bool) : Line → Line → Bool
  | .mk _ ts h _ k pos, l => (h == l.head) && ((!p || decide (pos = l.pos)) && (sameTs p ts l.toks && sameLs p k l.kids))
def sameLs (p : Bool) : List Line → List Line → Bool
  | [], [] => true
  | a :: us, b :: vs => sameL p a b && sameLs p us vs
  | _, _ => false
end
theorem sameL_eq (p : Bool) (a b : Line) : sameL p a b = ((a.head == b.head) && ((!p || decide (a.pos = b.pos)) && (sameTs p a.toks b.toks && sameLs p a.kids b.kids))) := by
  cases a; cases b; simp only [sameL, Line.head, Line.pos, Line.toks, Line.kids]; rfl
theorem sameLs_len {p : Bool} : ∀ {us vs : List Line}, us.length ≠ vs.length → sameLs p us vs = false
  | [], [], h => absurd rfl h
  | [], b :: vs, _ => rfl
  | a :: us, [], _ => by simp only [sameLs]
  | a :: us, b :: vs, h => by
    simp only [sameLs]
    rw [sameLs_len (us := us) (vs := vs) (by simpa using h), Bool.and_false]
theorem l12 (b1 b2 : TN) (p : Bool) (us vs : List Line) (hlen : us.length = vs.length) (hl : us.length ≤ 4611686018427387904) (hf : fewLs us)
    (hc : ∀ l ∈ us, ∀ (b : Line) (s : St) (K : AV → St → Prop), CallW cx 12 [slt l.kn l.kids.length (encLs l.kids), slt b.kn b.kids.length (encLs b.kids), .bool p] s K = K (.bool (sameLs p l.kids b.kids)) s)
    (L : Nat) (Q : Sig → FE → St → Prop) : ∀ (n i : Nat) (e : FE) (st : St), i + n = us.length → fewLs (us.drop i) → st.low = L → L ≤ st.next → e 0 = slt b1 us.length (encLs us) → e 1 = slt b2 us.length (encLs vs) → e 2 = .bool p → e 7 = .int .i64 (i : Int) →
    (sameLs p (us.drop i) (vs.drop i) = true → ∀ e' st', st'.low = L → Q (.exit 0) e' st') → (sameLs p (us.drop i) (vs.drop i) = false → ∀ e' st', st'.low = L → e' 6 = .bool false → Q .ret e' st') → WLoop cx ir12L0 e st Q
  | 0, i, e, st, hi, hfi, hL, hLn, h0, h1, h2, h7, hA, hB => by
    refine WLoop.rnd (c := _) ir12L0.eq_1 ?_
    have hd : decide ((i : Int) < (us.length : Int)) = false := decide_eq_false (by omega)
    rw [List.drop_eq_nil_of_le (by omega), List.drop_eq_nil_of_le (by omega)] at hA
    simp (config := {contextual := true, implicitDefEqProofs := false, maxSteps := 4000000}) only [go_sem, ↓reduceIte, Bool.false_eq_true, Nat.reduceEqDiff, Nat.reduceAdd, Int.reduceLE, Int.reduceLT, Int.reduceEq, Int.reduceToNat, Int.toNat_natCast, Int.cast_ofNat_Int, Int.natCast_one, Nat.reduceMod, Nat.reduceDiv, UInt8.reduceToNat, Nat.reduceLT, h0, h1, h2, h7, hd]
    exact hA (by simp only [sameLs]) _ _ hL
  | n + 1, i, e, st, hi, hfi, hL, hLn, h0, h1, h2, h7, hA, hB => by
    refine WLoop.rnd (c := _) ir12L0.eq_1 ?_
    have hd : decide ((i : Int) < (us.length : Int)) = true := decide_eq_true (by omega)
    have hin : (0 : Int) ≤ (i : Int) ∧ (i : Int) < (us.length : Int) := by omega
    have hlt : i < us.length := by omega
    have hlt2 : i < vs.length := by omega
    have hw := wrap_one (i := i) (by omega)
    rw [List.drop_eq_getElem_cons hlt] at hfi
    rw [List.drop_eq_getElem_cons hlt, List.drop_eq_getElem_cons hlt2] at hA hB
    simp only [sameLs] at hA hB
    simp only [fewLs, fewL_eq] at hfi
    have sA0 := sub_ltoks hlt
    have sA1 := sub_lhead hlt
    have sA2 := sub_lkids hlt
    have sA3 := sub_lpos hlt
    have sB0 := sub_ltoks hlt2
    have sB1 := sub_lhead hlt2
    have sB2 := sub_lkids hlt2
    have sB3 := sub_lpos hlt2
    have kk := hc us[i] (List.getElem_mem hlt) vs[i]
    have kt := fun st K => c25 us[i].tn vs[i].tn p us[i].toks vs[i].toks (by omega) st K
    obtain ⟨a, ha⟩ : ∃ a, us[i] = a := ⟨_, rfl⟩
    obtain ⟨b, hb⟩ : ∃ a, vs[i] = a := ⟨_, rfl⟩
    rw [ha] at sA0 sA1 sA2 sA3 kk kt hA hB hfi
    rw [hb] at sB0 sB1 sB2 sB3 kk kt hA hB
    rw [sameL_eq] at hA hB
    have ih := fun e x0 x1 x2 x7 => l12 b1 b2 p us vs hlen hl hf hc L Q n (i + 1) e st (by omega) hfi.2 hL hLn x0 x1 x2 x7
    by_cases k1 : a.head = b.head
    case neg =>
      have hx : (a.head == b.head) = false := by simpa using k1
      rw [hx, Bool.false_and, Bool.false_and] at hB
      simp (config := {contextual := true, implicitDefEqProofs := false, maxSteps := 4000000}) only [go_sem, ↓reduceIte, Bool.false_eq_true, Nat.reduceEqDiff, Nat.reduceAdd, Int.reduceLE, Int.reduceLT, Int.reduceEq, Int.reduceToNat, Int.toNat_natCast, Int.cast_ofNat_Int, Int.natCast_one, Nat.reduceMod, Nat.reduceDiv, UInt8.reduceToNat, Nat.reduceLT, h0, h1, h2, h7, hd, hin, sA1, sB1, hx]
      exact hB rfl _ _ hL rfl
    have hx : (a.head == b.head) = true := by simpa using k1
    rw [hx, Bool.true_and] at hA hB
    cases hpp : (!p || decide (a.pos = b.pos)) with
    | false =>
      rw [hpp, Bool.false_and, Bool.false_and] at hB
      have hp1 : p = true := by cases p <;> simp at hpp ⊢
      subst hp1
      have k2 : ¬ a.pos = b.pos := by simpa using hpp
      have d2 : decide (a.pos ≠ b.pos) = true := decide_eq_true k2
      simp (config := {contextual := true, implicitDefEqProofs := false, maxSteps := 4000000}) only [go_sem, ↓reduceIte, Bool.false_eq_true, Nat.reduceEqDiff, Nat.reduceAdd, Int.reduceLE, Int.reduceLT, Int.reduceEq, Int.reduceToNat, Int.toNat_natCast, Int.cast_ofNat_Int, Int.natCast_one, Nat.reduceMod, Nat.reduceDiv, UInt8.reduceToNat, Nat.reduceLT, h0, h1, h2, h7, hd, hin, sA1, sB1, sA3, sB3, hx, d2]
      exact hB rfl _ _ hL rfl
    | true =>
      rw [hpp, Bool.true_and] at hA hB
      have d2 : p = true → decide (a.pos ≠ b.pos) = false := by
        intro hp1; subst hp1
        have k2 : a.pos = b.pos := by simpa using hpp
        exact decide_eq_false (fun h => h k2)
      cases ht : sameTs p a.toks b.toks with
      | false =>
        rw [ht, Bool.false_and, Bool.false_and] at hB
        cases p with
        | false =>
          simp (config := {contextual := true, implicitDefEqProofs := false, maxSteps := 4000000}) only [go_sem, ↓reduceIte, Bool.false_eq_true, Nat.reduceEqDiff, Nat.reduceAdd, Int.reduceLE, Int.reduceLT, Int.reduceEq, Int.reduceToNat, Int.toNat_natCast, Int.cast_ofNat_Int, Int.natCast_one, Nat.reduceMod, Nat.reduceDiv, UInt8.reduceToNat, Nat.reduceLT, h0, h1, h2, h7, hd, hin, sA0, sB0, sA1, sB1, sA3, sB3, hx, kt, ht]
          exact hB rfl _ _ hL rfl
        | true =>
          have d2 := d2 rfl
          simp (config := {contextual := true, implicitDefEqProofs := false, maxSteps := 4000000}) only [go_sem, ↓reduceIte, Bool.false_eq_true, Nat.reduceEqDiff, Nat.reduceAdd, Int.reduceLE, Int.reduceLT, Int.reduceEq, Int.reduceToNat, Int.toNat_natCast, Int.cast_ofNat_Int, Int.natCast_one, Nat.reduceMod, Nat.reduceDiv, UInt8.reduceToNat, Nat.reduceLT, h0, h1, h2, h7, hd, hin, sA0, sB0, sA1, sB1, sA3, sB3, hx, d2, kt, ht]
          exact hB rfl _ _ hL rfl
      | true =>
        rw [ht, Bool.true_and] at hA hB
        cases hs : sameLs p a.kids b.kids with
        | false =>
          rw [hs, Bool.false_and] at hB
          cases p with
          | false =>
            simp (config := {contextual := true, implicitDefEqProofs := false, maxSteps := 4000000}) only [go_sem, ↓reduceIte, Bool.false_eq_true, Nat.reduceEqDiff, Nat.reduceAdd, Int.reduceLE, Int.reduceLT, Int.reduceEq, Int.reduceToNat, Int.toNat_natCast, Int.cast_ofNat_Int, Int.natCast_one, Nat.reduceMod, Nat.reduceDiv, UInt8.reduceToNat, Nat.reduceLT, h0, h1, h2, h7, hd, hin, sA0, sB0, sA1, sB1, sA2, sB2, sA3, sB3, hx, kt, ht, kk, hs]
            exact hB rfl _ _ hL rfl
          | true =>
            have d2 := d2 rfl
            simp (config := {contextual := true, implicitDefEqProofs := false, maxSteps := 4000000}) only [go_sem, ↓reduceIte, Bool.false_eq_true, Nat.reduceEqDiff, Nat.reduceAdd, Int.reduceLE, Int.reduceLT, Int.reduceEq, Int.reduceToNat, Int.toNat_natCast, Int.cast_ofNat_Int, Int.natCast_one, Nat.reduceMod, Nat.reduceDiv, UInt8.reduceToNat, Nat.reduceLT, h0, h1, h2, h7, hd, hin, sA0, sB0, sA1, sB1, sA2, sB2, sA3, sB3, hx, d2, kt, ht, kk, hs]
            exact hB rfl _ _ hL rfl
        | true =>
          rw [hs, Bool.true_and] at hA hB
          cases p with
          | false =>
            simp (config := {contextual := true, implicitDefEqProofs := false, maxSteps := 4000000}) only [go_sem, ↓reduceIte, Bool.false_eq_true, Nat.reduceEqDiff, Nat.reduceAdd, Int.reduceLE, Int.reduceLT, Int.reduceEq, Int.reduceToNat, Int.toNat_natCast, Int.cast_ofNat_Int, Int.natCast_one, Nat.reduceMod, Nat.reduceDiv, UInt8.reduceToNat, Nat.reduceLT, h0, h1, h2, h7, hd, hin, sA0, sB0, sA1, sB1, sA2, sB2, sA3, sB3, hx, kt, ht, kk, hs, hw]
            exact ih _ h0 h1 h2 rfl hA hB
          | true =>
            have d2 := d2 rfl
            simp (config := {contextual := true, implicitDefEqProofs := false, maxSteps := 4000000}) only [go_sem, ↓reduceIte, Bool.false_eq_true, Nat.reduceEqDiff, Nat.reduceAdd, Int.reduceLE, Int.reduceLT, Int.reduceEq, Int.reduceToNat, Int.toNat_natCast, Int.cast_ofNat_Int, Int.natCast_one, Nat.reduceMod, Nat.reduceDiv, UInt8.reduceToNat, Nat.reduceLT, h0, h1, h2, h7, hd, hin, sA0, sB0, sA1, sB1, sA2, sB2, sA3, sB3, hx, d2, kt, ht, kk, hs, hw]
            exact ih _ h0 h1 h2 rfl hA hB
theorem len_cnt : ∀ ls : List Line, ls.length ≤ cntLs ls
  | [] => Nat.le_refl _
  | l :: ls => by simp only [cntLs, cntL_eq, List.length_cons]; have := len_cnt ls; omega
theorem few_mem {ls : List Line} (h : fewLs ls) : ∀ l ∈ ls, fewL l := by
  induction ls with
  | nil => intro l hl; cases hl
  | cons a ls ih =>
    simp only [fewLs] at h
    intro l hl
    rcases List.mem_cons.1 hl with rfl | hl
    · exact h.1
    · exact ih h.2 l hl
theorem cnt_mem {ls : List Line} : ∀ l ∈ ls, cntL l ≤ cntLs ls := by
  induction ls with
  | nil => intro l hl; cases hl
  | cons a ls ih =>
    intro l hl
    simp only [cntLs]
    rcases List.mem_cons.1 hl with rfl | hl
    · omega
    · have := ih l hl; omega
theorem c12 (p : Bool) : ∀ (us : List Line), fewLs us → cntLs us ≤ 4611686018427387904 → ∀ (b1 b2 : TN) (vs : List Line) (s : St) (K : AV → St → Prop), CallW cx 12 [slt b1 us.length (encLs us), slt b2 vs.length (encLs vs), .bool p] s K = K (.bool (sameLs p us vs)) s := by
  refine lines_ind fun us ih => ?_
  intro hf hcnt b1 b2 vs s K
  have hlc := len_cnt us
  refine CallW.eq (CallW.fn' (fn := ir12) rfl rfl (by kernel_rfl) ir12.eq_1 ?_) K
  by_cases hlen : us.length = vs.length
  · have hx : decide ((vs.length : Int) ≠ (vs.length : Int)) = false := by simp
    simp (config := {contextual := true, implicitDefEqProofs := false, maxSteps := 4000000}) only [go_sem, ↓reduceIte, Bool.false_eq_true, Nat.reduceEqDiff, Nat.reduceAdd, Int.reduceLE, Int.reduceLT, Int.reduceEq, Int.reduceToNat, Int.toNat_natCast, Int.cast_ofNat_Int, Int.natCast_one, Nat.reduceMod, Nat.reduceDiv, UInt8.reduceToNat, Nat.reduceLT, hx, hlen]
    rw [← hlen]
    refine l12 b1 b2 p us vs hlen (by omega) hf (fun l hl b s K => ih l hl (by have := few_mem hf l hl; rw [fewL_eq] at this; exact this.2.2) (by have := cnt_mem l hl; rw [cntL_eq] at this; omega) l.kn b.kn b.kids s K) s.next _ us.length 0 _ _ (by omega) (by rw [List.drop_zero]; exact hf) rfl (by simp only; omega) rfl rfl rfl rfl ?_ ?_
    · intro h e' st' hL
      rw [List.drop_zero, List.drop_zero] at h
      simp (config := {contextual := true, implicitDefEqProofs := false, maxSteps := 4000000}) only [go_sem, ↓reduceIte, Bool.false_eq_true, Nat.reduceEqDiff, Nat.reduceAdd, Int.reduceLE, Int.reduceLT, Int.reduceEq, Int.reduceToNat, Int.toNat_natCast, Int.cast_ofNat_Int, Int.natCast_one, Nat.reduceMod, Nat.reduceDiv, UInt8.reduceToNat, Nat.reduceLT, h, hL]
    · intro h e' st' hL h6
      rw [List.drop_zero, List.drop_zero] at h
      simp (config := {contextual := true, implicitDefEqProofs := false, maxSteps := 4000000}) only [go_sem, ↓reduceIte, Bool.false_eq_true, Nat.reduceEqDiff, Nat.reduceAdd, Int.reduceLE, Int.reduceLT, Int.reduceEq, Int.reduceToNat, Int.toNat_natCast, Int.cast_ofNat_Int, Int.natCast_one, Nat.reduceMod, Nat.reduceDiv, UInt8.reduceToNat, Nat.reduceLT, h, hL, h6]
  · have hx : decide ((us.length : Int) ≠ (vs.length : Int)) = true := decide_eq_true (by omega)
    rw [sameLs_len hlen]
    simp (config := {contextual := true, implicitDefEqProofs := false, maxSteps := 4000000}) only [go_sem, ↓reduceIte, Bool.false_eq_true, Nat.reduceEqDiff, Nat.reduceAdd, Int.reduceLE, Int.reduceLT, Int.reduceEq, Int.reduceToNat, Int.toNat_natCast, Int.cast_ofNat_Int, Int.natCast_one, Nat.reduceMod, Nat.reduceDiv, UInt8.reduceToNat, Nat.reduceLT, hx]
end T08
