/- Parts of the proof, one behind the other. -/
import Derived.Test.YtgpfcgpgbflpgaaK10xb
/- The example of forms. -/
namespace T10
open Go Fw Go.Proofs
set_option maxRecDepth 100000
set_option linter.unusedSimpArgs false
set_option linter.unusedVariables false
def exTs : List (List UInt8) → List Tok
  | [] => []
  | a :: l => if splitB a = true then exTs l else sampT (splitW a) :: exTs l
mutual
def exF : Form → List Line
  | .mk w an a kn k l m => List.replicate l.toNat (.mk (false, decide ((exTs a).length = 0)) (⟨1, w, 0, 0⟩ :: exTs a) (decide (0 < k.length)) true (exFs k) 0)
def exFs : List Form → List Line
  | [] => []
  | f :: fs => exF f ++ exFs fs
end
def exL (f : Form) : Line := .mk (false, decide ((exTs f.args).length = 0)) (⟨1, f.word, 0, 0⟩ :: exTs f.args) (decide (0 < f.kids.length)) true (exFs f.kids) 0
theorem exF_eq (f : Form) : exF f = List.replicate f.least.toNat (exL f) := by
  cases f; simp only [exF, exL, Form.least, Form.word, Form.args, Form.kids]; rfl
theorem encTs_append : ∀ (us vs : List Tok), encTs (us ++ vs) = encTs us ++ encTs vs
  | [], vs => rfl
  | u :: us, vs => by simp only [List.cons_append, encTs, encTs_append us vs, List.append_assoc]
theorem encTs_strip : ∀ ts : List Tok, (encTs ts).map AV.strip = encTs ts
  | [] => rfl
  | t :: ts => by simp only [encTs, List.map_append, encTs_strip ts]; rfl
theorem exTs_length : ∀ (l : List (List UInt8)), (exTs l).length ≤ l.length
  | [] => Nat.le_refl _
  | a :: l => by simp only [exTs]; split <;> simp only [List.length_cons] <;> have := exTs_length l <;> omega
/- appends -/
theorem appT_full (s : St) (us : List Tok) (t : Tok) (hu : us.length ≤ 1000) : appendA s 23 4 40 (.slice (encTs us) us.length .full) (.slice [.int .i64 t.k, .str t.t, .int .i64 t.n, .int .i64 t.p] 1 .full) =
    some (.slice (encTs (us ++ [t])) (us ++ [t]).length (.tok s.next (us ++ [t]).length), s.new (.tok 23 (us ++ [t]).length 4)) := by
  have hr : (us.length + 1) * 40 ≤ room := by unfold room; omega
  simp only [appendA, cellsOf, List.length_cons, List.length_nil, AV.count, encTs_length, encTs_append, List.length_append, if_true, List.all_cons, List.all_nil, AV.one, Bool.and_self, List.map_cons, List.map_nil, AV.strip, hr, Bool.true_eq_false, if_false, Nat.reduceAdd, Nat.reduceMul]
  rfl
theorem appT_tok (s : St) (us : List Tok) (t : Tok) (k : Nat) (hk : Fw.look k s.heap = some (.tok 23 us.length 4)) (hu : us.length ≤ 1000) : appendA s 23 4 40 (.slice (encTs us) us.length (.tok k us.length)) (.slice [.int .i64 t.k, .str t.t, .int .i64 t.n, .int .i64 t.p] 1 .full) =
    some (.slice (encTs (us ++ [t])) (us ++ [t]).length (.tok k (us ++ [t]).length), s.set k (.tok 23 (us ++ [t]).length 4)) := by
  have hr : (us.length + 1) * 40 ≤ room := by unfold room; omega
  simp only [appendA, cellsOf, List.length_cons, List.length_nil, AV.count, encTs_length, encTs_append, List.length_append, if_true, List.all_cons, List.all_nil, AV.one, Bool.and_self, List.map_cons, List.map_nil, AV.strip, hr, Bool.true_eq_false, if_false, Nat.reduceAdd, Nat.reduceMul, St.get, hk, and_self]
  rfl
theorem appL_nil (s : St) (l : Line) : appendA s 49 4 64 .nilslice (.slice [slt l.tn l.toks.length (encTs l.toks), .bool l.head, slv l.kn l.kids.length (encLs l.kids), .int .i64 l.pos] 1 .full) =
    some (.slice (encLs [l]) 1 (.tok s.next 1), s.new (.tok 49 1 4)) := by
  have hr : 1 * 64 ≤ room := by unfold room; omega
  simp only [appendA, cellsOf, List.length_cons, List.length_nil, AV.count, if_true, List.all_cons, List.all_nil, one_slt, one_slv, one_bool, one_int, Bool.and_self, List.map_cons, List.map_nil, strip_slt, strip_slv, strip_bool, strip_int, hr, Bool.true_eq_false, if_false, Nat.reduceAdd, Nat.reduceMul, encLs, encL_eq, List.append_nil]
  rfl
theorem appL_tok (s : St) (us : List Line) (l : Line) (k : Nat) (hk : Fw.look k s.heap = some (.tok 49 us.length 4)) (hu : us.length ≤ 5000) : appendA s 49 4 64 (.slice (encLs us) us.length (.tok k us.length)) (.slice [slt l.tn l.toks.length (encTs l.toks), .bool l.head, slv l.kn l.kids.length (encLs l.kids), .int .i64 l.pos] 1 .full) =
    some (.slice (encLs (us ++ [l])) (us ++ [l]).length (.tok k (us ++ [l]).length), s.set k (.tok 49 (us ++ [l]).length 4)) := by
  have hr : (us.length + 1) * 64 ≤ room := by unfold room; omega
  simp only [appendA, cellsOf, List.length_cons, List.length_nil, AV.count, encLs_length, encLs_append, List.length_append, if_true, List.all_cons, List.all_nil, one_slt, one_slv, one_bool, one_int, Bool.and_self, List.map_cons, List.map_nil, strip_slt, strip_slv, strip_bool, strip_int, hr, Bool.true_eq_false, if_false, Nat.reduceAdd, Nat.reduceMul, encLs, encL_eq, List.append_nil, St.get, hk, and_self]
  rfl
/- what a list of lines holds -/
theorem al_encTs (p : Nat → Bool) : ∀ ts : List Tok, alAll p (encTs ts) = true
  | [] => rfl
  | t :: ts => by simp only [encTs, encT, List.cons_append, List.nil_append, alAll, AV.al, al_encTs p ts, Bool.and_self]
theorem al_slv (p : Nat → Bool) (b : Bool) (n : Nat) (cs : List AV) (h : alAll p cs = true) : (slv b n cs).al p = true := by
  unfold slv; split
  · rfl
  · simp only [AV.al, Own.al, h, Bool.and_self]
theorem al_slt (p : Nat → Bool) (b : TN) (n : Nat) (cs : List AV) (h : alAll p cs = true) : (slt b n cs).al p = true := by
  unfold slt slo ow; split
  · rfl
  · split <;> simp only [AV.al, Own.al, h, Bool.and_self]
theorem al_append (p : Nat → Bool) : ∀ (us vs : List AV), alAll p (us ++ vs) = (alAll p us && alAll p vs)
  | [], vs => by simp [alAll]
  | u :: us, vs => by simp only [List.cons_append, alAll, al_append p us vs, Bool.and_assoc]
theorem al_encLs (p : Nat → Bool) : ∀ ls : List Line, alAll p (encLs ls) = true := by
  refine lines_ind fun ls ih => ?_
  have key : ∀ ms : List Line, (∀ l ∈ ms, alAll p (encLs l.kids) = true) → alAll p (encLs ms) = true := by
    intro ms
    induction ms with
    | nil => intro _; rfl
    | cons l ms ih2 =>
      intro h
      simp only [encLs, al_append, ih2 fun m hm => h m (by simp [hm]), encL_eq, alAll, AV.al, al_slt p _ _ _ (al_encTs p _), al_slv p _ _ _ (h l (by simp)), Bool.and_self]
  exact key ls ih
theorem LeaveW_out {s s' : St} {oo : Own} {n : Nat} {cs : List AV} (ho : n = 0 ∨ ∃ t e, oo = .tok t e ∧ s.next ≤ t) (h : ∀ p, alAll p cs = true) (hl : s.next ≤ s'.low) (K : AV → St → Prop) : LeaveW s s' (slo oo true n cs) K = K (slv true n cs) s := by
  by_cases hn : n = 0
  · have h1 : slo oo true n cs = .nilslice := by simp [slo, hn]
    have h2 : slv true n cs = .nilslice := by simp [slv, hn]
    rw [h1, h2]; exact LeaveW_flat rfl hl K
  · obtain ⟨t, e, rfl, ht⟩ : ∃ t e, oo = .tok t e ∧ s.next ≤ t := by rcases ho with h | h; exact absurd h hn; exact h
    have h1 : slo (.tok t e) true n cs = .slice cs n (.tok t e) := by simp [slo, hn]
    have h2 : slv true n cs = .slice cs n .no := by simp [slv, hn]
    have h3 : (AV.slice cs n (.tok t e)).drop2 s.next = .slice cs n .no := by simp only [AV.drop2, AV.drop1, AV.drop0]; rw [if_neg (by omega)]
    have h4 : (AV.slice cs n .no).al (below s.next) = true := by simp only [AV.al, Own.al, h, Bool.and_self]
    rw [h1, h2]
    simp only [LeaveW, leave, h3, hl, h4, and_self, if_true]
end T10
