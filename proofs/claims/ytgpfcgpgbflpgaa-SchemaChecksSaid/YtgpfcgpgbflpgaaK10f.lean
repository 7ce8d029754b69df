/- Forms as a tree, and how they lie in the machine's cells. -/
import Derived.Test.YtgpfcgpgbflpgaaK10s4
import Derived.Test.YtgpfcgpgbflpgaaFwG3
namespace T10
open Go Fw Go.Proofs
set_option maxRecDepth 100000
set_option linter.unusedSimpArgs false
set_option linter.unusedVariables false
inductive Form where
  | mk (word : List UInt8) (an : Bool) (args : List (List UInt8)) (kn : Bool) (kids : List Form) (least most : Int)
def Form.word : Form → List UInt8 | .mk w _ _ _ _ _ _ => w
def Form.an : Form → Bool | .mk _ b _ _ _ _ _ => b
def Form.args : Form → List (List UInt8) | .mk _ _ a _ _ _ _ => a
def Form.kn : Form → Bool | .mk _ _ _ b _ _ _ => b
def Form.kids : Form → List Form | .mk _ _ _ _ k _ _ => k
def Form.least : Form → Int | .mk _ _ _ _ _ l _ => l
def Form.most : Form → Int | .mk _ _ _ _ _ _ m => m
/-- A slice that came in: nil, or the cells. -/
def slv (b : Bool) (n : Nat) (cs : List AV) : AV := if b = true ∧ n = 0 then .nilslice else .slice cs n .no
mutual
def encF : Form → List AV
  | .mk w an a kn k l m => [.str w, slv an a.length (a.map AV.str), slv kn k.length (encFs k), .int .i64 l, .int .i64 m]
def encFs : List Form → List AV
  | [] => []
  | f :: fs => encF f ++ encFs fs
end
theorem encF_eq (f : Form) : encF f = [.str f.word, slv f.an f.args.length (f.args.map AV.str), slv f.kn f.kids.length (encFs f.kids), .int .i64 f.least, .int .i64 f.most] := by
  cases f; simp only [encF, Form.word, Form.an, Form.args, Form.kn, Form.kids, Form.least, Form.most]
theorem encF_length (f : Form) : (encF f).length = 5 := by rw [encF_eq]; rfl
theorem encFs_length : ∀ fs : List Form, (encFs fs).length = fs.length * 5
  | [] => by simp [encFs]
  | f :: fs => by simp [encFs, encF_length, encFs_length fs]; omega
theorem sub_append_left {us bs : List AV} {j n : Nat} (h : j + n ≤ us.length) : sub (us ++ bs) j n = sub us j n := by
  unfold sub
  rw [if_pos h, if_pos (by simp; omega)]
  congr 1
  rw [List.drop_append_of_le_length (by omega), List.take_append_of_le_length (by simp; omega)]
theorem sub_append_right {us bs : List AV} {j n : Nat} : sub (us ++ bs) (us.length + j) n = sub bs j n := by
  unfold sub
  simp only [List.length_append, List.drop_append, List.drop_eq_nil_of_le (Nat.le_add_right us.length j), Nat.add_sub_cancel_left, List.nil_append]
  by_cases h : j + n ≤ bs.length
  · rw [if_pos h, if_pos (by omega)]
  · rw [if_neg h, if_neg (by omega)]
theorem sub_encFs : ∀ (fs : List Form) (i : Nat) (h : i < fs.length) (j n : Nat), j + n ≤ 5 → sub (encFs fs) (i * 5 + j) n = sub (encF fs[i]) j n
  | f :: fs, 0, h, j, n, hj => by
    simp only [encFs, Nat.zero_mul, Nat.zero_add, List.getElem_cons_zero]
    exact sub_append_left (by rw [encF_length]; exact hj)
  | f :: fs, i + 1, h, j, n, hj => by
    simp only [encFs, List.getElem_cons_succ]
    rw [show (i + 1) * 5 + j = (encF f).length + (i * 5 + j) by rw [encF_length]; omega, sub_append_right]
    exact sub_encFs fs i (by simpa using h) j n hj
theorem lenv_slv (b : Bool) (n : Nat) (cs : List AV) : lenvA (slv b n cs) = some (.int .i64 n) := by
  unfold slv; split
  · rename_i h; rw [h.2]; rfl
  · rfl
theorem iaddr_slv (z : Nat) (b : Bool) (n : Nat) (cs : List AV) (i : Int) (K : AV → Prop) : oget (iaddrA z none (slv b n cs) i) K = ((0 ≤ i ∧ i < n) ∧ K (.vptr cs (i.toNat * z))) := by
  unfold slv; split
  · rename_i h; rw [h.2]; simp only [iaddrA, oget_none, eq_iff_iff, false_iff]; omega
  · exact oget_iaddr_slice z cs n .no i K
theorem cells_slv (b : Bool) (n : Nat) (cs : List AV) : (slv b n cs).cells = [slv b n cs] := by unfold slv; split <;> rfl
theorem one_slv (b : Bool) (n : Nat) (cs : List AV) : (slv b n cs).one = true := by unfold slv; split <;> rfl
theorem strip_slv (b : Bool) (n : Nat) (cs : List AV) : (slv b n cs).strip = slv b n cs := by unfold slv; split <;> rfl
attribute [go_sem] lenv_slv cells_slv one_slv strip_slv
attribute [go_sem ↓] iaddr_slv

/- typed arguments are forms -/
theorem flatten_map_str (es : List (List AV)) (h : ∀ x ∈ es, ∃ s : List UInt8, x = [.str s]) : ∃ ss : List (List UInt8), es.flatten = ss.map AV.str ∧ es.length = ss.length := by
  induction es with
  | nil => exact ⟨[], rfl, rfl⟩
  | cons e es ih =>
    obtain ⟨s, rfl⟩ := h e (by simp)
    obtain ⟨ss, h1, h2⟩ := ih fun x hx => h x (by simp [hx])
    exact ⟨s :: ss, by simp [h1], by simp [h2]⟩
theorem flatten_encFs (es : List (List AV)) (h : ∀ x ∈ es, ∃ f : Form, x = encF f) : ∃ fs : List Form, es.flatten = encFs fs ∧ es.length = fs.length := by
  induction es with
  | nil => exact ⟨[], rfl, rfl⟩
  | cons e es ih =>
    obtain ⟨f, rfl⟩ := h e (by simp)
    obtain ⟨fs, h1, h2⟩ := ih fun x hx => h x (by simp [hx])
    exact ⟨f :: fs, by simp [encFs, h1], by simp [h2]⟩
theorem Ty_strs {t : TypeId} (hu : Try.prog.underlying t = some (.slice 9)) {f : Nat} {us : List AV} (h : Ty Try.prog f t us) : ∃ (b : Bool) (ss : List (List UInt8)), us = [slv b ss.length (ss.map AV.str)] := by
  rcases Ty_slice hu h with rfl | ⟨f', _, es, h1, _, rfl⟩
  · exact ⟨true, [], rfl⟩
  · obtain ⟨ss, h2, h3⟩ := flatten_map_str es fun x hx => by
      obtain ⟨s, h4, _⟩ := Ty_string Try.underlying9 (h1 x hx).1
      exact ⟨s, h4⟩
    exact ⟨false, ss, by simp [slv, h2, h3]⟩
theorem Ty_form : ∀ (f : Nat) (us : List AV), Ty Try.prog f 55 us → ∃ F : Form, us = encF F := by
  intro f
  induction f using Nat.strongRecOn with
  | ind f ih =>
    intro us h
    obtain ⟨f0, hf0, hf⟩ := Ty_struct' Try.underlying55 h
    obtain ⟨p1, q1, e1, h5, _, p2, q2, rfl, h6, _, p3, q3, rfl, h7, _, p4, q4, rfl, h8, _, p5, q5, rfl, h9, _, rfl⟩ := hf
    rw [e1]
    obtain ⟨w, rfl, _⟩ := Ty_string Try.underlying9 h5
    obtain ⟨b, ss, rfl⟩ := Ty_strs Try.underlying53 h6
    obtain ⟨l, rfl, _⟩ := Ty_int Try.underlying3 h8
    obtain ⟨m, rfl, _⟩ := Ty_int Try.underlying3 h9
    rcases Ty_slice Try.underlying26 h7 with rfl | ⟨f', hf', es, h10, _, rfl⟩
    · exact ⟨.mk w b ss true [] l m, rfl⟩
    · obtain ⟨fs, h11, h12⟩ := flatten_encFs es fun x hx => ih f' (by omega) x (h10 x hx).1
      exact ⟨.mk w b ss false fs l m, by simp [encF, slv, h11, h12]⟩
theorem TyArg_forms {a : AV} (h : TyArg Try.prog 26 a) : ∃ (b : Bool) (fs : List Form), a = slv b fs.length (encFs fs) := by
  rcases TyArg_slice Try.underlying26 h with rfl | ⟨f, es, h1, _, rfl⟩
  · exact ⟨true, [], rfl⟩
  · obtain ⟨fs, h2, h3⟩ := flatten_encFs es fun x hx => Ty_form f x (h1 x hx).1
    exact ⟨false, fs, by simp [slv, h2, h3]⟩

/- states that have grown -/
/-- The state st has what h has below N, and room from N on; nothing below L was written. -/
structure Grew (N L : Nat) (h : List (Nat × AObj)) (st : St) : Prop where
  next : N ≤ st.next
  low : st.low = L
  old : ∀ i, i < N → look i st.heap = look i h
end T10
