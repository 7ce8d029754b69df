/- Parts of the proof, one behind the other. -/
import Derived.Test.YtgpfcgpgbflpgaaK10s
import Derived.Test.YtgpfcgpgbflpgaaFwG
/- Forms as a tree, and how they lie in the machine's cells. -/
namespace T10
open Go Fw Go.Proofs
set_option maxRecDepth 100000
set_option linter.unusedSimpArgs false
set_option linter.unusedVariables false
inductive Form where
  | mk (word : List UInt8) (an : Bool) (args : List (List UInt8)) (kn : Bool) (kids : List Form) (least most : Int)
def Form.word : Form → List UInt8 | .mk w _ _ _ _ _ _ => w
def Form.an : Form → Bool | .mk _ b _ _ _ _ _ => b
def Form.args : Form → List (List UInt8) | .mk _ _ a _ _ _ _ => a
def Form.kn : Form → Bool | .mk _ _ _ b _ _ _ => b
def Form.kids : Form → List Form | .mk _ _ _ _ k _ _ => k
def Form.least : Form → Int | .mk _ _ _ _ _ l _ => l
def Form.most : Form → Int | .mk _ _ _ _ _ _ m => m
/-- A slice that came in: nil, or the cells. -/
def slv (b : Bool) (n : Nat) (cs : List AV) : AV := if b = true ∧ n = 0 then .nilslice else .slice cs n .no
mutual
def encF : Form → List AV
  | .mk w an a kn k l m => [.str w, slv an a.length (a.map AV.str), slv kn k.length (encFs k), .int .i64 l, .int .i64 m]
def encFs : List Form → List AV
  | [] => []
  | f :: fs => encF f ++ encFs fs
end
theorem encF_eq (f : Form) : encF f = [.str f.word, slv f.an f.args.length (f.args.map AV.str), slv f.kn f.kids.length (encFs f.kids), .int .i64 f.least, .int .i64 f.most] := by
  cases f; simp only [encF, Form.word, Form.an, Form.args, Form.kn, Form.kids, Form.least, Form.most]
theorem encF_length (f : Form) : (encF f).length = 5 := by rw [encF_eq]; rfl
theorem encFs_length : ∀ fs : List Form, (encFs fs).length = fs.length * 5
  | [] => by simp [encFs]
  | f :: fs => by simp [encFs, encF_length, encFs_length fs]; omega
theorem sub_append_left {us bs : List AV} {j n : Nat} (h : j + n ≤ us.length) : sub (us ++ bs) j n = sub us j n := by
  unfold sub
  rw [if_pos h, if_pos (by simp; omega)]
  congr 1
  rw [List.drop_append_of_le_length (by omega), List.take_append_of_le_length (by simp; omega)]
theorem sub_append_right {us bs : List AV} {j n : Nat} : sub (us ++ bs) (us.length + j) n = sub bs j n := by
  unfold sub
  simp only [List.length_append, List.drop_append, List.drop_eq_nil_of_le (Nat.le_add_right us.length j), Nat.add_sub_cancel_left, List.nil_append]
  by_cases h : j + n ≤ bs.length
  · rw [if_pos h, if_pos (by omega)]
  · rw [if_neg h, if_neg (by omega)]
theorem sub_encFs : ∀ (fs : List Form) (i : Nat) (h : i < fs.length) (j n : Nat), j + n ≤ 5 → sub (encFs fs) (i * 5 + j) n = sub (encF fs[i]) j n
  | f :: fs, 0, h, j, n, hj => by
    simp only [encFs, Nat.zero_mul, Nat.zero_add, List.getElem_cons_zero]
    exact sub_append_left (by rw [encF_length]; exact hj)
  | f :: fs, i + 1, h, j, n, hj => by
    simp only [encFs, List.getElem_cons_succ]
    rw [show (i + 1) * 5 + j = (encF f).length + (i * 5 + j) by rw [encF_length]; omega, sub_append_right]
    exact sub_encFs fs i (by simpa using h) j n hj
theorem lenv_slv (b : Bool) (n : Nat) (cs : List AV) : lenvA (slv b n cs) = some (.int .i64 n) := by
  unfold slv; split
  · rename_i h; rw [h.2]; rfl
  · rfl
theorem iaddr_slv (z : Nat) (b : Bool) (n : Nat) (cs : List AV) (i : Int) (K : AV → Prop) : oget (iaddrA z none (slv b n cs) i) K = ((0 ≤ i ∧ i < n) ∧ K (.vptr cs (i.toNat * z))) := by
  unfold slv; split
  · rename_i h; rw [h.2]; simp only [iaddrA, oget_none, eq_iff_iff, false_iff]; omega
  · exact oget_iaddr_slice z cs n .no i K
theorem cells_slv (b : Bool) (n : Nat) (cs : List AV) : (slv b n cs).cells = [slv b n cs] := by unfold slv; split <;> rfl
theorem one_slv (b : Bool) (n : Nat) (cs : List AV) : (slv b n cs).one = true := by unfold slv; split <;> rfl
theorem strip_slv (b : Bool) (n : Nat) (cs : List AV) : (slv b n cs).strip = slv b n cs := by unfold slv; split <;> rfl
attribute [go_sem] lenv_slv cells_slv one_slv strip_slv
attribute [go_sem ↓] iaddr_slv

/- typed arguments are forms -/
theorem flatten_map_str (es : List (List AV)) (h : ∀ x ∈ es, ∃ s : List UInt8, x = [.str s]) : ∃ ss : List (List UInt8), es.flatten = ss.map AV.str ∧ es.length = ss.length := by
  induction es with
  | nil => exact ⟨[], rfl, rfl⟩
  | cons e es ih =>
    obtain ⟨s, rfl⟩ := h e (by simp)
    obtain ⟨ss, h1, h2⟩ := ih fun x hx => h x (by simp [hx])
    exact ⟨s :: ss, by simp [h1], by simp [h2]⟩
theorem flatten_encFs (es : List (List AV)) (h : ∀ x ∈ es, ∃ f : Form, x = encF f) : ∃ fs : List Form, es.flatten = encFs fs ∧ es.length = fs.length := by
  induction es with
  | nil => exact ⟨[], rfl, rfl⟩
  | cons e es ih =>
    obtain ⟨f, rfl⟩ := h e (by simp)
    obtain ⟨fs, h1, h2⟩ := ih fun x hx => h x (by simp [hx])
    exact ⟨f :: fs, by simp [encFs, h1], by simp [h2]⟩
theorem Ty_strs {t : TypeId} (hu : Try.prog.underlying t = some (.slice 9)) {f : Nat} {us : List AV} (h : Ty Try.prog f t us) : ∃ (b : Bool) (ss : List (List UInt8)), us = [slv b ss.length (ss.map AV.str)] := by
  rcases Ty_slice hu h with rfl | ⟨f', _, es, h1, _, rfl⟩
  · exact ⟨true, [], rfl⟩
  · obtain ⟨ss, h2, h3⟩ := flatten_map_str es fun x hx => by
      obtain ⟨s, h4, _⟩ := Ty_string Try.underlying9 (h1 x hx).1
      exact ⟨s, h4⟩
    exact ⟨false, ss, by simp [slv, h2, h3]⟩
theorem Ty_form : ∀ (f : Nat) (us : List AV), Ty Try.prog f 55 us → ∃ F : Form, us = encF F := by
  intro f
  induction f using Nat.strongRecOn with
  | ind f ih =>
    intro us h
    obtain ⟨f0, hf0, hf⟩ := Ty_struct' Try.underlying55 h
    obtain ⟨p1, q1, e1, h5, _, p2, q2, rfl, h6, _, p3, q3, rfl, h7, _, p4, q4, rfl, h8, _, p5, q5, rfl, h9, _, rfl⟩ := hf
    rw [e1]
    obtain ⟨w, rfl, _⟩ := Ty_string Try.underlying9 h5
    obtain ⟨b, ss, rfl⟩ := Ty_strs Try.underlying53 h6
    obtain ⟨l, rfl, _⟩ := Ty_int Try.underlying3 h8
    obtain ⟨m, rfl, _⟩ := Ty_int Try.underlying3 h9
    rcases Ty_slice Try.underlying26 h7 with rfl | ⟨f', hf', es, h10, _, rfl⟩
    · exact ⟨.mk w b ss true [] l m, rfl⟩
    · obtain ⟨fs, h11, h12⟩ := flatten_encFs es fun x hx => ih f' (by omega) x (h10 x hx).1
      exact ⟨.mk w b ss false fs l m, by simp [encF, slv, h11, h12]⟩
theorem TyArg_forms {a : AV} (h : TyArg Try.prog 26 a) : ∃ (b : Bool) (fs : List Form), a = slv b fs.length (encFs fs) := by
  rcases TyArg_slice Try.underlying26 h with rfl | ⟨f, es, h1, _, rfl⟩
  · exact ⟨true, [], rfl⟩
  · obtain ⟨fs, h2, h3⟩ := flatten_encFs es fun x hx => Ty_form f x (h1 x hx).1
    exact ⟨false, fs, by simp [slv, h2, h3]⟩

/- states that have grown -/
/-- The state st has what h has below N, and room from N on; nothing below L was written. -/
structure Grew (N L : Nat) (h : List (Nat × AObj)) (st : St) : Prop where
  next : N ≤ st.next
  low : st.low = L
  old : ∀ i, i < N → look i st.heap = look i h
end T10

/- Small lists of forms. -/
namespace T10
open Go Fw Go.Proofs
set_option maxRecDepth 100000
set_option linter.unusedSimpArgs false
set_option linter.unusedVariables false
theorem forms_ind {P : List Form → Prop} (h : ∀ fs, (∀ f ∈ fs, P f.kids) → P fs) : ∀ fs, P fs := by
  have key : ∀ n fs, SizeOf.sizeOf fs < n → P fs := by
    intro n
    induction n with
    | zero => intro fs h; omega
    | succ n ih =>
      intro fs hn
      refine h fs fun f hf => ih f.kids ?_
      have h1 := List.sizeOf_lt_of_mem hf
      cases f with
      | mk w an a kn k l m =>
        simp only [Form.kids]
        have : SizeOf.sizeOf (Form.mk w an a kn k l m) = 1 + SizeOf.sizeOf w + SizeOf.sizeOf an + SizeOf.sizeOf a + SizeOf.sizeOf kn + SizeOf.sizeOf k + SizeOf.sizeOf l + SizeOf.sizeOf m := Form.mk.sizeOf_spec w an a kn k l m
        omega
  exact fun fs => key (SizeOf.sizeOf fs + 1) fs (Nat.lt_succ_self _)

section
variable {fs : List Form} {i : Nat} (h : i < fs.length)
include h
theorem sub_form : sub (encFs fs) (i * 5) 5 = some (encF fs[i]) := by
  have := sub_encFs fs i h 0 5 (by omega)
  rw [Nat.add_zero] at this
  rw [this]
  have h2 := encF_length fs[i]
  simp only [sub, h2, List.drop_zero, Nat.zero_add, Nat.le_refl, if_true]
  rw [List.take_of_length_le (by omega)]
theorem sub_word : sub (encFs fs) (i * 5) 1 = some [.str fs[i].word] := by
  have := sub_encFs fs i h 0 1 (by omega)
  rw [Nat.add_zero] at this
  rw [this, encF_eq]; rfl
theorem sub_args : sub (encFs fs) (i * 5 + 1) 1 = some [slv fs[i].an fs[i].args.length (fs[i].args.map AV.str)] := by
  rw [sub_encFs fs i h 1 1 (by omega), encF_eq]; rfl
theorem sub_kids : sub (encFs fs) (i * 5 + 2) 1 = some [slv fs[i].kn fs[i].kids.length (encFs fs[i].kids)] := by
  rw [sub_encFs fs i h 2 1 (by omega), encF_eq]; rfl
theorem sub_least : sub (encFs fs) (i * 5 + 3) 1 = some [.int .i64 fs[i].least] := by
  rw [sub_encFs fs i h 3 1 (by omega), encF_eq]; rfl
theorem sub_most : sub (encFs fs) (i * 5 + 4) 1 = some [.int .i64 fs[i].most] := by
  rw [sub_encFs fs i h 4 1 (by omega), encF_eq]; rfl
end
theorem sub_str {ss : List (List UInt8)} {k : Nat} (h : k < ss.length) : sub (ss.map AV.str) k 1 = some [.str ss[k]] := by
  rw [sub_one (by simpa using h)]; simp [List.getD, h]

def badF (f : Form) : Bool := decide (100 < f.word.length) || decide (12 < f.args.length) || f.args.any fun a => decide (100 < a.length)
mutual
def roomF : Form → Int → Int
  | .mk w an a kn k l mo, m => if badF (.mk w an a kn [] l mo) then -1 else roomFs k (m - 1)
def roomFs : List Form → Int → Int
  | [], m => m
  | f :: fs, m => if m < 0 then m else roomFs fs (roomF f m)
end
theorem roomF_eq (f : Form) (m : Int) : roomF f m = if badF f then -1 else roomFs f.kids (m - 1) := by
  cases f; simp only [roomF, Form.kids]; rfl
theorem roomFs_le : ∀ (fs : List Form) (m : Int), -1 ≤ m → -1 ≤ roomFs fs m ∧ roomFs fs m ≤ m := by
  refine forms_ind fun fs ih => ?_
  induction fs with
  | nil => intro m hm; simp [roomFs, hm]
  | cons f fs ih2 =>
    intro m hm
    simp only [roomFs]
    split
    · omega
    · have h1 : -1 ≤ roomF f m ∧ roomF f m ≤ m := by
        rw [roomF_eq]; split
        · omega
        · have := ih f (by simp) (m - 1) (by omega); omega
      have h2 := ih2 (fun g hg => ih g (by simp [hg])) (roomF f m) h1.1
      omega

theorem l29a (b : Bool) (fs : List Form) (i : Nat) (hi : i < fs.length) (m : Int) (st : St) (Q : Sig → FE → St → Prop) : ∀ (n k : Nat) (e : FE), k + n = fs[i].args.length → fs[i].args.length ≤ 12 → e 0 = slv b fs.length (encFs fs) → e 1 = .int .i64 m → e 5 = .int .i64 i → e 6 = .int .i64 k →
    ((fs[i].args.drop k).any (fun a => decide (100 < a.length)) = false → ∀ e', e' 0 = slv b fs.length (encFs fs) → e' 1 = .int .i64 m → e' 5 = .int .i64 i → Q (.exit 2) e' st) →
    ((fs[i].args.drop k).any (fun a => decide (100 < a.length)) = true → ∀ e', e' 4 = .int .i64 (-1) → Q .ret e' st) → WLoop cx ir29L0 e st Q
  | 0, k, e, hk, hk2, h0, h1, h5, h6, hT, hF => by
    refine WLoop.rnd (c := _) ir29L0.eq_1 ?_
    have hd : decide ((k : Int) < (fs[i].args.length : Int)) = false := by simp; omega
    simp (config := {contextual := true, implicitDefEqProofs := false, maxSteps := 4000000}) only [go_sem, ↓reduceIte, Bool.false_eq_true, Nat.reduceEqDiff, Nat.reduceAdd, Int.reduceLE, Int.reduceLT, Int.reduceEq, Int.reduceToNat, Int.toNat_natCast, Int.cast_ofNat_Int, Int.natCast_one, Nat.reduceMod, Nat.reduceDiv, UInt8.reduceToNat, Nat.reduceLT, h0, h1, h5, h6, hd, sub_args hi]
    refine ⟨by omega, hT (by rw [List.drop_eq_nil_of_le (by omega)]; rfl) _ h0 h1 h5⟩
  | n + 1, k, e, hk, hk2, h0, h1, h5, h6, hT, hF => by
    refine WLoop.rnd (c := _) ir29L0.eq_1 ?_
    have hd : decide ((k : Int) < (fs[i].args.length : Int)) = true := by simp; omega
    have hw := wrap_one (i := k) (by omega)
    have hlt : k < fs[i].args.length := by omega
    simp (config := {contextual := true, implicitDefEqProofs := false, maxSteps := 4000000}) only [go_sem, ↓reduceIte, Bool.false_eq_true, Nat.reduceEqDiff, Nat.reduceAdd, Int.reduceLE, Int.reduceLT, Int.reduceEq, Int.reduceToNat, Int.toNat_natCast, Int.cast_ofNat_Int, Int.natCast_one, Nat.reduceMod, Nat.reduceDiv, UInt8.reduceToNat, Nat.reduceLT, h0, h1, h5, h6, hd, hw, sub_args hi, sub_str hlt]
    rw [List.drop_eq_getElem_cons hlt, List.any_cons] at hT hF
    refine ⟨by omega, by omega, by omega, ?_⟩
    by_cases hl : 100 < fs[i].args[k].length
    · have hx : decide (100 < (fs[i].args[k].length : Int)) = true := by simp; omega
      have hy : decide (100 < fs[i].args[k].length) = true := by simp [hl]
      rw [hx, pif_true]
      exact hF (by rw [hy]; rfl) _ rfl
    · have hx : decide (100 < (fs[i].args[k].length : Int)) = false := by simp; omega
      have hy : decide (100 < fs[i].args[k].length) = false := by simp [hl]
      rw [hx, pif_false]
      rw [hy, Bool.false_or] at hT hF
      exact l29a b fs i hi m st Q n (k + 1) _ (by omega) hk2 h0 h1 h5 rfl hT hF

theorem l29 (b : Bool) (fs : List Form) (ih : ∀ f ∈ fs, ∀ (b : Bool) (m : Int) (s : St) (K : AV → St → Prop), -1 ≤ m → m ≤ 40 → CallW cx 29 [slv b f.kids.length (encFs f.kids), .int .i64 m] s K = K (.int .i64 (roomFs f.kids m)) s) (st : St) (Q : Sig → FE → St → Prop) :
    ∀ (n i : Nat) (m : Int) (e : FE), i + n = fs.length → i + m ≤ 40 → -1 ≤ m → e 0 = slv b fs.length (encFs fs) → e 1 = .int .i64 m → e 5 = .int .i64 i →
    (∀ e' m', roomFs (fs.drop i) m = m' → e' 1 = .int .i64 m' → Q (.exit 0) e' st) → (roomFs (fs.drop i) m = -1 → ∀ e', e' 4 = .int .i64 (-1) → Q .ret e' st) → WLoop cx ir29L1 e st Q
  | 0, i, m, e, hi, him, hm, h0, h1, h5, hT, hF => by
    refine WLoop.rnd (c := _) ir29L1.eq_1 ?_
    have hd : decide ((i : Int) < (fs.length : Int)) = false := by simp; omega
    simp (config := {contextual := true, implicitDefEqProofs := false, maxSteps := 4000000}) only [go_sem, ↓reduceIte, Bool.false_eq_true, Nat.reduceEqDiff, Nat.reduceAdd, Int.reduceLE, Int.reduceLT, Int.reduceEq, Int.reduceToNat, Int.toNat_natCast, Int.cast_ofNat_Int, Int.natCast_one, Nat.reduceMod, Nat.reduceDiv, UInt8.reduceToNat, Nat.reduceLT, h0, h1, h5, hd]
    exact hT _ m (by rw [List.drop_eq_nil_of_le (by omega)]; rfl) h1
  | n + 1, i, m, e, hi, him, hm, h0, h1, h5, hT, hF => by
    refine WLoop.rnd (c := _) ir29L1.eq_1 ?_
    have hd : decide ((i : Int) < (fs.length : Int)) = true := by simp; omega
    have hlt : i < fs.length := by omega
    rw [List.drop_eq_getElem_cons hlt] at hT hF
    by_cases hm0 : m < 0
    · have hx : decide (0 ≤ m) = false := by simp; omega
      simp (config := {contextual := true, implicitDefEqProofs := false, maxSteps := 4000000}) only [go_sem, ↓reduceIte, Bool.false_eq_true, Nat.reduceEqDiff, Nat.reduceAdd, Int.reduceLE, Int.reduceLT, Int.reduceEq, Int.reduceToNat, Int.toNat_natCast, Int.cast_ofNat_Int, Int.natCast_one, Nat.reduceMod, Nat.reduceDiv, UInt8.reduceToNat, Nat.reduceLT, h0, h1, h5, hd, hx]
      exact hT _ m (by simp only [roomFs]; rw [if_pos hm0]) h1
    have hx : decide (0 ≤ m) = true := by simp; omega
    have hr : roomFs (fs[i] :: fs.drop (i + 1)) m = roomFs (fs.drop (i + 1)) (roomF fs[i] m) := by
      simp only [roomFs]; rw [if_neg hm0]
    rw [hr, roomF_eq] at hT hF
    have hneg : ∀ l, roomFs l (-1) = -1 := fun l => by have := roomFs_le l (-1) (by omega); omega
    by_cases hw : 100 < fs[i].word.length
    · have hy : decide (100 < (fs[i].word.length : Int)) = true := by simp; omega
      have hb : badF fs[i] = true := by simp [badF, hw]
      simp (config := {contextual := true, implicitDefEqProofs := false, maxSteps := 4000000}) only [go_sem, ↓reduceIte, Bool.false_eq_true, Nat.reduceEqDiff, Nat.reduceAdd, Int.reduceLE, Int.reduceLT, Int.reduceEq, Int.reduceToNat, Int.toNat_natCast, Int.cast_ofNat_Int, Int.natCast_one, Nat.reduceMod, Nat.reduceDiv, UInt8.reduceToNat, Nat.reduceLT, h0, h1, h5, hd, hx, sub_word hlt, hy]
      rw [hb, if_pos rfl, hneg] at hF
      exact ⟨by omega, hF rfl _ rfl⟩
    have hy : decide (100 < (fs[i].word.length : Int)) = false := by simp; omega
    by_cases ha : 12 < fs[i].args.length
    · have hz : decide (12 < (fs[i].args.length : Int)) = true := by simp; omega
      have hb : badF fs[i] = true := by simp [badF, ha]
      simp (config := {contextual := true, implicitDefEqProofs := false, maxSteps := 4000000}) only [go_sem, ↓reduceIte, Bool.false_eq_true, Nat.reduceEqDiff, Nat.reduceAdd, Int.reduceLE, Int.reduceLT, Int.reduceEq, Int.reduceToNat, Int.toNat_natCast, Int.cast_ofNat_Int, Int.natCast_one, Nat.reduceMod, Nat.reduceDiv, UInt8.reduceToNat, Nat.reduceLT, h0, h1, h5, hd, hx, sub_word hlt, sub_args hlt, hy, hz]
      rw [hb, if_pos rfl, hneg] at hF
      exact ⟨by omega, by omega, hF rfl _ rfl⟩
    have hz : decide (12 < (fs[i].args.length : Int)) = false := by simp; omega
    simp (config := {contextual := true, implicitDefEqProofs := false, maxSteps := 4000000}) only [go_sem, ↓reduceIte, Bool.false_eq_true, Nat.reduceEqDiff, Nat.reduceAdd, Int.reduceLE, Int.reduceLT, Int.reduceEq, Int.reduceToNat, Int.toNat_natCast, Int.cast_ofNat_Int, Int.natCast_one, Nat.reduceMod, Nat.reduceDiv, UInt8.reduceToNat, Nat.reduceLT, h0, h1, h5, hd, hx, sub_word hlt, sub_args hlt, hy, hz]
    refine ⟨by omega, by omega, ?_⟩
    refine l29a b fs i hlt m st _ fs[i].args.length 0 _ (by omega) (by omega) h0 h1 h5 rfl ?_ ?_
    · intro hany e' k0 k1 k5
      rw [List.drop_zero] at hany
      have hb : badF fs[i] = false := by
        have h1 : decide (100 < fs[i].word.length) = false := by simp; omega
        have h2 : decide (12 < fs[i].args.length) = false := by simp; omega
        simp only [badF, h1, h2, hany]; rfl
      rw [hb] at hT hF
      simp only [Bool.false_eq_true, if_false] at hT hF
      have hw1 : IntKind.i64.wrap (m - 1) = m - 1 := wrap_i64 (by omega) (by omega)
      have hw2 := wrap_one (i := i) (by omega)
      have hc := fun st K => ih fs[i] (List.getElem_mem hlt) fs[i].kn (m - 1) st K (by omega) (by omega)
      simp (config := {contextual := true, implicitDefEqProofs := false, maxSteps := 4000000}) only [go_sem, ↓reduceIte, Bool.false_eq_true, Nat.reduceEqDiff, Nat.reduceAdd, Int.reduceLE, Int.reduceLT, Int.reduceEq, Int.reduceToNat, Int.toNat_natCast, Int.cast_ofNat_Int, Int.natCast_one, Nat.reduceMod, Nat.reduceDiv, UInt8.reduceToNat, Nat.reduceLT, k0, k1, k5, hw1, hw2, sub_kids hlt, hc]
      have hle := roomFs_le fs[i].kids (m - 1) (by omega)
      refine ⟨by omega, ?_⟩
      exact l29 b fs ih st Q n (i + 1) (roomFs fs[i].kids (m - 1)) _ (by omega) (by omega) (by omega) k0 rfl rfl hT hF
    · intro hany e' k4
      rw [List.drop_zero] at hany
      have hb : badF fs[i] = true := by simp only [badF, hany, Bool.or_true]
      rw [hb, if_pos rfl, hneg] at hF
      simp (config := {contextual := true, implicitDefEqProofs := false, maxSteps := 4000000}) only [go_sem, ↓reduceIte, Bool.false_eq_true, Nat.reduceEqDiff, Nat.reduceAdd, Int.reduceLE, Int.reduceLT, Int.reduceEq, Int.reduceToNat, Int.toNat_natCast, Int.cast_ofNat_Int, Int.natCast_one, Nat.reduceMod, Nat.reduceDiv, UInt8.reduceToNat, Nat.reduceLT, k4]
      exact hF rfl _ k4
theorem c29 : ∀ (fs : List Form) (b : Bool) (m : Int) (s : St) (K : AV → St → Prop), -1 ≤ m → m ≤ 40 → CallW cx 29 [slv b fs.length (encFs fs), .int .i64 m] s K = K (.int .i64 (roomFs fs m)) s := by
  refine forms_ind fun fs ih => ?_
  intro b m s K h1 h2
  refine CallW.eq (CallW.fn' (fn := ir29) rfl rfl (by kernel_rfl) ir29.eq_1 ?_) K
  simp (config := {contextual := true, implicitDefEqProofs := false, maxSteps := 4000000}) only [go_sem, ↓reduceIte, Bool.false_eq_true, Nat.reduceEqDiff, Nat.reduceAdd, Int.reduceLE, Int.reduceLT, Int.reduceEq, Int.reduceToNat, Int.toNat_natCast, Int.cast_ofNat_Int, Int.natCast_one, Nat.reduceMod, Nat.reduceDiv, UInt8.reduceToNat, Nat.reduceLT]
  refine l29 b fs ih _ _ fs.length 0 m _ (by omega) (by omega) h1 rfl rfl rfl ?_ ?_
  · intro e' m' hm k1
    rw [List.drop_zero] at hm
    simp (config := {contextual := true, implicitDefEqProofs := false, maxSteps := 4000000}) only [go_sem, ↓reduceIte, Bool.false_eq_true, Nat.reduceEqDiff, Nat.reduceAdd, Int.reduceLE, Int.reduceLT, Int.reduceEq, Int.reduceToNat, Int.toNat_natCast, Int.cast_ofNat_Int, Int.natCast_one, Nat.reduceMod, Nat.reduceDiv, UInt8.reduceToNat, Nat.reduceLT, k1]
    rw [hm]
  · intro hm e' k4
    rw [List.drop_zero] at hm
    simp (config := {contextual := true, implicitDefEqProofs := false, maxSteps := 4000000}) only [go_sem, ↓reduceIte, Bool.false_eq_true, Nat.reduceEqDiff, Nat.reduceAdd, Int.reduceLE, Int.reduceLT, Int.reduceEq, Int.reduceToNat, Int.toNat_natCast, Int.cast_ofNat_Int, Int.natCast_one, Nat.reduceMod, Nat.reduceDiv, UInt8.reduceToNat, Nat.reduceLT, k4]
    rw [hm]
theorem c12 (fs : List Form) (b : Bool) (s : St) (K : AV → St → Prop) : CallW cx 12 [slv b fs.length (encFs fs)] s K = K (.bool (decide (0 ≤ roomFs fs 40))) s := by
  refine CallW.eq (CallW.fn' (fn := ir12) rfl rfl (by kernel_rfl) ir12.eq_1 ?_) K
  have hc := fun st K => c29 fs b 40 st K (by omega) (by omega)
  simp (config := {contextual := true, implicitDefEqProofs := false, maxSteps := 4000000}) only [go_sem, ↓reduceIte, Bool.false_eq_true, Nat.reduceEqDiff, Nat.reduceAdd, Int.reduceLE, Int.reduceLT, Int.reduceEq, Int.reduceToNat, Int.toNat_natCast, Int.cast_ofNat_Int, Int.natCast_one, Nat.reduceMod, Nat.reduceDiv, UInt8.reduceToNat, Nat.reduceLT, hc]
end T10

/- What the check of forms computes: kinds. -/
namespace T10
open Go Fw Go.Proofs
set_option maxRecDepth 100000
set_option linter.unusedSimpArgs false
set_option linter.unusedVariables false
def eqB (a : List UInt8) : Bool := decide (2 ≤ a.length) && decide (a.getD 0 0 = 61)
def knownB (a : List UInt8) : Bool := decide (a ∈ kindsL) || eqB a
theorem first_eq (c : UInt8) : decide ((c.toNat : Int) = 61) = decide (c = 61) := by
  rw [Bool.eq_iff_iff, decide_eq_true_eq, decide_eq_true_eq]
  exact ⟨fun h => byte_eq (n := 61) h, fun h => by rw [h]; rfl⟩
theorem c52_0 (s : St) (K : AV → St → Prop) : CallW cx 52 [.str [119, 111, 114, 100]] s K = K (.bool true) s := by
  refine CallW.eq (CallW.fn' (fn := ir52) rfl rfl (by kernel_rfl) ir52.eq_1 ?_) K
  simp (config := {contextual := true, implicitDefEqProofs := false, maxSteps := 4000000}) only [go_sem, ↓reduceIte, Bool.false_eq_true, Nat.reduceEqDiff, Nat.reduceAdd, Int.reduceLE, Int.reduceLT, Int.reduceEq, Int.reduceToNat, Int.toNat_natCast, Int.cast_ofNat_Int, Int.natCast_one, Nat.reduceMod, Nat.reduceDiv, UInt8.reduceToNat, Nat.reduceLT, tests, c48, show (([119, 111, 114, 100] : List UInt8) = [119, 111, 114, 100]) = True from by simp, show (([119, 111, 114, 100] : List UInt8) = [110, 97, 109, 101]) = False from by simp, show (([119, 111, 114, 100] : List UInt8) = [112, 97, 116, 104]) = False from by simp, show (([119, 111, 114, 100] : List UInt8) = [110, 117, 109, 98, 101, 114]) = False from by simp, show (([119, 111, 114, 100] : List UInt8) = [119, 104, 111, 108, 101]) = False from by simp, show (([119, 111, 114, 100] : List UInt8) = [116, 101, 120, 116]) = False from by simp, show (([119, 111, 114, 100] : List UInt8) = [116, 105, 109, 101]) = False from by simp, show (([119, 111, 114, 100] : List UInt8) = [100, 97, 116, 101]) = False from by simp, show (([119, 111, 114, 100] : List UInt8) = [97, 110, 121]) = False from by simp]
theorem c52_1 (s : St) (K : AV → St → Prop) : CallW cx 52 [.str [110, 97, 109, 101]] s K = K (.bool true) s := by
  refine CallW.eq (CallW.fn' (fn := ir52) rfl rfl (by kernel_rfl) ir52.eq_1 ?_) K
  simp (config := {contextual := true, implicitDefEqProofs := false, maxSteps := 4000000}) only [go_sem, ↓reduceIte, Bool.false_eq_true, Nat.reduceEqDiff, Nat.reduceAdd, Int.reduceLE, Int.reduceLT, Int.reduceEq, Int.reduceToNat, Int.toNat_natCast, Int.cast_ofNat_Int, Int.natCast_one, Nat.reduceMod, Nat.reduceDiv, UInt8.reduceToNat, Nat.reduceLT, tests, c48, show (([110, 97, 109, 101] : List UInt8) = [119, 111, 114, 100]) = False from by simp, show (([110, 97, 109, 101] : List UInt8) = [110, 97, 109, 101]) = True from by simp, show (([110, 97, 109, 101] : List UInt8) = [112, 97, 116, 104]) = False from by simp, show (([110, 97, 109, 101] : List UInt8) = [110, 117, 109, 98, 101, 114]) = False from by simp, show (([110, 97, 109, 101] : List UInt8) = [119, 104, 111, 108, 101]) = False from by simp, show (([110, 97, 109, 101] : List UInt8) = [116, 101, 120, 116]) = False from by simp, show (([110, 97, 109, 101] : List UInt8) = [116, 105, 109, 101]) = False from by simp, show (([110, 97, 109, 101] : List UInt8) = [100, 97, 116, 101]) = False from by simp, show (([110, 97, 109, 101] : List UInt8) = [97, 110, 121]) = False from by simp]
theorem c52_2 (s : St) (K : AV → St → Prop) : CallW cx 52 [.str [112, 97, 116, 104]] s K = K (.bool true) s := by
  refine CallW.eq (CallW.fn' (fn := ir52) rfl rfl (by kernel_rfl) ir52.eq_1 ?_) K
  simp (config := {contextual := true, implicitDefEqProofs := false, maxSteps := 4000000}) only [go_sem, ↓reduceIte, Bool.false_eq_true, Nat.reduceEqDiff, Nat.reduceAdd, Int.reduceLE, Int.reduceLT, Int.reduceEq, Int.reduceToNat, Int.toNat_natCast, Int.cast_ofNat_Int, Int.natCast_one, Nat.reduceMod, Nat.reduceDiv, UInt8.reduceToNat, Nat.reduceLT, tests, c48, show (([112, 97, 116, 104] : List UInt8) = [119, 111, 114, 100]) = False from by simp, show (([112, 97, 116, 104] : List UInt8) = [110, 97, 109, 101]) = False from by simp, show (([112, 97, 116, 104] : List UInt8) = [112, 97, 116, 104]) = True from by simp, show (([112, 97, 116, 104] : List UInt8) = [110, 117, 109, 98, 101, 114]) = False from by simp, show (([112, 97, 116, 104] : List UInt8) = [119, 104, 111, 108, 101]) = False from by simp, show (([112, 97, 116, 104] : List UInt8) = [116, 101, 120, 116]) = False from by simp, show (([112, 97, 116, 104] : List UInt8) = [116, 105, 109, 101]) = False from by simp, show (([112, 97, 116, 104] : List UInt8) = [100, 97, 116, 101]) = False from by simp, show (([112, 97, 116, 104] : List UInt8) = [97, 110, 121]) = False from by simp]
theorem c52_3 (s : St) (K : AV → St → Prop) : CallW cx 52 [.str [110, 117, 109, 98, 101, 114]] s K = K (.bool true) s := by
  refine CallW.eq (CallW.fn' (fn := ir52) rfl rfl (by kernel_rfl) ir52.eq_1 ?_) K
  simp (config := {contextual := true, implicitDefEqProofs := false, maxSteps := 4000000}) only [go_sem, ↓reduceIte, Bool.false_eq_true, Nat.reduceEqDiff, Nat.reduceAdd, Int.reduceLE, Int.reduceLT, Int.reduceEq, Int.reduceToNat, Int.toNat_natCast, Int.cast_ofNat_Int, Int.natCast_one, Nat.reduceMod, Nat.reduceDiv, UInt8.reduceToNat, Nat.reduceLT, tests, c48, show (([110, 117, 109, 98, 101, 114] : List UInt8) = [119, 111, 114, 100]) = False from by simp, show (([110, 117, 109, 98, 101, 114] : List UInt8) = [110, 97, 109, 101]) = False from by simp, show (([110, 117, 109, 98, 101, 114] : List UInt8) = [112, 97, 116, 104]) = False from by simp, show (([110, 117, 109, 98, 101, 114] : List UInt8) = [110, 117, 109, 98, 101, 114]) = True from by simp, show (([110, 117, 109, 98, 101, 114] : List UInt8) = [119, 104, 111, 108, 101]) = False from by simp, show (([110, 117, 109, 98, 101, 114] : List UInt8) = [116, 101, 120, 116]) = False from by simp, show (([110, 117, 109, 98, 101, 114] : List UInt8) = [116, 105, 109, 101]) = False from by simp, show (([110, 117, 109, 98, 101, 114] : List UInt8) = [100, 97, 116, 101]) = False from by simp, show (([110, 117, 109, 98, 101, 114] : List UInt8) = [97, 110, 121]) = False from by simp]
theorem c52_4 (s : St) (K : AV → St → Prop) : CallW cx 52 [.str [119, 104, 111, 108, 101]] s K = K (.bool true) s := by
  refine CallW.eq (CallW.fn' (fn := ir52) rfl rfl (by kernel_rfl) ir52.eq_1 ?_) K
  simp (config := {contextual := true, implicitDefEqProofs := false, maxSteps := 4000000}) only [go_sem, ↓reduceIte, Bool.false_eq_true, Nat.reduceEqDiff, Nat.reduceAdd, Int.reduceLE, Int.reduceLT, Int.reduceEq, Int.reduceToNat, Int.toNat_natCast, Int.cast_ofNat_Int, Int.natCast_one, Nat.reduceMod, Nat.reduceDiv, UInt8.reduceToNat, Nat.reduceLT, tests, c48, show (([119, 104, 111, 108, 101] : List UInt8) = [119, 111, 114, 100]) = False from by simp, show (([119, 104, 111, 108, 101] : List UInt8) = [110, 97, 109, 101]) = False from by simp, show (([119, 104, 111, 108, 101] : List UInt8) = [112, 97, 116, 104]) = False from by simp, show (([119, 104, 111, 108, 101] : List UInt8) = [110, 117, 109, 98, 101, 114]) = False from by simp, show (([119, 104, 111, 108, 101] : List UInt8) = [119, 104, 111, 108, 101]) = True from by simp, show (([119, 104, 111, 108, 101] : List UInt8) = [116, 101, 120, 116]) = False from by simp, show (([119, 104, 111, 108, 101] : List UInt8) = [116, 105, 109, 101]) = False from by simp, show (([119, 104, 111, 108, 101] : List UInt8) = [100, 97, 116, 101]) = False from by simp, show (([119, 104, 111, 108, 101] : List UInt8) = [97, 110, 121]) = False from by simp]
theorem c52_5 (s : St) (K : AV → St → Prop) : CallW cx 52 [.str [116, 101, 120, 116]] s K = K (.bool true) s := by
  refine CallW.eq (CallW.fn' (fn := ir52) rfl rfl (by kernel_rfl) ir52.eq_1 ?_) K
  simp (config := {contextual := true, implicitDefEqProofs := false, maxSteps := 4000000}) only [go_sem, ↓reduceIte, Bool.false_eq_true, Nat.reduceEqDiff, Nat.reduceAdd, Int.reduceLE, Int.reduceLT, Int.reduceEq, Int.reduceToNat, Int.toNat_natCast, Int.cast_ofNat_Int, Int.natCast_one, Nat.reduceMod, Nat.reduceDiv, UInt8.reduceToNat, Nat.reduceLT, tests, c48, show (([116, 101, 120, 116] : List UInt8) = [119, 111, 114, 100]) = False from by simp, show (([116, 101, 120, 116] : List UInt8) = [110, 97, 109, 101]) = False from by simp, show (([116, 101, 120, 116] : List UInt8) = [112, 97, 116, 104]) = False from by simp, show (([116, 101, 120, 116] : List UInt8) = [110, 117, 109, 98, 101, 114]) = False from by simp, show (([116, 101, 120, 116] : List UInt8) = [119, 104, 111, 108, 101]) = False from by simp, show (([116, 101, 120, 116] : List UInt8) = [116, 101, 120, 116]) = True from by simp, show (([116, 101, 120, 116] : List UInt8) = [116, 105, 109, 101]) = False from by simp, show (([116, 101, 120, 116] : List UInt8) = [100, 97, 116, 101]) = False from by simp, show (([116, 101, 120, 116] : List UInt8) = [97, 110, 121]) = False from by simp]
theorem c52_6 (s : St) (K : AV → St → Prop) : CallW cx 52 [.str [116, 105, 109, 101]] s K = K (.bool true) s := by
  refine CallW.eq (CallW.fn' (fn := ir52) rfl rfl (by kernel_rfl) ir52.eq_1 ?_) K
  simp (config := {contextual := true, implicitDefEqProofs := false, maxSteps := 4000000}) only [go_sem, ↓reduceIte, Bool.false_eq_true, Nat.reduceEqDiff, Nat.reduceAdd, Int.reduceLE, Int.reduceLT, Int.reduceEq, Int.reduceToNat, Int.toNat_natCast, Int.cast_ofNat_Int, Int.natCast_one, Nat.reduceMod, Nat.reduceDiv, UInt8.reduceToNat, Nat.reduceLT, tests, c48, show (([116, 105, 109, 101] : List UInt8) = [119, 111, 114, 100]) = False from by simp, show (([116, 105, 109, 101] : List UInt8) = [110, 97, 109, 101]) = False from by simp, show (([116, 105, 109, 101] : List UInt8) = [112, 97, 116, 104]) = False from by simp, show (([116, 105, 109, 101] : List UInt8) = [110, 117, 109, 98, 101, 114]) = False from by simp, show (([116, 105, 109, 101] : List UInt8) = [119, 104, 111, 108, 101]) = False from by simp, show (([116, 105, 109, 101] : List UInt8) = [116, 101, 120, 116]) = False from by simp, show (([116, 105, 109, 101] : List UInt8) = [116, 105, 109, 101]) = True from by simp, show (([116, 105, 109, 101] : List UInt8) = [100, 97, 116, 101]) = False from by simp, show (([116, 105, 109, 101] : List UInt8) = [97, 110, 121]) = False from by simp]
theorem c52_7 (s : St) (K : AV → St → Prop) : CallW cx 52 [.str [100, 97, 116, 101]] s K = K (.bool true) s := by
  refine CallW.eq (CallW.fn' (fn := ir52) rfl rfl (by kernel_rfl) ir52.eq_1 ?_) K
  simp (config := {contextual := true, implicitDefEqProofs := false, maxSteps := 4000000}) only [go_sem, ↓reduceIte, Bool.false_eq_true, Nat.reduceEqDiff, Nat.reduceAdd, Int.reduceLE, Int.reduceLT, Int.reduceEq, Int.reduceToNat, Int.toNat_natCast, Int.cast_ofNat_Int, Int.natCast_one, Nat.reduceMod, Nat.reduceDiv, UInt8.reduceToNat, Nat.reduceLT, tests, c48, show (([100, 97, 116, 101] : List UInt8) = [119, 111, 114, 100]) = False from by simp, show (([100, 97, 116, 101] : List UInt8) = [110, 97, 109, 101]) = False from by simp, show (([100, 97, 116, 101] : List UInt8) = [112, 97, 116, 104]) = False from by simp, show (([100, 97, 116, 101] : List UInt8) = [110, 117, 109, 98, 101, 114]) = False from by simp, show (([100, 97, 116, 101] : List UInt8) = [119, 104, 111, 108, 101]) = False from by simp, show (([100, 97, 116, 101] : List UInt8) = [116, 101, 120, 116]) = False from by simp, show (([100, 97, 116, 101] : List UInt8) = [116, 105, 109, 101]) = False from by simp, show (([100, 97, 116, 101] : List UInt8) = [100, 97, 116, 101]) = True from by simp, show (([100, 97, 116, 101] : List UInt8) = [97, 110, 121]) = False from by simp]
theorem c52_8 (s : St) (K : AV → St → Prop) : CallW cx 52 [.str [97, 110, 121]] s K = K (.bool true) s := by
  refine CallW.eq (CallW.fn' (fn := ir52) rfl rfl (by kernel_rfl) ir52.eq_1 ?_) K
  simp (config := {contextual := true, implicitDefEqProofs := false, maxSteps := 4000000}) only [go_sem, ↓reduceIte, Bool.false_eq_true, Nat.reduceEqDiff, Nat.reduceAdd, Int.reduceLE, Int.reduceLT, Int.reduceEq, Int.reduceToNat, Int.toNat_natCast, Int.cast_ofNat_Int, Int.natCast_one, Nat.reduceMod, Nat.reduceDiv, UInt8.reduceToNat, Nat.reduceLT, tests, c48, show (([97, 110, 121] : List UInt8) = [119, 111, 114, 100]) = False from by simp, show (([97, 110, 121] : List UInt8) = [110, 97, 109, 101]) = False from by simp, show (([97, 110, 121] : List UInt8) = [112, 97, 116, 104]) = False from by simp, show (([97, 110, 121] : List UInt8) = [110, 117, 109, 98, 101, 114]) = False from by simp, show (([97, 110, 121] : List UInt8) = [119, 104, 111, 108, 101]) = False from by simp, show (([97, 110, 121] : List UInt8) = [116, 101, 120, 116]) = False from by simp, show (([97, 110, 121] : List UInt8) = [116, 105, 109, 101]) = False from by simp, show (([97, 110, 121] : List UInt8) = [100, 97, 116, 101]) = False from by simp, show (([97, 110, 121] : List UInt8) = [97, 110, 121]) = True from by simp]
theorem c52 (a : List UInt8) (s : St) (K : AV → St → Prop) : CallW cx 52 [.str a] s K = K (.bool (knownB a)) s := by
  by_cases hk : a ∈ kindsL
  · have hb : knownB a = true := by simp [knownB, hk]
    rw [hb]
    simp only [kindsL, List.mem_cons, List.not_mem_nil, or_false] at hk
    rcases hk with rfl | rfl | rfl | rfl | rfl | rfl | rfl | rfl | rfl
    · exact c52_0 s K
    · exact c52_1 s K
    · exact c52_2 s K
    · exact c52_3 s K
    · exact c52_4 s K
    · exact c52_5 s K
    · exact c52_6 s K
    · exact c52_7 s K
    · exact c52_8 s K
  · refine CallW.eq (CallW.fn' (fn := ir52) rfl rfl (by kernel_rfl) ir52.eq_1 ?_) K
    have n0 : (a = [119, 111, 114, 100]) = False := by simp; intro h; exact hk (h ▸ by decide)
    have n1 : (a = [110, 97, 109, 101]) = False := by simp; intro h; exact hk (h ▸ by decide)
    have n2 : (a = [112, 97, 116, 104]) = False := by simp; intro h; exact hk (h ▸ by decide)
    have n3 : (a = [110, 117, 109, 98, 101, 114]) = False := by simp; intro h; exact hk (h ▸ by decide)
    have n4 : (a = [119, 104, 111, 108, 101]) = False := by simp; intro h; exact hk (h ▸ by decide)
    have n5 : (a = [116, 101, 120, 116]) = False := by simp; intro h; exact hk (h ▸ by decide)
    have n6 : (a = [116, 105, 109, 101]) = False := by simp; intro h; exact hk (h ▸ by decide)
    have n7 : (a = [100, 97, 116, 101]) = False := by simp; intro h; exact hk (h ▸ by decide)
    have n8 : (a = [97, 110, 121]) = False := by simp; intro h; exact hk (h ▸ by decide)
    have hb : knownB a = eqB a := by simp [knownB, hk]
    simp (config := {contextual := true, implicitDefEqProofs := false, maxSteps := 4000000}) only [go_sem, ↓reduceIte, Bool.false_eq_true, Nat.reduceEqDiff, Nat.reduceAdd, Int.reduceLE, Int.reduceLT, Int.reduceEq, Int.reduceToNat, Int.toNat_natCast, Int.cast_ofNat_Int, Int.natCast_one, Nat.reduceMod, Nat.reduceDiv, UInt8.reduceToNat, Nat.reduceLT, tests, c48, n0, n1, n2, n3, n4, n5, n6, n7, n8, first_eq]
    rw [hb]
    by_cases h : 2 ≤ a.length
    · have hx : decide (1 < (a.length : Int)) = true := by simp; omega
      have hy : decide (2 ≤ a.length) = true := by simp [h]
      rw [hx, pif_true]
      refine ⟨by omega, ?_⟩
      simp only [eqB, hy, Bool.true_and]
    · have hx : decide (1 < (a.length : Int)) = false := by simp; omega
      have hy : decide (2 ≤ a.length) = false := by simp [h]
      rw [hx, pif_false]
      simp only [eqB, hy, Bool.false_and]
def endsStar (a : List UInt8) : Bool := decide (1 ≤ a.length) && decide (a.drop (a.length - 1) = [42])
def splitB (a : List UInt8) : Bool := !decide (a = [61, 42]) && endsStar a
def splitW (a : List UInt8) : List UInt8 := if splitB a = true then a.take (a.length - 1) else a
theorem c78 (a : List UInt8) (ha : a.length ≤ 4611686018427387904) (s : St) (K : AV → St → Prop) : CallW cx 78 [.str a, .str [42]] s K = K (.bool (endsStar a)) s := by
  refine CallW.eq (CallW.fn' (fn := ir78) rfl rfl (by kernel_rfl) ir78.eq_1 ?_) K
  by_cases h : 1 ≤ a.length
  · have hx : decide (1 ≤ (a.length : Int)) = true := by simp; omega
    have hy : decide (1 ≤ a.length) = true := by simp [h]
    have hw : IntKind.i64.wrap ((a.length : Int) - 1) = ((a.length - 1 : Nat) : Int) := by rw [wrap_i64 (by omega) (by omega)]; omega
    simp (config := {contextual := true, implicitDefEqProofs := false, maxSteps := 4000000}) only [go_sem, ↓reduceIte, Bool.false_eq_true, Nat.reduceEqDiff, Nat.reduceAdd, Int.reduceLE, Int.reduceLT, Int.reduceEq, Int.reduceToNat, Int.toNat_natCast, Int.cast_ofNat_Int, Int.natCast_one, Nat.reduceMod, Nat.reduceDiv, UInt8.reduceToNat, Nat.reduceLT, hx, hw]
    refine ⟨by omega, ?_⟩
    simp only [endsStar, hy, Bool.true_and]
  · have hx : decide (1 ≤ (a.length : Int)) = false := by simp; omega
    have hy : decide (1 ≤ a.length) = false := by simp [h]
    simp (config := {contextual := true, implicitDefEqProofs := false, maxSteps := 4000000}) only [go_sem, ↓reduceIte, Bool.false_eq_true, Nat.reduceEqDiff, Nat.reduceAdd, Int.reduceLE, Int.reduceLT, Int.reduceEq, Int.reduceToNat, Int.toNat_natCast, Int.cast_ofNat_Int, Int.natCast_one, Nat.reduceMod, Nat.reduceDiv, UInt8.reduceToNat, Nat.reduceLT, hx]
    simp only [endsStar, hy, Bool.false_and]
theorem c70 (a : List UInt8) (ha : a.length ≤ 4611686018427387904) (s : St) (K : AV → St → Prop) : CallW cx 70 [.str a, .str [42]] s K = K (.bool (endsStar a)) s := by
  refine CallW.eq (CallW.fn' (fn := ir70) rfl rfl (by kernel_rfl) ir70.eq_1 ?_) K
  have k := fun st K => c78 a ha st K
  simp (config := {contextual := true, implicitDefEqProofs := false, maxSteps := 4000000}) only [go_sem, ↓reduceIte, Bool.false_eq_true, Nat.reduceEqDiff, Nat.reduceAdd, Int.reduceLE, Int.reduceLT, Int.reduceEq, Int.reduceToNat, Int.toNat_natCast, Int.cast_ofNat_Int, Int.natCast_one, Nat.reduceMod, Nat.reduceDiv, UInt8.reduceToNat, Nat.reduceLT, k]
theorem c51 (a : List UInt8) (ha : a.length ≤ 4611686018427387904) (s : St) (K : AV → St → Prop) : CallW cx 51 [.str a] s K = K (.tuple [.str (splitW a), .bool (splitB a)]) s := by
  refine CallW.eq (CallW.fn' (fn := ir51) rfl rfl (by kernel_rfl) ir51.eq_1 ?_) K
  have k := fun st K => c70 a ha st K
  by_cases h1 : a = [61, 42]
  · have hx : decide (a = [61, 42]) = true := by simp [h1]
    have hb : splitB a = false := by simp [splitB, hx]
    simp (config := {contextual := true, implicitDefEqProofs := false, maxSteps := 4000000}) only [go_sem, ↓reduceIte, Bool.false_eq_true, Nat.reduceEqDiff, Nat.reduceAdd, Int.reduceLE, Int.reduceLT, Int.reduceEq, Int.reduceToNat, Int.toNat_natCast, Int.cast_ofNat_Int, Int.natCast_one, Nat.reduceMod, Nat.reduceDiv, UInt8.reduceToNat, Nat.reduceLT, hx]
    simp [splitW, hb]
  have hx : decide (a = [61, 42]) = false := by simp [h1]
  cases h2 : endsStar a with
  | false =>
    have hb : splitB a = false := by simp [splitB, h2]
    simp (config := {contextual := true, implicitDefEqProofs := false, maxSteps := 4000000}) only [go_sem, ↓reduceIte, Bool.false_eq_true, Nat.reduceEqDiff, Nat.reduceAdd, Int.reduceLE, Int.reduceLT, Int.reduceEq, Int.reduceToNat, Int.toNat_natCast, Int.cast_ofNat_Int, Int.natCast_one, Nat.reduceMod, Nat.reduceDiv, UInt8.reduceToNat, Nat.reduceLT, hx, k, h2]
    simp [splitW, hb]
  | true =>
    have hb : splitB a = true := by simp [splitB, h2, h1]
    have h3 : 1 ≤ a.length := by simp [endsStar] at h2; omega
    have hw : IntKind.i64.wrap ((a.length : Int) - 1) = ((a.length - 1 : Nat) : Int) := by rw [wrap_i64 (by omega) (by omega)]; omega
    simp (config := {contextual := true, implicitDefEqProofs := false, maxSteps := 4000000}) only [go_sem, ↓reduceIte, Bool.false_eq_true, Nat.reduceEqDiff, Nat.reduceAdd, Int.reduceLE, Int.reduceLT, Int.reduceEq, Int.reduceToNat, Int.toNat_natCast, Int.cast_ofNat_Int, Int.natCast_one, Nat.reduceMod, Nat.reduceDiv, UInt8.reduceToNat, Nat.reduceLT, hx, k, h2, hw]
    refine ⟨by omega, ?_⟩
    simp [splitW, hb]
def kindsOk (n : Nat) : List (List UInt8) → Nat → Bool
  | [], _ => true
  | a :: l, i => (knownB (splitW a) && !(splitB a && decide (i + 1 < n))) && kindsOk n l (i + 1)
theorem l36 (f : Form) (hl : f.args.length ≤ 12) (hs : ∀ a ∈ f.args, a.length ≤ 100) (p : Nat) (st : St) (hp : look p st.heap = some (.cells (some 55) [.str f.word, slv f.an f.args.length (f.args.map AV.str), slv f.kn f.kids.length (encFs f.kids), .int .i64 f.least, .int .i64 f.most])) (Q : Sig → FE → St → Prop) : ∀ (n i : Nat) (e : FE), i + n = f.args.length → e 1 = .ptr p 0 → e 8 = slv f.an f.args.length (f.args.map AV.str) → e 9 = .int .i64 f.args.length → e 10 = .int .i64 i →
    (kindsOk f.args.length (f.args.drop i) i = true → ∀ e', Q (.exit 0) e' st) → (kindsOk f.args.length (f.args.drop i) i = false → ∀ e', e' 2 = .bool false → Q .ret e' st) → WLoop cx ir36L0 e st Q
  | 0, i, e, hi, h1, h8, h9, h10, hT, hF => by
    refine WLoop.rnd (c := _) ir36L0.eq_1 ?_
    have hd : decide ((i : Int) < (f.args.length : Int)) = false := by simp; omega
    simp (config := {contextual := true, implicitDefEqProofs := false, maxSteps := 4000000}) only [go_sem, ↓reduceIte, Bool.false_eq_true, Nat.reduceEqDiff, Nat.reduceAdd, Int.reduceLE, Int.reduceLT, Int.reduceEq, Int.reduceToNat, Int.toNat_natCast, Int.cast_ofNat_Int, Int.natCast_one, Nat.reduceMod, Nat.reduceDiv, UInt8.reduceToNat, Nat.reduceLT, h1, h8, h9, h10, hd]
    exact hT (by rw [List.drop_eq_nil_of_le (by omega)]; rfl) _
  | n + 1, i, e, hi, h1, h8, h9, h10, hT, hF => by
    refine WLoop.rnd (c := _) ir36L0.eq_1 ?_
    have hd : decide ((i : Int) < (f.args.length : Int)) = true := by simp; omega
    have hw := wrap_one (i := i) (by omega)
    have hlt : i < f.args.length := by omega
    have hw2 : IntKind.i64.wrap ((f.args.length : Int) - 1) = ((f.args.length - 1 : Nat) : Int) := by rw [wrap_i64 (by omega) (by omega)]; omega
    have hz : decide ((i : Int) < ((f.args.length - 1 : Nat) : Int)) = decide (i + 1 < f.args.length) := by
      rw [Bool.eq_iff_iff, decide_eq_true_eq, decide_eq_true_eq]; omega
    have hlen := hs _ (List.getElem_mem hlt)
    have k51 := fun st K => c51 f.args[i] (by omega) st K
    rw [List.drop_eq_getElem_cons hlt] at hT hF
    simp only [kindsOk] at hT hF
    have next : ∀ e', (knownB (splitW f.args[i]) && !(splitB f.args[i] && decide (i + 1 < f.args.length))) = true → e' 1 = .ptr p 0 → e' 8 = slv f.an f.args.length (f.args.map AV.str) → e' 9 = .int .i64 f.args.length → e' 10 = .int .i64 ((i + 1 : Nat) : Int) → WLoop cx ir36L0 e' st Q := fun e' hb k1 k8 k9 k10 => by
      rw [hb, Bool.true_and] at hT hF
      exact l36 f hl hs p st hp Q n (i + 1) e' (by omega) k1 k8 k9 k10 hT hF
    simp (config := {contextual := true, implicitDefEqProofs := false, maxSteps := 4000000}) only [go_sem, ↓reduceIte, Bool.false_eq_true, Nat.reduceEqDiff, Nat.reduceAdd, Int.reduceLE, Int.reduceLT, Int.reduceEq, Int.reduceToNat, Int.toNat_natCast, Int.cast_ofNat_Int, Int.natCast_one, Nat.reduceMod, Nat.reduceDiv, UInt8.reduceToNat, Nat.reduceLT, h1, h8, h9, h10, hd, hw, hw2, hz, sub_str hlt, k51, c52, hp]
    refine ⟨by omega, ?_⟩
    cases hA : knownB (splitW f.args[i]) <;> cases hB : splitB f.args[i] <;> cases hC : decide (i + 1 < f.args.length) <;> simp only [pif, Bool.not_true, Bool.not_false, if_true, Bool.false_eq_true, if_false]
    all_goals first
      | exact next _ (by rw [hA, hB, hC]; rfl) h1 h8 h9 rfl
      | exact hF (by rw [hA, hB, hC]; rfl) _ rfl
def kindsF (f : Form) : Bool := kindsOk f.args.length f.args 0
theorem c36 (f : Form) (hl : f.args.length ≤ 12) (hs : ∀ a ∈ f.args, a.length ≤ 100) (s : St) (K : AV → St → Prop) : CallW cx 36 [.agg [.str f.word, slv f.an f.args.length (f.args.map AV.str), slv f.kn f.kids.length (encFs f.kids), .int .i64 f.least, .int .i64 f.most]] s K = K (.bool (kindsF f)) s := by
  refine CallW.eq (CallW.fn' (fn := ir36) rfl rfl (by kernel_rfl) ir36.eq_1 ?_) K
  simp (config := {contextual := true, implicitDefEqProofs := false, maxSteps := 4000000}) only [go_sem, ↓reduceIte, Bool.false_eq_true, Nat.reduceEqDiff, Nat.reduceAdd, Int.reduceLE, Int.reduceLT, Int.reduceEq, Int.reduceToNat, Int.toNat_natCast, Int.cast_ofNat_Int, Int.natCast_one, Nat.reduceMod, Nat.reduceDiv, UInt8.reduceToNat, Nat.reduceLT]
  refine l36 f hl hs s.next _ (by simp [Fw.look]) _ f.args.length 0 _ (by omega) rfl rfl rfl rfl ?_ ?_
  · intro h e'
    rw [List.drop_zero] at h
    simp (config := {contextual := true, implicitDefEqProofs := false, maxSteps := 4000000}) only [go_sem, ↓reduceIte, Bool.false_eq_true, Nat.reduceEqDiff, Nat.reduceAdd, Int.reduceLE, Int.reduceLT, Int.reduceEq, Int.reduceToNat, Int.toNat_natCast, Int.cast_ofNat_Int, Int.natCast_one, Nat.reduceMod, Nat.reduceDiv, UInt8.reduceToNat, Nat.reduceLT, h, kindsF]
  · intro h e' h2
    rw [List.drop_zero] at h
    simp (config := {contextual := true, implicitDefEqProofs := false, maxSteps := 4000000}) only [go_sem, ↓reduceIte, Bool.false_eq_true, Nat.reduceEqDiff, Nat.reduceAdd, Int.reduceLE, Int.reduceLT, Int.reduceEq, Int.reduceToNat, Int.toNat_natCast, Int.cast_ofNat_Int, Int.natCast_one, Nat.reduceMod, Nat.reduceDiv, UInt8.reduceToNat, Nat.reduceLT, h, h2, kindsF]
theorem c34 (f : Form) (s : St) (K : AV → St → Prop) : CallW cx 34 [.agg [.str f.word, slv f.an f.args.length (f.args.map AV.str), slv f.kn f.kids.length (encFs f.kids), .int .i64 f.least, .int .i64 f.most]] s K = K (.bool (nameB f.word)) s := by
  refine CallW.eq (CallW.fn' (fn := ir34) rfl rfl (by kernel_rfl) ir34.eq_1 ?_) K
  simp (config := {contextual := true, implicitDefEqProofs := false, maxSteps := 4000000}) only [go_sem, ↓reduceIte, Bool.false_eq_true, Nat.reduceEqDiff, Nat.reduceAdd, Int.reduceLE, Int.reduceLT, Int.reduceEq, Int.reduceToNat, Int.toNat_natCast, Int.cast_ofNat_Int, Int.natCast_one, Nat.reduceMod, Nat.reduceDiv, UInt8.reduceToNat, Nat.reduceLT, c35]
def limitsF (f : Form) : Bool := decide (0 ≤ f.least) && decide (f.least ≤ 1000) && decide (1 ≤ f.most) && decide (f.most ≤ 1000) && decide (f.least ≤ f.most)
theorem c32 (f : Form) (s : St) (K : AV → St → Prop) : CallW cx 32 [.agg [.str f.word, slv f.an f.args.length (f.args.map AV.str), slv f.kn f.kids.length (encFs f.kids), .int .i64 f.least, .int .i64 f.most]] s K = K (.bool (limitsF f)) s := by
  refine CallW.eq (CallW.fn' (fn := ir32) rfl rfl (by kernel_rfl) ir32.eq_1 ?_) K
  simp (config := {contextual := true, implicitDefEqProofs := false, maxSteps := 4000000}) only [go_sem, ↓reduceIte, Bool.false_eq_true, Nat.reduceEqDiff, Nat.reduceAdd, Int.reduceLE, Int.reduceLT, Int.reduceEq, Int.reduceToNat, Int.toNat_natCast, Int.cast_ofNat_Int, Int.natCast_one, Nat.reduceMod, Nat.reduceDiv, UInt8.reduceToNat, Nat.reduceLT, limitsF]
  cases decide (0 ≤ f.least) <;> cases decide (f.least ≤ 1000) <;> cases decide (1 ≤ f.most) <;> cases decide (f.most ≤ 1000) <;> simp [pif]
end T10

/- What the check of forms computes: the walks over the tree. -/
namespace T10
open Go Fw Go.Proofs
set_option maxRecDepth 100000
set_option linter.unusedSimpArgs false
set_option linter.unusedVariables false
mutual
def smallF : Form → Prop
  | .mk w an a kn k l m => w.length ≤ 100 ∧ a.length ≤ 12 ∧ (∀ x ∈ a, x.length ≤ 100) ∧ smallFs k
def smallFs : List Form → Prop
  | [] => True
  | f :: fs => smallF f ∧ smallFs fs
end
mutual
def cntF : Form → Nat
  | .mk w an a kn k l m => 1 + cntFs k
def cntFs : List Form → Nat
  | [] => 0
  | f :: fs => cntF f + cntFs fs
end
theorem smallF_eq (f : Form) : smallF f = (f.word.length ≤ 100 ∧ f.args.length ≤ 12 ∧ (∀ x ∈ f.args, x.length ≤ 100) ∧ smallFs f.kids) := by
  cases f; simp only [smallF, Form.word, Form.args, Form.kids]
theorem cntF_eq (f : Form) : cntF f = 1 + cntFs f.kids := by cases f; simp only [cntF, Form.kids]
theorem smallFs_mem : ∀ {fs : List Form}, smallFs fs → ∀ f ∈ fs, smallF f
  | [], _, _, h => by simp at h
  | g :: fs, hs, f, h => by
    simp only [smallFs] at hs
    rcases List.mem_cons.1 h with rfl | h
    · exact hs.1
    · exact smallFs_mem hs.2 f h
theorem cntFs_mem : ∀ {fs : List Form}, ∀ f ∈ fs, cntFs f.kids + 1 ≤ cntFs fs
  | g :: fs, f, h => by
    simp only [cntFs]
    rcases List.mem_cons.1 h with rfl | h
    · rw [cntF_eq]; omega
    · have := cntFs_mem f h; omega
theorem cntFs_length : ∀ (fs : List Form), fs.length ≤ cntFs fs
  | [] => by simp [cntFs]
  | f :: fs => by have := cntFs_length fs; simp only [cntFs, List.length_cons, cntF_eq]; omega
theorem room_small : ∀ (fs : List Form) (m : Int), -1 ≤ m → 0 ≤ roomFs fs m → smallFs fs ∧ roomFs fs m = m - cntFs fs := by
  refine forms_ind fun fs ih => ?_
  induction fs with
  | nil => intro m hm h; simp [smallFs, roomFs, cntFs]
  | cons f fs ih2 =>
    intro m hm h
    simp only [roomFs] at h ⊢
    split at h
    · omega
    rename_i hm0
    rw [if_neg hm0]
    rw [roomF_eq] at h ⊢
    have hneg : roomFs fs (-1) < 0 := by have := roomFs_le fs (-1) (by omega); omega
    split at h
    · omega
    rename_i hb
    rw [if_neg hb]
    have hk := roomFs_le f.kids (m - 1) (by omega)
    obtain ⟨h1, h2⟩ := ih2 (fun g hg => ih g (by simp [hg])) (roomFs f.kids (m - 1)) hk.1 h
    have hk0 : 0 ≤ roomFs f.kids (m - 1) := by
      have := roomFs_le fs (roomFs f.kids (m - 1)) hk.1; omega
    obtain ⟨h3, h4⟩ := ih f (by simp) (m - 1) (by omega) hk0
    simp only [badF, Bool.or_eq_true, decide_eq_true_eq, not_or, List.any_eq_true, not_exists, not_and] at hb
    refine ⟨?_, ?_⟩
    · simp only [smallFs, smallF_eq]
      exact ⟨⟨by omega, by omega, fun x hx => by have := hb.2 x hx; omega, h3⟩, h1⟩
    · rw [h2, h4]; simp only [cntFs, cntF_eq]; omega

/- the walk over the tree -/
mutual
def allF (chk : List Form → Int → Int) : Form → Int → Int
  | .mk w an a kn k l m, d => if chk k (d + 1) ≠ 0 then chk k (d + 1) else allGo chk k (d + 1)
def allGo (chk : List Form → Int → Int) : List Form → Int → Int
  | [], _ => 0
  | f :: fs, d => if allF chk f d ≠ 0 then allF chk f d else allGo chk fs d
end
def allS (chk : List Form → Int → Int) (fs : List Form) (d : Int) : Int := if chk fs d ≠ 0 then chk fs d else allGo chk fs d
theorem allF_eq (chk : List Form → Int → Int) (f : Form) (d : Int) : allF chk f d = allS chk f.kids (d + 1) := by cases f; simp only [allF, Form.kids, allS]; rfl

def Same (N : Nat) (h : List (Nat × AObj)) (st : St) : Prop := N ≤ st.next ∧ ∀ i, i < N → Fw.look i st.heap = Fw.look i h
theorem Same.low {N : Nat} {h : List (Nat × AObj)} {st : St} (k : Same N h st) (l : Nat) : Same N h { heap := st.heap, next := st.next, low := l } := k
theorem Same.new {N : Nat} {h : List (Nat × AObj)} {st : St} (k : Same N h st) (l : Nat) (o : AObj) : Same N h { heap := (st.next, o) :: st.heap, next := st.next + 1, low := l } :=
  ⟨by have := k.1; simp only; omega, fun i hi => by
    have := k.1
    simp only [Fw.look]
    rw [if_neg (by omega)]; exact k.2 i hi⟩
def ChkOk (fv : AV) (chk : List Form → Int → Int) (N : Nat) (h : List (Nat × AObj)) : Prop :=
  ∀ (fs : List Form) (b : Bool) (d : Int) (st : St) (K : AV → St → Prop), smallFs fs → cntFs fs ≤ 40 → Same N h st → FunK cx fv [slv b fs.length (encFs fs), .int .i64 d] st K = K (.int .i64 (chk fs d)) st

theorem patch_five (a b c d e : AV) (v : List AV) (h : v.length = 5) : patch [a, b, c, d, e] 0 v = some v := by
  simp [patch, h, List.drop_eq_nil_of_le]

theorem l37 (fv : AV) (chk : List Form → Int → Int) (N : Nat) (h0 : List (Nat × AObj)) (b : Bool) (fs : List Form) (hsm : smallFs fs) (d : Int) (hd0 : 0 ≤ d) (hd1 : d ≤ 1000) (L : Nat) (hcnt : fs.length ≤ 40)
    (ih : ∀ f ∈ fs, ∀ (b : Bool) (st : St) (K : AV → St → Prop), Same N h0 st → CallW cx 37 [slv b f.kids.length (encFs f.kids), .int .i64 (d + 1), fv] st K = K (.int .i64 (allS chk f.kids (d + 1))) st)
    (Q : Sig → FE → St → Prop) : ∀ (n i : Nat) (e : FE) (st : St), i + n = fs.length → Same N h0 st → st.low = L → L ≤ st.next → e 1 = .int .i64 d → e 2 = fv → e 18 = slv b fs.length (encFs fs) → e 19 = .int .i64 fs.length → e 20 = .int .i64 i →
    (allGo chk (fs.drop i) d = 0 → ∀ e' st', st'.low = L → Q (.exit 0) e' st') → (allGo chk (fs.drop i) d ≠ 0 → ∀ e' st', st'.low = L → e' 6 = .int .i64 (allGo chk (fs.drop i) d) → Q .ret e' st') → WLoop cx ir37L0 e st Q
  | 0, i, e, st, hi, hS, hL, hLn, h1, h2, h18, h19, h20, hT, hF => by
    refine WLoop.rnd (c := _) ir37L0.eq_1 ?_
    have hd : decide ((i : Int) < (fs.length : Int)) = false := by simp; omega
    simp (config := {contextual := true, implicitDefEqProofs := false, maxSteps := 4000000}) only [go_sem, ↓reduceIte, Bool.false_eq_true, Nat.reduceEqDiff, Nat.reduceAdd, Int.reduceLE, Int.reduceLT, Int.reduceEq, Int.reduceToNat, Int.toNat_natCast, Int.cast_ofNat_Int, Int.natCast_one, Nat.reduceMod, Nat.reduceDiv, UInt8.reduceToNat, Nat.reduceLT, h18, h19, h20, hd]
    exact hT (by rw [List.drop_eq_nil_of_le (by omega)]; simp only [allGo]) _ _ hL
  | n + 1, i, e, st, hi, hS, hL, hLn, h1, h2, h18, h19, h20, hT, hF => by
    refine WLoop.rnd (c := _) ir37L0.eq_1 ?_
    have hd : decide ((i : Int) < (fs.length : Int)) = true := by simp; omega
    have hw := wrap_one (i := i) (by omega)
    have hlt : i < fs.length := by omega
    have hw1 : IntKind.i64.wrap (d + 1) = d + 1 := wrap_i64 (by omega) (by omega)
    have hmin : min st.low st.next = st.low := by omega
    have hS' := hS.new st.low (.cells (some 55) [.str fs[i].word, slv fs[i].an fs[i].args.length (fs[i].args.map AV.str), slv fs[i].kn fs[i].kids.length (encFs fs[i].kids), .int .i64 fs[i].least, .int .i64 fs[i].most])
    have hc := fun K => ih fs[i] (List.getElem_mem hlt) fs[i].kn _ K hS'
    rw [List.drop_eq_getElem_cons hlt] at hT hF
    simp only [allGo, allF_eq] at hT hF
    simp (config := {contextual := true, implicitDefEqProofs := false, maxSteps := 4000000}) only [go_sem, ↓reduceIte, Bool.false_eq_true, Nat.reduceEqDiff, Nat.reduceAdd, Int.reduceLE, Int.reduceLT, Int.reduceEq, Int.reduceToNat, Int.toNat_natCast, Int.cast_ofNat_Int, Int.natCast_one, Nat.reduceMod, Nat.reduceDiv, UInt8.reduceToNat, Nat.reduceLT, h1, h2, h18, h19, h20, hd, hw, hw1, sub_form hlt, encF_eq, hmin, hc]
    refine ⟨by omega, ?_⟩
    by_cases hv : allS chk fs[i].kids (d + 1) = 0
    · have hx : decide (allS chk fs[i].kids (d + 1) ≠ 0) = false := by simp [hv]
      rw [hx, pif_false]
      rw [if_neg (by simp [hv])] at hT hF
      exact l37 fv chk N h0 b fs hsm d hd0 hd1 L hcnt ih Q n (i + 1) _ _ (by omega) hS' hL (by simp only; omega) h1 h2 h18 h19 rfl hT hF
    · have hx : decide (allS chk fs[i].kids (d + 1) ≠ 0) = true := by simp [hv]
      rw [hx, pif_true]
      rw [if_pos hv] at hF
      exact hF hv _ _ hL rfl
theorem c37 (fv : AV) (chk : List Form → Int → Int) (N : Nat) (h0 : List (Nat × AObj)) (hf : ChkOk fv chk N h0) : ∀ (fs : List Form) (b : Bool) (d : Int) (s : St) (K : AV → St → Prop), smallFs fs → 0 ≤ d → cntFs fs ≤ 40 → d + cntFs fs ≤ 100 → Same N h0 s →
    CallW cx 37 [slv b fs.length (encFs fs), .int .i64 d, fv] s K = K (.int .i64 (allS chk fs d)) s := by
  refine forms_ind fun fs ih => ?_
  intro b d s K hsm hd0 hcnt hdc hS
  refine CallW.eq (CallW.fn' (fn := ir37) rfl rfl (by kernel_rfl) ir37.eq_1 ?_) K
  have hc := fun K => hf fs b d _ K hsm hcnt (hS.low s.next)
  have hlen := cntFs_length fs
  by_cases hv : chk fs d = 0
  · have hx : decide (chk fs d ≠ 0) = false := by simp [hv]
    have hall : allS chk fs d = allGo chk fs d := by simp [allS, hv]
    simp (config := {contextual := true, implicitDefEqProofs := false, maxSteps := 4000000}) only [go_sem, ↓reduceIte, Bool.false_eq_true, Nat.reduceEqDiff, Nat.reduceAdd, Int.reduceLE, Int.reduceLT, Int.reduceEq, Int.reduceToNat, Int.toNat_natCast, Int.cast_ofNat_Int, Int.natCast_one, Nat.reduceMod, Nat.reduceDiv, UInt8.reduceToNat, Nat.reduceLT, hc, hx]
    refine l37 fv chk N h0 b fs hsm d hd0 (by omega) s.next (by omega) (fun f hf b st K hS => ?_) _ fs.length 0 _ _ (by omega) (hS.low s.next) rfl (Nat.le_refl _) rfl rfl rfl rfl rfl ?_ ?_
    · have h1 := cntFs_mem f hf
      have h2 := smallFs_mem hsm f hf
      rw [smallF_eq] at h2
      exact ih f hf b (d + 1) st K h2.2.2.2 (by omega) (by omega) (by omega) hS
    · intro h e' st' hl
      rw [List.drop_zero] at h
      simp (config := {contextual := true, implicitDefEqProofs := false, maxSteps := 4000000}) only [go_sem, ↓reduceIte, Bool.false_eq_true, Nat.reduceEqDiff, Nat.reduceAdd, Int.reduceLE, Int.reduceLT, Int.reduceEq, Int.reduceToNat, Int.toNat_natCast, Int.cast_ofNat_Int, Int.natCast_one, Nat.reduceMod, Nat.reduceDiv, UInt8.reduceToNat, Nat.reduceLT]
      rw [LeaveW_int _ _ (by omega)]
      exact ⟨by rw [hall, h], rfl⟩
    · intro h e' st' hl h6
      rw [List.drop_zero] at h6
      simp (config := {contextual := true, implicitDefEqProofs := false, maxSteps := 4000000}) only [go_sem, ↓reduceIte, Bool.false_eq_true, Nat.reduceEqDiff, Nat.reduceAdd, Int.reduceLE, Int.reduceLT, Int.reduceEq, Int.reduceToNat, Int.toNat_natCast, Int.cast_ofNat_Int, Int.natCast_one, Nat.reduceMod, Nat.reduceDiv, UInt8.reduceToNat, Nat.reduceLT, h6]
      rw [LeaveW_int _ _ (by omega)]
      exact ⟨by rw [hall], rfl⟩
  · have hx : decide (chk fs d ≠ 0) = true := by simp [hv]
    have hall : allS chk fs d = chk fs d := by simp [allS, hv]
    simp (config := {contextual := true, implicitDefEqProofs := false, maxSteps := 4000000}) only [go_sem, ↓reduceIte, Bool.false_eq_true, Nat.reduceEqDiff, Nat.reduceAdd, Int.reduceLE, Int.reduceLT, Int.reduceEq, Int.reduceToNat, Int.toNat_natCast, Int.cast_ofNat_Int, Int.natCast_one, Nat.reduceMod, Nat.reduceDiv, UInt8.reduceToNat, Nat.reduceLT, hc, hx]
    rw [hall]
end T10

/- What the check of forms computes: its parts, and the whole. -/
namespace T10
open Go Fw Go.Proofs
set_option maxRecDepth 100000
set_option linter.unusedSimpArgs false
set_option linter.unusedVariables false
def deepC (fs : List Form) (d : Int) : Int := if fs ≠ [] ∧ 6 < d then 7 else 0
theorem c30 (fs : List Form) (b : Bool) (d : Int) (s : St) (K : AV → St → Prop) : CallW cx 30 [slv b fs.length (encFs fs), .int .i64 d] s K = K (.int .i64 (deepC fs d)) s := by
  refine CallW.eq (CallW.fn' (fn := ir30) rfl rfl (by kernel_rfl) ir30.eq_1 ?_) K
  by_cases h : fs = []
  · have hx : decide (0 < (fs.length : Int)) = false := by simp [h]
    have hv : deepC fs d = 0 := by simp [deepC, h]
    simp (config := {contextual := true, implicitDefEqProofs := false, maxSteps := 4000000}) only [go_sem, ↓reduceIte, Bool.false_eq_true, Nat.reduceEqDiff, Nat.reduceAdd, Int.reduceLE, Int.reduceLT, Int.reduceEq, Int.reduceToNat, Int.toNat_natCast, Int.cast_ofNat_Int, Int.natCast_one, Nat.reduceMod, Nat.reduceDiv, UInt8.reduceToNat, Nat.reduceLT, hx, hv]
  · have hp : 0 < fs.length := List.length_pos_iff.2 h
    have hx : decide (0 < (fs.length : Int)) = true := by simp; omega
    simp (config := {contextual := true, implicitDefEqProofs := false, maxSteps := 4000000}) only [go_sem, ↓reduceIte, Bool.false_eq_true, Nat.reduceEqDiff, Nat.reduceAdd, Int.reduceLE, Int.reduceLT, Int.reduceEq, Int.reduceToNat, Int.toNat_natCast, Int.cast_ofNat_Int, Int.natCast_one, Nat.reduceMod, Nat.reduceDiv, UInt8.reduceToNat, Nat.reduceLT, hx]
    by_cases h6 : 6 < d
    · simp [deepC, h, h6, pif]
    · simp [deepC, h, h6, pif]
theorem deepOk (N : Nat) (h : List (Nat × AObj)) : ChkOk (.func 30 [] []) deepC N h := by
  intro fs b d st K _ _ _
  simp (config := {contextual := true, implicitDefEqProofs := false, maxSteps := 4000000}) only [go_sem, ↓reduceIte, Bool.false_eq_true, Nat.reduceEqDiff, Nat.reduceAdd, Int.reduceLE, Int.reduceLT, Int.reduceEq, Int.reduceToNat, Int.toNat_natCast, Int.cast_ofNat_Int, Int.natCast_one, Nat.reduceMod, Nat.reduceDiv, UInt8.reduceToNat, Nat.reduceLT, c30]

/- twice -/
def seenL (ws : List (List UInt8)) : List (AV × AV) := ws.map fun w => (.str w, .bool true)
theorem find_seen (a : List UInt8) : ∀ ws, mapFind .str (.str a) (seenL ws) = some (if a ∈ ws then some (.bool true) else none)
  | [] => by simp [seenL, mapFind]
  | w :: ws => by
    have ih := find_seen a ws
    simp only [seenL, List.map_cons] at ih ⊢
    rw [mapFind_str, ih]
    by_cases h : a = w
    · simp [h]
    · simp [h]
theorem put_seen (a : List UInt8) : ∀ ws, a ∉ ws → mapPut .str (.str a) (.bool true) (seenL ws) = some (seenL (ws ++ [a]))
  | [], _ => by simp [seenL, mapPut]
  | w :: ws, h => by
    have h1 : a ≠ w := fun e => h (by simp [e])
    have ih := put_seen a ws (fun hm => h (by simp [hm]))
    simp only [seenL, List.map_cons, List.cons_append] at ih ⊢
    rw [mapPut_str, if_neg h1, ih]; rfl
def dupGo : List (List UInt8) → List Form → Bool
  | _, [] => false
  | ws, f :: fs => decide (f.word ∈ ws) || dupGo (ws ++ [f.word]) fs
def twiceC (fs : List Form) (_ : Int) : Int := if dupGo [] fs = true then 5 else 0
theorem l31 (b : Bool) (fs : List Form) (hcnt : fs.length ≤ 40) (M : Nat) (Q : Sig → FE → St → Prop) : ∀ (n i : Nat) (ws : List (List UInt8)) (e : FE) (st : St), i + n = fs.length → st.low = M → M < st.next → Fw.look M st.heap = some (.map (seenL ws)) →
    e 5 = .map M → e 9 = slv b fs.length (encFs fs) → e 10 = .int .i64 fs.length → e 11 = .int .i64 i →
    (dupGo ws (fs.drop i) = false → ∀ e' st', st'.low = M → Q (.exit 0) e' st') → (dupGo ws (fs.drop i) = true → ∀ e' st', st'.low = M → e' 4 = .int .i64 5 → Q .ret e' st') → WLoop cx ir31L0 e st Q
  | 0, i, ws, e, st, hi, hL, hM, hm, h5, h9, h10, h11, hT, hF => by
    refine WLoop.rnd (c := _) ir31L0.eq_1 ?_
    have hd : decide ((i : Int) < (fs.length : Int)) = false := by simp; omega
    simp (config := {contextual := true, implicitDefEqProofs := false, maxSteps := 4000000}) only [go_sem, ↓reduceIte, Bool.false_eq_true, Nat.reduceEqDiff, Nat.reduceAdd, Int.reduceLE, Int.reduceLT, Int.reduceEq, Int.reduceToNat, Int.toNat_natCast, Int.cast_ofNat_Int, Int.natCast_one, Nat.reduceMod, Nat.reduceDiv, UInt8.reduceToNat, Nat.reduceLT, h5, h9, h10, h11, hd]
    exact hT (by rw [List.drop_eq_nil_of_le (by omega)]; rfl) _ _ hL
  | n + 1, i, ws, e, st, hi, hL, hM, hm, h5, h9, h10, h11, hT, hF => by
    refine WLoop.rnd (c := _) ir31L0.eq_1 ?_
    have hd : decide ((i : Int) < (fs.length : Int)) = true := by simp; omega
    have hw := wrap_one (i := i) (by omega)
    have hlt : i < fs.length := by omega
    have hmin : min st.low st.next = st.low := by omega
    have hmin2 : min st.low M = st.low := by omega
    have hne : (st.next = M) = False := by simp; omega
    rw [List.drop_eq_getElem_cons hlt] at hT hF
    simp only [dupGo] at hT hF
    by_cases hin : fs[i].word ∈ ws
    · have hin' : (fs[i].word ∈ ws) = True := by simp [hin]
      simp (config := {contextual := true, implicitDefEqProofs := false, maxSteps := 4000000}) only [go_sem, ↓reduceIte, Bool.false_eq_true, Nat.reduceEqDiff, Nat.reduceAdd, Int.reduceLE, Int.reduceLT, Int.reduceEq, Int.reduceToNat, Int.toNat_natCast, Int.cast_ofNat_Int, Int.natCast_one, Nat.reduceMod, Nat.reduceDiv, UInt8.reduceToNat, Nat.reduceLT, h5, h9, h10, h11, hd, hw, sub_form hlt, encF_eq, hmin, hne, hm, find_seen, hin']
      refine ⟨by omega, hF (by simp [hin]) _ _ hL rfl⟩
    · have hin' : (fs[i].word ∈ ws) = False := by simp [hin]
      simp (config := {contextual := true, implicitDefEqProofs := false, maxSteps := 4000000}) only [go_sem, ↓reduceIte, Bool.false_eq_true, Nat.reduceEqDiff, Nat.reduceAdd, Int.reduceLE, Int.reduceLT, Int.reduceEq, Int.reduceToNat, Int.toNat_natCast, Int.cast_ofNat_Int, Int.natCast_one, Nat.reduceMod, Nat.reduceDiv, UInt8.reduceToNat, Nat.reduceLT, h5, h9, h10, h11, hd, hw, sub_form hlt, encF_eq, hmin, hmin2, hne, hm, find_seen, hin', put_seen _ _ hin]
      have hx : decide (fs[i].word ∈ ws) = false := by simp [hin]
      rw [hx, Bool.false_or] at hT hF
      refine ⟨by omega, ?_⟩
      refine l31 b fs hcnt M Q n (i + 1) (ws ++ [fs[i].word]) _ _ (by omega) hL (by simp only; omega) ?_ h5 h9 h10 rfl hT hF
      show Fw.look M ((st.next, _) :: put M _ st.heap) = _
      rw [Fw.look, if_neg (by omega), look_put, if_pos rfl, hm]; rfl
theorem c31 (fs : List Form) (b : Bool) (d : Int) (hcnt : fs.length ≤ 40) (s : St) (K : AV → St → Prop) : CallW cx 31 [slv b fs.length (encFs fs), .int .i64 d] s K = K (.int .i64 (twiceC fs d)) s := by
  refine CallW.eq (CallW.fn' (fn := ir31) rfl rfl (by kernel_rfl) ir31.eq_1 ?_) K
  simp (config := {contextual := true, implicitDefEqProofs := false, maxSteps := 4000000}) only [go_sem, ↓reduceIte, Bool.false_eq_true, Nat.reduceEqDiff, Nat.reduceAdd, Int.reduceLE, Int.reduceLT, Int.reduceEq, Int.reduceToNat, Int.toNat_natCast, Int.cast_ofNat_Int, Int.natCast_one, Nat.reduceMod, Nat.reduceDiv, UInt8.reduceToNat, Nat.reduceLT]
  refine l31 b fs hcnt s.next _ fs.length 0 [] _ _ (by omega) rfl (Nat.lt_succ_self _) (by simp [Fw.look, seenL]) rfl rfl rfl rfl ?_ ?_
  · intro h e' st' hl
    rw [List.drop_zero] at h
    simp (config := {contextual := true, implicitDefEqProofs := false, maxSteps := 4000000}) only [go_sem, ↓reduceIte, Bool.false_eq_true, Nat.reduceEqDiff, Nat.reduceAdd, Int.reduceLE, Int.reduceLT, Int.reduceEq, Int.reduceToNat, Int.toNat_natCast, Int.cast_ofNat_Int, Int.natCast_one, Nat.reduceMod, Nat.reduceDiv, UInt8.reduceToNat, Nat.reduceLT]
    rw [LeaveW_int _ _ (by omega)]
    exact ⟨by simp [twiceC, h], rfl⟩
  · intro h e' st' hl h4
    rw [List.drop_zero] at h
    simp (config := {contextual := true, implicitDefEqProofs := false, maxSteps := 4000000}) only [go_sem, ↓reduceIte, Bool.false_eq_true, Nat.reduceEqDiff, Nat.reduceAdd, Int.reduceLE, Int.reduceLT, Int.reduceEq, Int.reduceToNat, Int.toNat_natCast, Int.cast_ofNat_Int, Int.natCast_one, Nat.reduceMod, Nat.reduceDiv, UInt8.reduceToNat, Nat.reduceLT, h4]
    rw [LeaveW_int _ _ (by omega)]
    exact ⟨by simp [twiceC, h], rfl⟩
theorem twiceOk (N : Nat) (h : List (Nat × AObj)) : ChkOk (.func 31 [] []) twiceC N h := by
  intro fs b d st K _ hc _
  have := cntFs_length fs
  have k := fun st K => c31 fs b d (by omega) st K
  simp (config := {contextual := true, implicitDefEqProofs := false, maxSteps := 4000000}) only [go_sem, ↓reduceIte, Bool.false_eq_true, Nat.reduceEqDiff, Nat.reduceAdd, Int.reduceLE, Int.reduceLT, Int.reduceEq, Int.reduceToNat, Int.toNat_natCast, Int.cast_ofNat_Int, Int.natCast_one, Nat.reduceMod, Nat.reduceDiv, UInt8.reduceToNat, Nat.reduceLT, k]

/- each -/
def eachC (ev : Int) (good : Form → Bool) (fs : List Form) (_ : Int) : Int := if fs.all good = true then 0 else ev
def GoodOk (gf : AV) (good : Form → Bool) : Prop := ∀ (f : Form) (st : St) (K : AV → St → Prop), smallF f → FunK cx gf [.agg [.str f.word, slv f.an f.args.length (f.args.map AV.str), slv f.kn f.kids.length (encFs f.kids), .int .i64 f.least, .int .i64 f.most]] st K = K (.bool (good f)) st
theorem l50 (ev : Int) (good : Form → Bool) (gf : AV) (hg : GoodOk gf good) (hlf : gf.al (fun _ => false) = true) (b : Bool) (fs : List Form) (hsm : smallFs fs) (hcnt : fs.length ≤ 40) (p q L : Nat) (t1 t2 : Option TypeId) (Q : Sig → FE → St → Prop) :
    ∀ (n i : Nat) (e : FE) (st : St), i + n = fs.length → st.low = L → L ≤ st.next → p < st.next → q < st.next → Fw.look p st.heap = some (.cells t1 [gf]) → Fw.look q st.heap = some (.cells t2 [.int .i64 ev]) →
    e 2 = .ptr p 0 → e 3 = .ptr q 0 → e 9 = slv b fs.length (encFs fs) → e 10 = .int .i64 fs.length → e 11 = .int .i64 i →
    ((fs.drop i).all good = true → ∀ e' st', st'.low = L → Q (.exit 0) e' st') → ((fs.drop i).all good = false → ∀ e' st', st'.low = L → e' 6 = .int .i64 ev → Q .ret e' st') → WLoop cx ir50L0 e st Q
  | 0, i, e, st, hi, hL, hM, hp, hq, hpl, hql, h2, h3, h9, h10, h11, hT, hF => by
    refine WLoop.rnd (c := _) ir50L0.eq_1 ?_
    have hd : decide ((i : Int) < (fs.length : Int)) = false := by simp; omega
    simp (config := {contextual := true, implicitDefEqProofs := false, maxSteps := 4000000}) only [go_sem, ↓reduceIte, Bool.false_eq_true, Nat.reduceEqDiff, Nat.reduceAdd, Int.reduceLE, Int.reduceLT, Int.reduceEq, Int.reduceToNat, Int.toNat_natCast, Int.cast_ofNat_Int, Int.natCast_one, Nat.reduceMod, Nat.reduceDiv, UInt8.reduceToNat, Nat.reduceLT, h9, h10, h11, hd]
    exact hT (by rw [List.drop_eq_nil_of_le (by omega)]; rfl) _ _ hL
  | n + 1, i, e, st, hi, hL, hM, hp, hq, hpl, hql, h2, h3, h9, h10, h11, hT, hF => by
    refine WLoop.rnd (c := _) ir50L0.eq_1 ?_
    have hd : decide ((i : Int) < (fs.length : Int)) = true := by simp; omega
    have hw := wrap_one (i := i) (by omega)
    have hlt : i < fs.length := by omega
    have hmin : min st.low st.next = st.low := by omega
    have hne1 : (st.next = p) = False := by simp; omega
    have hne2 : (st.next = q) = False := by simp; omega
    have hgf := fun st K => hg fs[i] st K (smallFs_mem hsm _ (List.getElem_mem hlt))
    rw [List.drop_eq_getElem_cons hlt, List.all_cons] at hT hF
    cases hgd : good fs[i] with
    | true =>
      rw [hgd, Bool.true_and] at hT hF
      simp (config := {contextual := true, implicitDefEqProofs := false, maxSteps := 4000000}) only [go_sem, ↓reduceIte, Bool.false_eq_true, Nat.reduceEqDiff, Nat.reduceAdd, Int.reduceLE, Int.reduceLT, Int.reduceEq, Int.reduceToNat, Int.toNat_natCast, Int.cast_ofNat_Int, Int.natCast_one, Nat.reduceMod, Nat.reduceDiv, UInt8.reduceToNat, Nat.reduceLT, h2, h3, h9, h10, h11, hd, hw, sub_form hlt, encF_eq, hmin, hne1, hne2, hpl, hql, hgf, hgd]
      refine ⟨by omega, ?_⟩
      exact l50 ev good gf hg hlf b fs hsm hcnt p q L t1 t2 Q n (i + 1) _ _ (by omega) hL (by simp only; omega) (by simp only; omega) (by simp only; omega)
        (by simp only [Fw.look]; rw [if_neg (by omega)]; exact hpl) (by simp only [Fw.look]; rw [if_neg (by omega)]; exact hql) h2 h3 h9 h10 rfl hT hF
    | false =>
      simp (config := {contextual := true, implicitDefEqProofs := false, maxSteps := 4000000}) only [go_sem, ↓reduceIte, Bool.false_eq_true, Nat.reduceEqDiff, Nat.reduceAdd, Int.reduceLE, Int.reduceLT, Int.reduceEq, Int.reduceToNat, Int.toNat_natCast, Int.cast_ofNat_Int, Int.natCast_one, Nat.reduceMod, Nat.reduceDiv, UInt8.reduceToNat, Nat.reduceLT, h2, h3, h9, h10, h11, hd, hw, sub_form hlt, encF_eq, hmin, hne1, hne2, hpl, hql, hgf, hgd]
      exact ⟨by omega, hF (by rw [hgd]; rfl) _ _ hL rfl⟩
theorem c50 (ev : Int) (good : Form → Bool) (gf : AV) (hg : GoodOk gf good) (hlf : gf.al (fun _ => false) = true) (b : Bool) (fs : List Form) (hsm : smallFs fs) (hcnt : fs.length ≤ 40) (d : Int) (p q : Nat) (t1 t2 : Option TypeId) (s : St) (K : AV → St → Prop)
    (hp : p < s.next) (hq : q < s.next) (hpl : Fw.look p s.heap = some (.cells t1 [gf])) (hql : Fw.look q s.heap = some (.cells t2 [.int .i64 ev])) :
    CallW cx 50 [slv b fs.length (encFs fs), .int .i64 d, .ptr p 0, .ptr q 0] s K = K (.int .i64 (eachC ev good fs d)) s := by
  refine CallW.eq (CallW.fn' (fn := ir50) rfl rfl (by kernel_rfl) ir50.eq_1 ?_) K
  simp (config := {contextual := true, implicitDefEqProofs := false, maxSteps := 4000000}) only [go_sem, ↓reduceIte, Bool.false_eq_true, Nat.reduceEqDiff, Nat.reduceAdd, Int.reduceLE, Int.reduceLT, Int.reduceEq, Int.reduceToNat, Int.toNat_natCast, Int.cast_ofNat_Int, Int.natCast_one, Nat.reduceMod, Nat.reduceDiv, UInt8.reduceToNat, Nat.reduceLT]
  refine l50 ev good gf hg hlf b fs hsm hcnt p q s.next t1 t2 _ fs.length 0 _ _ (by omega) rfl (Nat.le_refl _) hp hq hpl hql rfl rfl rfl rfl rfl ?_ ?_
  · intro h e' st' hl
    rw [List.drop_zero] at h
    simp (config := {contextual := true, implicitDefEqProofs := false, maxSteps := 4000000}) only [go_sem, ↓reduceIte, Bool.false_eq_true, Nat.reduceEqDiff, Nat.reduceAdd, Int.reduceLE, Int.reduceLT, Int.reduceEq, Int.reduceToNat, Int.toNat_natCast, Int.cast_ofNat_Int, Int.natCast_one, Nat.reduceMod, Nat.reduceDiv, UInt8.reduceToNat, Nat.reduceLT]
    rw [LeaveW_int _ _ (by omega)]
    exact ⟨by simp only [eachC, h, if_true], rfl⟩
  · intro h e' st' hl h6
    rw [List.drop_zero] at h
    simp (config := {contextual := true, implicitDefEqProofs := false, maxSteps := 4000000}) only [go_sem, ↓reduceIte, Bool.false_eq_true, Nat.reduceEqDiff, Nat.reduceAdd, Int.reduceLE, Int.reduceLT, Int.reduceEq, Int.reduceToNat, Int.toNat_natCast, Int.cast_ofNat_Int, Int.natCast_one, Nat.reduceMod, Nat.reduceDiv, UInt8.reduceToNat, Nat.reduceLT, h6]
    rw [LeaveW_int _ _ (by omega)]
    exact ⟨by simp only [eachC, h, Bool.false_eq_true, if_false], rfl⟩
theorem c33 (ev : Int) (g : Nat) (s : St) (K : AV → St → Prop) : CallW cx 33 [.int .i64 ev, .func g [] []] s K =
    K (.func 50 [] [.ptr (s.next + 1) 0, .ptr s.next 0]) { heap := (s.next + 1, .cells (some 61) [.func g [] []]) :: (s.next, .cells (some 28) [.int .i64 ev]) :: s.heap, next := s.next + 2, low := min s.low s.next } := by
  refine CallW.eq (CallW.fn' (fn := ir33) rfl rfl (by kernel_rfl) ir33.eq_1 ?_) K
  simp (config := {contextual := true, implicitDefEqProofs := false, maxSteps := 4000000}) only [go_sem, ↓reduceIte, Bool.false_eq_true, Nat.reduceEqDiff, Nat.reduceAdd, Int.reduceLE, Int.reduceLT, Int.reduceEq, Int.reduceToNat, Int.toNat_natCast, Int.cast_ofNat_Int, Int.natCast_one, Nat.reduceMod, Nat.reduceDiv, UInt8.reduceToNat, Nat.reduceLT]
  rw [LeaveW_new rfl (by simp [AV.al, alAll, below])]
  exact ⟨rfl, rfl⟩
theorem good34 : GoodOk (.func 34 [] []) (fun f => nameB f.word) := by
  intro f st K _
  simp (config := {contextual := true, implicitDefEqProofs := false, maxSteps := 4000000}) only [go_sem, ↓reduceIte, Bool.false_eq_true, Nat.reduceEqDiff, Nat.reduceAdd, Int.reduceLE, Int.reduceLT, Int.reduceEq, Int.reduceToNat, Int.toNat_natCast, Int.cast_ofNat_Int, Int.natCast_one, Nat.reduceMod, Nat.reduceDiv, UInt8.reduceToNat, Nat.reduceLT, c34]
theorem good36 : GoodOk (.func 36 [] []) kindsF := by
  intro f st K hs
  rw [smallF_eq] at hs
  have k := fun st K => c36 f hs.2.1 hs.2.2.1 st K
  simp (config := {contextual := true, implicitDefEqProofs := false, maxSteps := 4000000}) only [go_sem, ↓reduceIte, Bool.false_eq_true, Nat.reduceEqDiff, Nat.reduceAdd, Int.reduceLE, Int.reduceLT, Int.reduceEq, Int.reduceToNat, Int.toNat_natCast, Int.cast_ofNat_Int, Int.natCast_one, Nat.reduceMod, Nat.reduceDiv, UInt8.reduceToNat, Nat.reduceLT, k]
theorem good32 : GoodOk (.func 32 [] []) limitsF := by
  intro f st K _
  simp (config := {contextual := true, implicitDefEqProofs := false, maxSteps := 4000000}) only [go_sem, ↓reduceIte, Bool.false_eq_true, Nat.reduceEqDiff, Nat.reduceAdd, Int.reduceLE, Int.reduceLT, Int.reduceEq, Int.reduceToNat, Int.toNat_natCast, Int.cast_ofNat_Int, Int.natCast_one, Nat.reduceMod, Nat.reduceDiv, UInt8.reduceToNat, Nat.reduceLT, c32]
theorem eachOk (ev : Int) (good : Form → Bool) (g : Nat) (hg : GoodOk (.func g [] []) good) (p q N : Nat) (t1 t2 : Option TypeId) (h : List (Nat × AObj)) (hp : p < N) (hq : q < N) (hpl : Fw.look p h = some (.cells t1 [.func g [] []])) (hql : Fw.look q h = some (.cells t2 [.int .i64 ev])) :
    ChkOk (.func 50 [] [.ptr p 0, .ptr q 0]) (eachC ev good) N h := by
  intro fs b d st K hsm hc hS
  have := cntFs_length fs
  have k := fun K => c50 ev good (.func g [] []) hg rfl b fs hsm (by omega) d p q t1 t2 st K (by have := hS.1; omega) (by have := hS.1; omega) (by rw [hS.2 p hp]; exact hpl) (by rw [hS.2 q hq]; exact hql)
  simp (config := {contextual := true, implicitDefEqProofs := false, maxSteps := 4000000}) only [go_sem, ↓reduceIte, Bool.false_eq_true, Nat.reduceEqDiff, Nat.reduceAdd, Int.reduceLE, Int.reduceLT, Int.reduceEq, Int.reduceToNat, Int.toNat_natCast, Int.cast_ofNat_Int, Int.natCast_one, Nat.reduceMod, Nat.reduceDiv, UInt8.reduceToNat, Nat.reduceLT, k]
end T10
