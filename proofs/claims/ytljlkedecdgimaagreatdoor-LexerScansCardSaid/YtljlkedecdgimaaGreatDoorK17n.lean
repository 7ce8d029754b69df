/- Parts of the proof, one behind the other. -/
import Derived.Test.YtljlkedecdgimaaGreatDoorK17a
import Derived.Test.YtljlkedecdgimaaGreatDoorK17t
import Derived.Test.YtljlkedecdgimaaGreatDoorK17aw
import Derived.Test.YtljlkedecdgimaaGreatDoorK17d
import Derived.Test.YtljlkedecdgimaaGreatDoorRows
set_option linter.unusedSimpArgs false
set_option linter.unusedVariables false
/- Valid: the walk. -/
namespace T17
open Go Fw Go.Proofs
set_option maxRecDepth 100000
set_option maxHeartbeats 4000000
set_option linter.unusedSimpArgs false
set_option linter.unusedVariables false
abbrev tokO (t : Tok) : AV := .agg [.int .i64 t.k, .str t.t, .int .i64 t.n, .int .i64 t.p]
/-- Whether a token is possible. -/
def validB (t : Tok) : Bool :=
  if t.k = 2 then decide (t.t = []) && (decide (-1000000000000 ≤ t.n) && decide (t.n ≤ 1000000000000))
  else if t.k = 4 then decide (t.t = []) && (decide (0 ≤ t.n) && decide (t.n < 1440))
  else if t.k = 3 then decide (t.n = 0) && labB t.t
  else if t.k = 1 ∨ t.k = 5 ∨ t.k = 6 then decide (t.n = 0) && (decide (t.t ≠ []) && (decide ((nextB t.t 0).2.2 = 0) && (decide ((nextB t.t 0).2.1 = t.t.length) && decide ((nextB t.t 0).1.k = t.k))))
  else false
theorem c12 (t : Tok) (hl : t.t.length ≤ 1100000) (s : St) (K : AV → St → Prop) : CallW cx 12 [tokO t] s K = K (.bool (validB t)) s := by
  refine CallW.eq (CallW.fn' (fn := ir12) rfl rfl (by kernel_rfl) ir12.eq_1 ?_) K
  obtain ⟨k, a, n, p⟩ := t
  simp only at hl
  unfold validB
  simp only
  by_cases h2 : k = 2
  · subst h2
    rw [if_pos rfl]
    cases e1 : decide (a = []) <;> cases e2 : decide (-1000000000000 ≤ n) <;> cases e3 : decide (n ≤ 1000000000000) <;> simp (config := {contextual := true, implicitDefEqProofs := false, maxSteps := 4000000}) only [go_sem, ↓reduceIte, Bool.false_eq_true, Nat.reduceEqDiff, Nat.reduceAdd, Int.reduceLE, Int.reduceLT, Int.reduceEq, Int.reduceToNat, Int.toNat_natCast, Int.cast_ofNat_Int, Int.natCast_one, Nat.reduceMod, Nat.reduceDiv, UInt8.reduceToNat, Nat.reduceLT, e1, e2, e3, show decide ((2 : Int) = 2) = true from rfl]
  rw [if_neg h2]
  have d2 : decide (k = 2) = false := decide_eq_false h2
  by_cases h4 : k = 4
  · subst h4
    rw [if_pos rfl]
    cases e1 : decide (a = []) <;> cases e2 : decide (0 ≤ n) <;> cases e3 : decide (n < 1440) <;> simp (config := {contextual := true, implicitDefEqProofs := false, maxSteps := 4000000}) only [go_sem, ↓reduceIte, Bool.false_eq_true, Nat.reduceEqDiff, Nat.reduceAdd, Int.reduceLE, Int.reduceLT, Int.reduceEq, Int.reduceToNat, Int.toNat_natCast, Int.cast_ofNat_Int, Int.natCast_one, Nat.reduceMod, Nat.reduceDiv, UInt8.reduceToNat, Nat.reduceLT, d2, e1, e2, e3, show decide ((4 : Int) = 2) = false from rfl, show decide ((4 : Int) = 4) = true from rfl]
  rw [if_neg h4]
  have d4 : decide (k = 4) = false := decide_eq_false h4
  by_cases h3 : k = 3
  · subst h3
    rw [if_pos rfl]
    have kl := fun st K => c20 a (by omega) st K
    cases e1 : decide (n = 0) <;> simp (config := {contextual := true, implicitDefEqProofs := false, maxSteps := 4000000}) only [go_sem, ↓reduceIte, Bool.false_eq_true, Nat.reduceEqDiff, Nat.reduceAdd, Int.reduceLE, Int.reduceLT, Int.reduceEq, Int.reduceToNat, Int.toNat_natCast, Int.cast_ofNat_Int, Int.natCast_one, Nat.reduceMod, Nat.reduceDiv, UInt8.reduceToNat, Nat.reduceLT, e1, kl, show decide ((3 : Int) = 2) = false from rfl, show decide ((3 : Int) = 4) = false from rfl, show decide ((3 : Int) = 3) = true from rfl]
  rw [if_neg h3]
  have d3 : decide (k = 3) = false := decide_eq_false h3
  have hrest : k = 1 ∨ k = 5 ∨ k = 6 → ∀ e : FE, True := fun _ _ => trivial
  by_cases hk : k = 1 ∨ k = 5 ∨ k = 6
  · rw [if_pos hk]
    have dn : decide (n ≠ 0) = !decide (n = 0) := by simp
    by_cases e1 : n = 0
    case neg =>
      rw [decide_eq_false e1] at dn
      rw [decide_eq_false e1]
      rcases hk with rfl | rfl | rfl
      all_goals simp (config := {contextual := true, implicitDefEqProofs := false, maxSteps := 4000000}) only [go_sem, ↓reduceIte, Bool.false_eq_true, Nat.reduceEqDiff, Nat.reduceAdd, Int.reduceLE, Int.reduceLT, Int.reduceEq, Int.reduceToNat, Int.toNat_natCast, Int.cast_ofNat_Int, Int.natCast_one, Nat.reduceMod, Nat.reduceDiv, UInt8.reduceToNat, Nat.reduceLT, dn, show decide ((1 : Int) = 2) = false from rfl, show decide ((1 : Int) = 4) = false from rfl, show decide ((1 : Int) = 3) = false from rfl, show decide ((1 : Int) = 1) = true from rfl, show decide ((5 : Int) = 2) = false from rfl, show decide ((5 : Int) = 4) = false from rfl, show decide ((5 : Int) = 3) = false from rfl, show decide ((5 : Int) = 1) = false from rfl, show decide ((5 : Int) = 5) = true from rfl, show decide ((6 : Int) = 2) = false from rfl, show decide ((6 : Int) = 4) = false from rfl, show decide ((6 : Int) = 3) = false from rfl, show decide ((6 : Int) = 1) = false from rfl, show decide ((6 : Int) = 5) = false from rfl, show decide ((6 : Int) = 6) = true from rfl]
    rw [decide_eq_true e1] at dn
    rw [decide_eq_true e1]
    by_cases e2 : a = []
    · have x2 : decide (a = []) = true := decide_eq_true e2
      rw [decide_eq_false (show ¬ a ≠ [] by simp [e2])]
      rcases hk with rfl | rfl | rfl
      all_goals simp (config := {contextual := true, implicitDefEqProofs := false, maxSteps := 4000000}) only [go_sem, ↓reduceIte, Bool.false_eq_true, Nat.reduceEqDiff, Nat.reduceAdd, Int.reduceLE, Int.reduceLT, Int.reduceEq, Int.reduceToNat, Int.toNat_natCast, Int.cast_ofNat_Int, Int.natCast_one, Nat.reduceMod, Nat.reduceDiv, UInt8.reduceToNat, Nat.reduceLT, dn, x2, show decide ((1 : Int) = 2) = false from rfl, show decide ((1 : Int) = 4) = false from rfl, show decide ((1 : Int) = 3) = false from rfl, show decide ((1 : Int) = 1) = true from rfl, show decide ((5 : Int) = 2) = false from rfl, show decide ((5 : Int) = 4) = false from rfl, show decide ((5 : Int) = 3) = false from rfl, show decide ((5 : Int) = 1) = false from rfl, show decide ((5 : Int) = 5) = true from rfl, show decide ((6 : Int) = 2) = false from rfl, show decide ((6 : Int) = 4) = false from rfl, show decide ((6 : Int) = 3) = false from rfl, show decide ((6 : Int) = 1) = false from rfl, show decide ((6 : Int) = 5) = false from rfl, show decide ((6 : Int) = 6) = true from rfl]
    have x2 : decide (a = []) = false := decide_eq_false e2
    rw [decide_eq_true (show a ≠ [] from e2)]
    have hpos : 0 < a.length := List.length_pos_iff.2 e2
    have kx : ∀ st K, CallW cx 26 [.str a, .int .i64 0] st K = K (nxo (nextB a 0)) st := fun st K => c26 a hl 0 hpos st K
    generalize nextB a 0 = x at *
    obtain ⟨⟨x1, x2', x3, x4⟩, x5, x6⟩ := x
    simp only [nxo] at kx ⊢
    have x7 : decide ((x5 : Int) = (a.length : Int)) = decide (x5 = a.length) := decide_eq_decide.2 (by omega)
    rcases hk with rfl | rfl | rfl
    all_goals cases y1 : decide (x6 = 0) <;> cases y2 : decide (x5 = a.length) <;> (rw [y2] at x7; simp (config := {contextual := true, implicitDefEqProofs := false, maxSteps := 4000000}) only [go_sem, ↓reduceIte, Bool.false_eq_true, Nat.reduceEqDiff, Nat.reduceAdd, Int.reduceLE, Int.reduceLT, Int.reduceEq, Int.reduceToNat, Int.toNat_natCast, Int.cast_ofNat_Int, Int.natCast_one, Nat.reduceMod, Nat.reduceDiv, UInt8.reduceToNat, Nat.reduceLT, dn, x2, kx, y1, x7, show decide ((1 : Int) = 2) = false from rfl, show decide ((1 : Int) = 4) = false from rfl, show decide ((1 : Int) = 3) = false from rfl, show decide ((1 : Int) = 1) = true from rfl, show decide ((5 : Int) = 2) = false from rfl, show decide ((5 : Int) = 4) = false from rfl, show decide ((5 : Int) = 3) = false from rfl, show decide ((5 : Int) = 1) = false from rfl, show decide ((5 : Int) = 5) = true from rfl, show decide ((6 : Int) = 2) = false from rfl, show decide ((6 : Int) = 4) = false from rfl, show decide ((6 : Int) = 3) = false from rfl, show decide ((6 : Int) = 1) = false from rfl, show decide ((6 : Int) = 5) = false from rfl, show decide ((6 : Int) = 6) = true from rfl])
  rw [if_neg hk]
  have d1 : decide (k = 1) = false := decide_eq_false (fun h => hk (.inl h))
  have d5 : decide (k = 5) = false := decide_eq_false (fun h => hk (.inr (.inl h)))
  have d6 : decide (k = 6) = false := decide_eq_false (fun h => hk (.inr (.inr h)))
  simp (config := {contextual := true, implicitDefEqProofs := false, maxSteps := 4000000}) only [go_sem, ↓reduceIte, Bool.false_eq_true, Nat.reduceEqDiff, Nat.reduceAdd, Int.reduceLE, Int.reduceLT, Int.reduceEq, Int.reduceToNat, Int.toNat_natCast, Int.cast_ofNat_Int, Int.natCast_one, Nat.reduceMod, Nat.reduceDiv, UInt8.reduceToNat, Nat.reduceLT, d1, d2, d3, d4, d5, d6]
end T17

/- A token looks at its own run only: what stands behind a blank or a sign # changes nothing, nor what stands ahead. -/
namespace T17
open Go Fw Go.Proofs
set_option maxRecDepth 100000
theorem run_full (p : Nat → Bool) : ∀ k i, (∀ j, i ≤ j → j < i + k → p j = true) → runI p k i = i + k
  | 0, i, _ => rfl
  | k + 1, i, h => by
    simp only [runI]
    rw [if_pos (h i (Nat.le_refl _) (by omega)), run_full p k (i + 1) (fun j h1 h2 => h j (by omega) (by omega))]
    omega
theorem getD_left (a c : List UInt8) (i : Nat) (h : i < a.length) : (a ++ c).getD i 0 = a.getD i 0 := by
  simp [List.getD, List.getElem?_append_left h]
theorem getD_right (a c : List UInt8) (i : Nat) : (a ++ c).getD (a.length + i) 0 = c.getD i 0 := by
  simp [List.getD, List.getElem?_append_right]
theorem run_ext (p q : Nat → Bool) : ∀ (n m i : Nat), (∀ j, i ≤ j → j < i + n → p j = q j) → n ≤ m → (n < m → q (i + n) = false) → runI q m i = runI p n i
  | 0, m, i, _, _, h => by
    cases m with
    | zero => rfl
    | succ m =>
      have := h (by omega)
      simp only [runI]
      rw [if_neg (by rw [Nat.add_zero] at this; simp [this])]
  | n + 1, 0, i, _, h, _ => by omega
  | n + 1, m + 1, i, h1, h2, h3 => by
    simp only [runI]
    rw [h1 i (Nat.le_refl _) (by omega)]
    split
    · exact run_ext p q n m (i + 1) (fun j a b => h1 j (by omega) (by omega)) (by omega) (fun h => by rw [show i + 1 + n = i + (n + 1) by omega]; exact h3 (by omega))
    · rfl
theorem run_shift (p q : Nat → Bool) (d : Nat) : ∀ (n i : Nat), (∀ j, i ≤ j → j < i + n → q (d + j) = p j) → runI q n (d + i) = d + runI p n i
  | 0, i, _ => rfl
  | n + 1, i, h => by
    simp only [runI]
    rw [h i (Nat.le_refl _) (by omega)]
    split
    · rw [Nat.add_assoc]
      exact run_shift p q d n (i + 1) (fun j a b => h j (by omega) (by omega))
    · rfl
theorem cut_ext (a c : List UInt8) (i j : Nat) (h : j ≤ a.length) : cut (a ++ c) (i : Int) (j : Int) = cut a (i : Int) (j : Int) := by
  unfold cut
  simp only [Int.toNat_natCast]
  by_cases hi : i ≤ a.length
  · rw [List.drop_append_of_le_length hi, List.take_append_of_le_length (by rw [List.length_drop]; omega)]
  · rw [show j - i = 0 by omega]; simp
theorem cut_shift (a c : List UInt8) (i j : Nat) : cut (a ++ c) ((a.length + i : Nat) : Int) ((a.length + j : Nat) : Int) = cut c (i : Int) (j : Int) := by
  unfold cut
  simp only [Int.toNat_natCast]
  rw [List.drop_append, List.drop_eq_nil_of_le (by omega), List.nil_append]
  rw [show a.length + i - a.length = i by omega, show a.length + j - (a.length + i) = j - i by omega]
/-- What may stand behind a token: nothing, a blank, the sign #. -/
def sepB (c : List UInt8) : Prop := c.getD 0 0 = 0 ∨ c.getD 0 0 = 32 ∨ c.getD 0 0 = 35
theorem sep_facts {c : List UInt8} (h : sepB c) : isWd (c.getD 0 0) = false ∧ isD (c.getD 0 0) = false ∧ decide (0 ≤ findByte (c.getD 0 0) [45, 42, 46] 0) = false ∧ c.getD 0 0 ≠ 58 := by
  rcases h with h | h | h <;> (rw [h]; exact ⟨rfl, rfl, rfl, by decide⟩)
theorem bel_ext (a c : List UInt8) (hc : sepB c) (s j : Nat) (hj : j < a.length) : belB a s j = belB (a ++ c) s j := by
  unfold belB
  rw [getD_left a c j hj, getD_left a c (j - 1) (by omega)]
  by_cases h : j + 1 < a.length
  · rw [getD_left a c (j + 1) h, decide_eq_true h, decide_eq_true (show j + 1 < (a ++ c).length by rw [List.length_append]; omega)]
  · have h2 := getD_right a c 0
    rw [Nat.add_zero] at h2
    rw [decide_eq_false h, show j + 1 = a.length by omega, h2, (sep_facts hc).2.1]
    simp
theorem bel_sep (a c : List UInt8) (hc : sepB c) (s : Nat) : belB (a ++ c) s a.length = false := by
  have h2 := getD_right a c 0
  rw [Nat.add_zero] at h2
  obtain ⟨_, h3, h4, h5⟩ := sep_facts hc
  unfold belB
  rw [h2, h3, h4, decide_eq_false h5]
  rfl
theorem fend_ext (a c : List UInt8) (hc : sepB c) (i : Nat) (hi : i ≤ a.length) : fend (a ++ c) i = fend a i := by
  unfold fend
  refine run_ext _ _ _ _ _ (fun j _ h2 => bel_ext a c hc i j (by omega)) (by rw [List.length_append]; omega) (fun _ => ?_)
  rw [show i + (a.length - i) = a.length by omega]
  exact bel_sep a c hc i
theorem wd_ext (a c : List UInt8) (hc : sepB c) (i : Nat) (hi : i ≤ a.length) : runB isWd (a ++ c) i = runB isWd a i := by
  unfold runB
  refine run_ext _ _ _ _ _ (fun j _ h2 => by rw [getD_left a c j (by omega)]) (by rw [List.length_append]; omega) (fun _ => ?_)
  have h2 := getD_right a c 0
  rw [Nat.add_zero] at h2
  rw [show i + (a.length - i) = a.length by omega, h2]
  exact (sep_facts hc).1
theorem runB_le (q : UInt8 → Bool) (a : List UInt8) (i : Nat) (h : i ≤ a.length) : i ≤ runB q a i ∧ runB q a i ≤ a.length := by
  have := runI_le (fun j => q (a.getD j 0)) (a.length - i) i
  unfold runB
  omega
theorem fend_le (a : List UInt8) (i : Nat) (h : i ≤ a.length) : i ≤ fend a i ∧ fend a i ≤ a.length := by
  have := runI_le (belB a i) (a.length - i) i
  unfold fend
  omega
/-- What stands behind a token changes nothing. -/
theorem next_ext (a c : List UInt8) (hc : sepB c) (i : Nat) (hi : i < a.length) (hq : a.getD i 0 ≠ 34) : nextB (a ++ c) i = nextB a i := by
  unfold nextB
  rw [getD_left a c i hi]
  split
  · unfold wordB
    rw [wd_ext a c hc i (by omega), cut_ext a c i (runB isWd a i) (runB_le isWd a i (by omega)).2]
  split
  · unfold numB
    rw [fend_ext a c hc i (by omega), cut_ext a c i (fend a i) (fend_le a i (by omega)).2]
  rw [decide_eq_false hq]
  simp only [if_false, Bool.false_eq_true]
  rw [cut_ext a c i (i + 1) (by omega)]
/-- What stands ahead of a token changes its place only. -/
theorem next_shift (a c : List UInt8) (i : Nat) (t : Tok) (e : Nat) (h : nextB c i = (t, e, 0)) : nextB (a ++ c) (a.length + i) = (t, a.length + e, 0) := by
  unfold nextB at h ⊢
  rw [getD_right a c i]
  by_cases h1 : isLet (c.getD i 0) = true
  · rw [if_pos h1] at h ⊢
    unfold wordB at h ⊢
    have hr : runB isWd (a ++ c) (a.length + i) = a.length + runB isWd c i := by
      unfold runB
      rw [show (a ++ c).length - (a.length + i) = c.length - i by rw [List.length_append]; omega]
      exact run_shift _ _ _ _ _ (fun j _ _ => by rw [getD_right])
    rw [hr, cut_shift, show a.length + runB isWd c i - (a.length + i) = runB isWd c i - i by omega]
    split at h
    · simp at h
    · rename_i h9
      rw [if_neg h9]
      simp only [Prod.mk.injEq] at h ⊢
      exact ⟨h.1, by omega, trivial⟩
  rw [if_neg h1] at h ⊢
  by_cases h2 : (isD (c.getD i 0) || (decide (c.getD i 0 = 45) || decide (c.getD i 0 = 42))) = true
  · rw [if_pos h2] at h ⊢
    unfold numB at h ⊢
    have hr : fend (a ++ c) (a.length + i) = a.length + fend c i := by
      unfold fend
      rw [show (a ++ c).length - (a.length + i) = c.length - i by rw [List.length_append]; omega]
      refine run_shift _ _ _ _ _ (fun j h3 _ => ?_)
      unfold belB
      rw [getD_right, show a.length + j + 1 = a.length + (j + 1) by omega, getD_right]
      rw [show decide (a.length + i < a.length + j) = decide (i < j) from decide_eq_decide.2 (by omega)]
      rw [show decide (a.length + (j + 1) < (a ++ c).length) = decide (j + 1 < c.length) from decide_eq_decide.2 (by rw [List.length_append]; omega)]
      by_cases h4 : i < j
      · rw [show a.length + j - 1 = a.length + (j - 1) by omega, getD_right]
      · rw [decide_eq_false h4]; simp
    rw [hr, cut_shift]
    simp only [Prod.mk.injEq] at h ⊢
    exact ⟨h.1, by omega, h.2.2⟩
  rw [if_neg h2] at h ⊢
  by_cases h3 : decide (c.getD i 0 = 34) = true
  · rw [if_pos h3] at h ⊢
    unfold textB at h ⊢
    have hd : (a ++ c).drop (a.length + i + 1) = c.drop (i + 1) := by
      rw [List.drop_append, List.drop_eq_nil_of_le (by omega), List.nil_append]
      congr 1; omega
    rw [hd]
    rcases findByte_spec 34 (c.drop (i + 1)) 0 with hf | ⟨n, hf, _, hn⟩
    · rw [hf] at h; cases congrArg (fun x => x.2.2) h
    · rw [hf] at h ⊢
      simp only at h ⊢
      rw [show a.length + i + 1 = a.length + (i + 1) by omega, show a.length + (i + 1) + n = a.length + (i + 1 + n) by omega, cut_shift]
      split at h
      · rename_i p1
        rw [if_pos p1]
        split at h
        · rename_i p2
          rw [if_pos p2]
          simp only [Prod.mk.injEq] at h ⊢
          exact ⟨h.1, by omega, trivial⟩
        · simp at h
      · simp at h
  rw [if_neg h3] at h ⊢
  split at h
  · rename_i p1
    rw [if_pos p1, show a.length + i + 1 = a.length + (i + 1) by omega, cut_shift]
    simp only [Prod.mk.injEq] at h ⊢
    exact ⟨h.1, by omega, trivial⟩
  · simp at h
end T17

/- Blanks and a comment behind a line change neither tokens nor faults: the plain law. -/
namespace T17
open Go Fw Go.Proofs
set_option maxRecDepth 100000
theorem run_unique (p : Nat → Bool) : ∀ (k i r : Nat), i ≤ r → r ≤ i + k → (∀ j, i ≤ j → j < r → p j = true) → (r < i + k → p r = false) → runI p k i = r
  | 0, i, r, h1, h2, _, _ => by simp only [runI]; omega
  | k + 1, i, r, h1, h2, h3, h4 => by
    simp only [runI]
    by_cases hr : r = i
    · subst hr
      rw [if_neg (by simp [h4 (by omega)])]
    · rw [if_pos (h3 i (Nat.le_refl _) (by omega))]
      exact run_unique p k (i + 1) r (by omega) (by omega) (fun j a b => h3 j (by omega) b) (fun h => h4 (by omega))
/-- Blanks, perhaps a comment. -/
def tlB (n : Nat) (o : Option (List UInt8)) : List UInt8 := List.replicate n 32 ++ (match o with | none => [] | some c => 35 :: c)
theorem tl_lt (n : Nat) (o : Option (List UInt8)) (j : Nat) (h : j < n) : (tlB n o).getD j 0 = 32 := by
  unfold tlB
  rw [getD_left _ _ _ (by rw [List.length_replicate]; exact h)]
  simp [List.getD, h]
theorem tl_at (n : Nat) (o : Option (List UInt8)) : (tlB n o).getD n 0 = (match o with | none => 0 | some _ => 35) := by
  unfold tlB
  have := getD_right (List.replicate n 32) (match o with | none => [] | some c => 35 :: c) 0
  rw [List.length_replicate, Nat.add_zero] at this
  rw [this]
  cases o <;> rfl
theorem tl_len (n : Nat) (o : Option (List UInt8)) : (tlB n o).length = n + (match o with | none => 0 | some c => c.length + 1) := by
  unfold tlB
  rw [List.length_append, List.length_replicate]
  cases o <;> rfl
theorem tl_sep (n : Nat) (o : Option (List UInt8)) : sepB (tlB n o) := by
  cases n with
  | zero =>
    unfold sepB
    rw [tl_at 0 o]
    cases o
    · exact .inl rfl
    · exact .inr (.inr rfl)
  | succ n => exact .inr (.inl (tl_lt _ o 0 (by omega)))
theorem blk_facts (a : List UInt8) (i : Nat) (h : i ≤ a.length) : (∀ j, i ≤ j → j < blk a i → a.getD j 0 = 32) ∧ (blk a i < a.length → a.getD (blk a i) 0 ≠ 32) := by
  obtain ⟨h1, h2⟩ := runI_all (fun j => (fun b => decide (b = 32)) (a.getD j 0)) (a.length - i) i
  refine ⟨fun j a1 a2 => of_decide_eq_true (h1 j a1 a2), fun h3 => of_decide_eq_false (h2 (by unfold blk runB at h3; omega))⟩
theorem blk_eq (a : List UInt8) (i r : Nat) (h1 : i ≤ r) (h2 : r ≤ a.length) (h3 : ∀ j, i ≤ j → j < r → a.getD j 0 = 32) (h4 : r < a.length → a.getD r 0 ≠ 32) : blk a i = r := by
  unfold blk runB
  exact run_unique _ _ _ _ h1 (by omega) (fun j a b => decide_eq_true (h3 j a b)) (fun h => decide_eq_false (h4 (by omega)))
theorem blk_ext (a : List UInt8) (n : Nat) (o : Option (List UInt8)) (i : Nat) (hi : i ≤ a.length) : blk (a ++ tlB n o) i = if blk a i < a.length then blk a i else a.length + n := by
  obtain ⟨h1, h2⟩ := blk_facts a i hi
  obtain ⟨h3, h4⟩ := blk_le a i hi
  have ht := tl_len n o
  split
  · rename_i h
    refine blk_eq _ _ _ h3 (by rw [List.length_append]; omega) (fun j a1 a2 => ?_) (fun _ => ?_)
    · rw [getD_left _ _ _ (by omega)]; exact h1 j a1 a2
    · rw [getD_left _ _ _ h]; exact h2 h
  · rename_i h
    refine blk_eq _ _ _ (by omega) (by rw [List.length_append]; omega) (fun j a1 a2 => ?_) (fun _ => ?_)
    · by_cases hj : j < a.length
      · rw [getD_left _ _ _ hj]; exact h1 j a1 (by omega)
      · rw [show j = a.length + (j - a.length) by omega, getD_right, tl_lt n o _ (by omega)]
    · rw [getD_right, tl_at]
      cases o with
      | none => exact (by decide : (0 : UInt8) ≠ 32)
      | some c => exact (by decide : (35 : UInt8) ≠ 32)
theorem scanL_tl (a : List UInt8) (n : Nat) (o : Option (List UInt8)) (m : Nat) (ts : List Tok) : scanL (a ++ tlB n o) (m + 1) (a.length + n) ts = .inl (ts, o.getD []) := by
  have ht := tl_len n o
  simp only [scanL]
  rw [getD_right, tl_at]
  cases o with
  | none => rw [if_pos (by rw [List.length_append, ht]; simp)]; rfl
  | some c =>
    rw [if_neg (by rw [List.length_append, ht]; simp only; omega), if_pos rfl]
    congr 2
    unfold tlB
    rw [List.drop_append, List.drop_eq_nil_of_le (by omega), List.nil_append, show a.length + n + 1 - a.length = n + 1 by omega]
    rw [List.drop_append, List.drop_eq_nil_of_le (by rw [List.length_replicate]; omega), List.nil_append, List.length_replicate, show n + 1 - n = 1 by omega]
    rfl
theorem getD_mem (a : List UInt8) (i : Nat) (h : i < a.length) : a.getD i 0 ∈ a := by
  have : a.getD i 0 = a[i] := by simp [List.getD, h]
  rw [this]; exact List.getElem_mem h
theorem scanL_ext (a : List UInt8) (n : Nat) (o : Option (List UInt8)) (ha : ∀ b ∈ a, b ≠ 35 ∧ b ≠ 34) : ∀ (k m i : Nat) (ts : List Tok), a.length < i + k → a.length < i + m → i ≤ a.length →
    scanL (a ++ tlB n o) m (if i < a.length then i else a.length + n) ts = (match scanL a k i ts with | .inl (us, _) => .inl (us, o.getD []) | .inr e => .inr e)
  | 0, m, i, ts, h1, h2, h3 => by omega
  | k + 1, 0, i, ts, h1, h2, h3 => by omega
  | k + 1, m + 1, i, ts, h1, h2, h3 => by
    by_cases hi : i < a.length
    · rw [if_pos hi]
      obtain ⟨g1, g2⟩ := ha _ (getD_mem a i hi)
      simp only [scanL]
      rw [getD_left a _ i hi, next_ext a _ (tl_sep n o) i hi g2, if_neg (by rw [List.length_append]; omega), if_neg g1, if_neg (by omega : ¬ a.length ≤ i), if_neg g1]
      split
      · rfl
      split
      · rfl
      rename_i h4
      obtain ⟨e1, e2⟩ := nextB_end a i hi (by simpa using h4)
      rw [blk_ext a n o _ e2]
      obtain ⟨b1, b2⟩ := blk_le a _ e2
      have ih := scanL_ext a n o ha k m (blk a (nextB a i).2.1) (ts ++ [{ (nextB a i).1 with p := ((i + 1 : Nat) : Int) }]) (by omega) (by omega) b2
      exact ih
    · rw [if_neg hi, scanL_tl]
      simp only [scanL]
      rw [if_pos (by omega)]
theorem scanL_err (a : List UInt8) : ∀ (k i : Nat) (ts : List Tok) (er : Int) (j : Nat), scanL a k i ts = .inr (er, j) → er ≠ 0
  | 0, i, ts, er, j, h => by simp [scanL] at h
  | k + 1, i, ts, er, j, h => by
    simp only [scanL] at h
    split at h
    · cases h
    split at h
    · cases h
    split at h
    · cases h; decide
    split at h
    · rename_i h2
      cases h
      exact h2
    · exact scanL_err a k _ _ er j h
/-- The result with another comment, if there's no fault. -/
def withC (c : List UInt8) (x : Sc × Int × Int) : Sc × Int × Int := if x.2.1 = 0 then (⟨x.1.ind, x.1.ts, x.1.head, c⟩, x.2.1, x.2.2) else x
theorem endB_com (n : Int) (ts : List Tok) (c d : List UInt8) : endB n ts c = withC c (endB n ts d) := by
  unfold endB withC
  split
  · split
    · rfl
    · rfl
  · rfl
theorem scan_ext (a : List UInt8) (n : Nat) (o : Option (List UInt8)) (ha : ∀ b ∈ a, b ≠ 35 ∧ b ≠ 34) (hl : (a ++ tlB n o).length ≤ 1000) : scanB (a ++ tlB n o) = withC (o.getD []) (scanB a) := by
  have hl2 : a.length ≤ 1000 := by rw [List.length_append] at hl; omega
  obtain ⟨b1, b2⟩ := blk_le a 0 (Nat.zero_le _)
  have ht := tl_len n o
  have hb := blk_ext a n o 0 (Nat.zero_le _)
  have hbb : blk a (blk a 0) = blk a 0 := blk_eq a _ _ (Nat.le_refl _) b2 (fun j h1 h2 => by omega) (blk_facts a 0 (Nat.zero_le _)).2
  have hf : firstI (a ++ tlB n o) = firstI a := by
    unfold firstI
    rw [hb]
    by_cases h : blk a 0 < a.length
    · rw [if_pos h, getD_left _ _ _ h, List.length_append]
      have h2 := (ha _ (getD_mem a _ h)).1
      rw [if_pos ⟨by omega, h2⟩, if_pos ⟨h, h2⟩]
    · have hr : ¬ (blk a 0 < a.length ∧ a.getD (blk a 0) 0 ≠ 35) := fun h2 => h h2.1
      rw [if_neg h, if_neg hr, getD_right, tl_at]
      cases o with
      | none => exact if_neg (fun h2 => by have := h2.1; rw [List.length_append, ht] at this; simp at this)
      | some c => exact if_neg (fun h2 => h2.2 rfl)
  have hc : blk (a ++ tlB n o) (blk (a ++ tlB n o) 0) = if blk a 0 < a.length then blk a 0 else a.length + n := by
    rw [hb]
    split
    · rename_i h
      rw [blk_ext a n o _ b2, hbb, if_pos h]
    · refine blk_eq _ _ _ (Nat.le_refl _) (by rw [List.length_append]; omega) (fun j h1 h2 => by omega) (fun _ => ?_)
      rw [getD_right, tl_at]
      cases o with
      | none => exact (by decide : (0 : UInt8) ≠ 32)
      | some c => exact (by decide : (35 : UInt8) ≠ 32)
  have hs := scanL_ext a n o ha (a.length + 1) ((a ++ tlB n o).length + 1) (blk a 0) [] (by omega) (by rw [List.length_append]; omega) b2
  have n1 : ¬ 1000 < (a ++ tlB n o).length := by omega
  have n2 : ¬ 1000 < a.length := by omega
  unfold scanB
  rw [if_neg n1, if_neg n2, hf, hc, hs, hbb]
  by_cases he : (firstI a).2 = 0
  · have hne : ¬ (firstI a).2 ≠ 0 := fun h => h he
    rw [if_neg hne, if_neg hne]
    cases h : scanL a (a.length + 1) (blk a 0) [] with
    | inl x =>
      obtain ⟨us, c⟩ := x
      exact endB_com _ _ _ _
    | inr x =>
      obtain ⟨er, j⟩ := x
      have := scanL_err a _ _ _ _ _ h
      simp only [withC]
      rw [if_neg this]
  · have hne : (firstI a).2 ≠ 0 := he
    rw [if_pos hne, if_pos hne]
    have hlt : blk a 0 < a.length := by
      unfold firstI at he
      split at he
      · rename_i h; exact h.1
      · exact absurd rfl he
    rw [hb, if_pos hlt]
    unfold withC
    rw [if_neg he]
end T17

/- What the scan of a line returns consists of possible tokens in increasing columns: the plain law. -/
namespace T17
open Go Fw Go.Proofs
set_option maxRecDepth 100000
theorem cut_get (a : List UInt8) (i r j : Nat) (h : j < r - i) : (cut a (i : Int) (r : Int)).getD j 0 = a.getD (i + j) 0 := by
  unfold cut
  simp only [Int.toNat_natCast, List.getD, List.getElem?_take, List.getElem?_drop]
  rw [if_pos h]
theorem cut_length (a : List UInt8) (i r : Nat) (h : r ≤ a.length) : (cut a (i : Int) (r : Int)).length = r - i := by
  unfold cut
  simp only [Int.toNat_natCast, List.length_take, List.length_drop]
  omega
theorem cut_whole (a : List UInt8) : cut a ((0 : Nat) : Int) (a.length : Int) = a := by unfold cut; simp
theorem clock_range (a : List UInt8) (h : (clockB a).2.2 = true) : 0 ≤ (clockB a).1 ∧ (clockB a).1 < 1440 := by
  unfold clockB at h ⊢
  split at h
  · rename_i hf
    rw [if_pos hf]
    simp only [Bool.and_eq_true, decide_eq_true_eq] at h ⊢
    have h1 : 0 ≤ clockH a := by unfold clockH dg; omega
    have h2 : 0 ≤ clockM a := by unfold clockM dg; omega
    omega
  · cases h
theorem number_range (a : List UInt8) (h : (numberB a).2 = 0) : -1000000000000 ≤ (numberB a).1 ∧ (numberB a).1 ≤ 1000000000000 := by
  unfold numberB at h ⊢
  generalize decide (a.head? = some (45 : UInt8)) = neg at *
  generalize (cutB 46 (bodyB a)).1 = w at *
  generalize (cutB 46 (bodyB a)).2.1 = f at *
  generalize (cutB 46 (bodyB a)).2.2 = pt at *
  unfold numbB at h ⊢
  split at h
  · cases h
  rename_i h1
  rw [if_neg h1]
  split at h
  · cases h
  rename_i h2
  rw [if_neg h2]
  split at h
  · cases h
  rename_i h3
  rw [if_neg h3]
  split at h
  · cases h
  rename_i h4
  rw [if_neg h4]
  split at h
  · cases h
  rename_i h5
  rw [if_neg h5]
  simp only
  split <;> omega
/-- What a run of figures is. -/
theorem fig_cases (s : List UInt8) (h : (figT s).2 = 0) : (∃ n, (figT s).1 = ⟨4, [], n, 0⟩ ∧ 0 ≤ n ∧ n < 1440) ∨ ((figT s).1 = ⟨5, s, 0, 0⟩) ∨ ∃ n, (figT s).1 = ⟨2, [], n, 0⟩ ∧ -1000000000000 ≤ n ∧ n ≤ 1000000000000 := by
  unfold figT at h ⊢
  split at h
  · rename_i h1
    rw [if_pos h1]
    split at h
    · rename_i h2
      rw [if_pos h2]
      exact .inl ⟨_, rfl, clock_range s h2⟩
    · cases h
  rename_i h1
  rw [if_neg h1]
  split at h
  · rename_i h2
    rw [if_pos h2]
    split at h
    · rename_i h3
      rw [if_pos h3]
      exact .inr (.inl rfl)
    · cases h
  rename_i h2
  rw [if_neg h2]
  split at h
  · rename_i h3
    exact absurd h h3
  · rename_i h3
    rw [if_neg h3]
    exact .inr (.inr ⟨_, rfl, number_range s (by simpa using h3)⟩)
theorem fend_cut (a : List UInt8) (i : Nat) (hi : i ≤ a.length) : fend (cut a (i : Int) (fend a i : Int)) 0 = fend a i - i := by
  obtain ⟨r, hr⟩ : ∃ r, fend a i = r := ⟨_, rfl⟩
  obtain ⟨h1, h2⟩ := fend_le a i hi
  obtain ⟨h3, h4⟩ := runI_all (belB a i) (a.length - i) i
  rw [show runI (belB a i) (a.length - i) i = fend a i from rfl, hr] at h3 h4
  rw [hr] at h1 h2 ⊢
  have hl := cut_length a i r h2
  generalize hs : cut a (i : Int) (r : Int) = s at hl
  have hg : ∀ j, j < r - i → s.getD j 0 = a.getD (i + j) 0 := fun j hj => by rw [← hs]; exact cut_get a i r j hj
  have hb : ∀ j, j < r - i → belB s 0 j = true := by
    intro j hj
    have h5 := h3 (i + j) (by omega) (by omega)
    unfold belB at h5 ⊢
    rw [hg j hj]
    simp only [Bool.or_eq_true, Bool.and_eq_true, decide_eq_true_eq] at h5 ⊢
    rcases h5 with h5 | h5 | ⟨h5, h6, h7, h8, h9⟩
    · exact .inl h5
    · exact .inr (.inl h5)
    · refine .inr (.inr ⟨h5, by omega, ?_, ?_⟩)
      · rw [hg _ (by omega), show i + (j - 1) = i + j - 1 by omega]; exact h7
      · have hr2 : i + j + 1 < r := by
          rcases Nat.lt_or_ge (i + j + 1) r with h10 | h10
          · exact h10
          · have h11 : r = i + j + 1 := by omega
            have h12 := h4 (by omega)
            rw [h11] at h12
            unfold belB at h12
            rw [h9] at h12
            simp at h12
        refine ⟨by omega, ?_⟩
        rw [hg _ (by omega), show i + (j + 1) = i + j + 1 by omega]
        exact h9
  unfold fend
  rw [hl, run_full _ _ _ (fun j _ h => hb j (by omega))]
  omega
theorem wd_cut (a : List UInt8) (i : Nat) (hi : i ≤ a.length) : runB isWd (cut a (i : Int) (runB isWd a i : Int)) 0 = runB isWd a i - i := by
  obtain ⟨r, hr⟩ : ∃ r, runB isWd a i = r := ⟨_, rfl⟩
  obtain ⟨h1, h2⟩ := runB_le isWd a i hi
  obtain ⟨h3, h4⟩ := runI_all (fun j => isWd (a.getD j 0)) (a.length - i) i
  rw [show runI (fun j => isWd (a.getD j 0)) (a.length - i) i = runB isWd a i from rfl, hr] at h3 h4
  rw [hr] at h1 h2 ⊢
  have hl := cut_length a i r h2
  unfold runB
  rw [hl, run_full _ _ _ (fun j _ h => by rw [cut_get a i r j (by omega)]; exact h3 (i + j) (by omega) (by omega))]
  omega
/-- A token that was read is possible. -/
theorem next_valid (a : List UInt8) (i : Nat) (hi : i < a.length) (h : (nextB a i).2.2 = 0) (p : Int) : validB { (nextB a i).1 with p := p } = true := by
  obtain ⟨e1, e2⟩ := nextB_end a i hi h
  unfold nextB at h e1 e2 ⊢
  by_cases h1 : isLet (a.getD i 0) = true
  · rw [if_pos h1] at h e1 e2 ⊢
    have hw := wd_cut a i (by omega)
    unfold wordB at h e1 e2 ⊢
    split at h
    · cases h
    rename_i h9
    rw [if_neg h9] at e1 e2 ⊢
    simp only at e1 e2 ⊢
    generalize runB isWd a i = r at *
    have hl := cut_length a i r e2
    have hg := cut_get a i r 0 (by omega)
    simp only [Nat.add_zero] at hg
    have hcw := cut_whole (cut a (i : Int) (r : Int))
    generalize cut a (i : Int) (r : Int) = s at *
    have hn : nextB s 0 = (⟨1, s, 0, 0⟩, s.length, 0) := by
      unfold nextB
      rw [hg, if_pos h1]
      unfold wordB
      rw [hw, ← hl, if_neg (by omega), hcw]
    unfold validB
    simp only
    rw [if_neg (by decide), if_neg (by decide), if_neg (by decide), if_pos (by simp), hn]
    have hne : s ≠ [] := fun h => by rw [h] at hl; simp at hl; omega
    simp [hne]
  rw [if_neg h1] at h e1 e2 ⊢
  by_cases h2 : (isD (a.getD i 0) || (decide (a.getD i 0 = 45) || decide (a.getD i 0 = 42))) = true
  · rw [if_pos h2] at h e1 e2 ⊢
    have hw := fend_cut a i (by omega)
    unfold numB at h e1 e2 ⊢
    simp only at h e1 e2 ⊢
    generalize fend a i = r at *
    have hl := cut_length a i r e2
    have hg := cut_get a i r 0 (by omega)
    simp only [Nat.add_zero] at hg
    have hcw := cut_whole (cut a (i : Int) (r : Int))
    generalize cut a (i : Int) (r : Int) = s at *
    rcases fig_cases s h with ⟨n, hf, n1, n2⟩ | hf | ⟨n, hf, n1, n2⟩
    · rw [hf]
      unfold validB
      simp only
      rw [if_neg (by decide), if_pos trivial]
      simp [n1, n2]
    · have hn : nextB s 0 = (⟨5, s, 0, 0⟩, s.length, 0) := by
        unfold nextB
        rw [hg, if_neg h1, if_pos h2]
        unfold numB
        rw [hw, ← hl, hcw, hf, h]
      rw [hf]
      unfold validB
      simp only
      rw [if_neg (by decide), if_neg (by decide), if_neg (by decide), if_pos (by simp), hn]
      have hne : s ≠ [] := fun h => by rw [h] at hl; simp at hl; omega
      simp [hne]
    · rw [hf]
      unfold validB
      simp only
      rw [if_pos trivial]
      simp [n1, n2]
  rw [if_neg h2] at h e1 e2 ⊢
  by_cases h3 : decide (a.getD i 0 = 34) = true
  · rw [if_pos h3] at h e1 e2 ⊢
    unfold textB at h e1 e2 ⊢
    rcases findByte_spec 34 (a.drop (i + 1)) 0 with hf | ⟨n, hf, _, hn⟩
    · rw [hf] at h; cases h
    · rw [hf] at h e1 e2 ⊢
      simp only at h e1 e2 ⊢
      split at h
      · rename_i p1
        rw [if_pos p1]
        split at h
        · rename_i p2
          rw [if_pos p2]
          unfold validB
          simp only
          rw [if_neg (by decide), if_neg (by decide), if_pos trivial, p2]
          rfl
        · cases h
      · cases h
  rw [if_neg h3] at h e1 e2 ⊢
  split at h
  · rename_i p1
    rw [if_pos p1] at e1 e2 ⊢
    simp only at e1 e2 ⊢
    have hl := cut_length a i (i + 1) e2
    have hg := cut_get a i (i + 1) 0 (by omega)
    simp only [Nat.add_zero] at hg
    have hcw := cut_whole (cut a (i : Int) ((i + 1 : Nat) : Int))
    generalize cut a (i : Int) ((i + 1 : Nat) : Int) = s at *
    have hn : nextB s 0 = (⟨6, s, 0, 0⟩, s.length, 0) := by
      unfold nextB
      rw [hg, if_neg h1, if_neg h2, if_neg h3, if_pos p1, hl, show i + 1 - i = 1 by omega]
      rw [hl, show i + 1 - i = 1 by omega] at hcw
      rw [Nat.zero_add, hcw]
    unfold validB
    simp only
    rw [if_neg (by decide), if_neg (by decide), if_neg (by decide), if_pos (by simp), hn]
    have hne : s ≠ [] := fun h => by rw [h] at hl; simp at hl
    simp [hne]
  · cases h
/-- Possible tokens in increasing columns, behind a column. -/
def okTs : Int → List Tok → Bool
  | _, [] => true
  | l, t :: ts => validB t && (decide (l < t.p) && okTs t.p ts)
theorem okTs_snoc : ∀ (ts : List Tok) (l : Int) (t : Tok), okTs l ts = true → validB t = true → (∀ x ∈ ts, x.p < t.p) → l < t.p → okTs l (ts ++ [t]) = true
  | [], l, t, _, h2, _, h4 => by simp [okTs, h2, h4]
  | x :: ts, l, t, h1, h2, h3, h4 => by
    simp only [okTs, List.cons_append, Bool.and_eq_true, decide_eq_true_eq] at h1 ⊢
    exact ⟨h1.1, h1.2.1, okTs_snoc ts x.p t h1.2.2 h2 (fun y hy => h3 y (by simp [hy])) (h3 x (by simp))⟩
theorem okTs_take : ∀ (ts : List Tok) (l : Int), okTs l ts = true → okTs l ts.dropLast = true
  | [], l, _ => rfl
  | [t], l, _ => rfl
  | t :: u :: ts, l, h => by
    simp only [okTs, List.dropLast_cons_cons, Bool.and_eq_true, decide_eq_true_eq] at h ⊢
    refine ⟨h.1, h.2.1, ?_⟩
    have := okTs_take (u :: ts) t.p (by simp only [okTs, Bool.and_eq_true, decide_eq_true_eq]; exact h.2.2)
    exact this
theorem scanL_ok (a : List UInt8) : ∀ (k i : Nat) (ts us : List Tok) (c : List UInt8), i ≤ a.length → okTs 0 ts = true → (∀ x ∈ ts, x.p ≤ (i : Int)) → scanL a k i ts = .inl (us, c) → okTs 0 us = true
  | 0, i, ts, us, c, _, h1, _, h => by
    simp only [scanL] at h
    cases h; exact h1
  | k + 1, i, ts, us, c, hi, h1, h2, h => by
    simp only [scanL] at h
    split at h
    · cases h; exact h1
    rename_i hi2
    split at h
    · cases h; exact h1
    split at h
    · cases h
    split at h
    · cases h
    rename_i h4
    have h4 : (nextB a i).2.2 = 0 := by simpa using h4
    obtain ⟨e1, e2⟩ := nextB_end a i (by omega) h4
    obtain ⟨b1, b2⟩ := blk_le a _ e2
    refine scanL_ok a k _ _ us c b2 (okTs_snoc ts 0 _ h1 (next_valid a i (by omega) h4 _) (fun x hx => ?_) ?_) (fun x hx => ?_) h
    · have := h2 x hx; simp only; omega
    · simp only; omega
    · rcases List.mem_append.1 hx with hx | hx
      · have := h2 x hx; omega
      · simp only [List.mem_singleton] at hx
        subst hx
        simp only; omega
theorem scan_ok (a : List UInt8) : okTs 0 (scanB a).1.ts = true := by
  unfold scanB
  split
  · rfl
  split
  · rfl
  split
  · rfl
  · rename_i us c h
    have h1 := scanL_ok a _ _ [] us c (blk_le a _ (blk_le a 0 (Nat.zero_le _)).2).2 rfl (fun x hx => by cases hx) h
    unfold endB
    split
    · split
      · rfl
      · exact okTs_take us 0 h1
    · exact h1
end T17

/- How many tokens and how long texts a scan gives. -/
namespace T17
open Go Fw Go.Proofs
set_option maxRecDepth 100000
theorem next_sz (a : List UInt8) (i : Nat) (h : (nextB a i).2.2 = 0) : (nextB a i).1.t.length ≤ a.length := by
  unfold nextB at h ⊢
  by_cases h1 : isLet (a.getD i 0) = true
  · rw [if_pos h1] at h ⊢
    unfold wordB
    split
    · exact Nat.zero_le _
    · exact cut_le a _ _
  rw [if_neg h1] at h ⊢
  by_cases h2 : (isD (a.getD i 0) || (decide (a.getD i 0 = 45) || decide (a.getD i 0 = 42))) = true
  · rw [if_pos h2] at h ⊢
    unfold numB at h ⊢
    simp only at h ⊢
    rcases fig_cases _ h with ⟨n, hf, _⟩ | hf | ⟨n, hf, _⟩
    · rw [hf]; exact Nat.zero_le _
    · rw [hf]; exact cut_le a _ _
    · rw [hf]; exact Nat.zero_le _
  rw [if_neg h2] at h ⊢
  by_cases h3 : decide (a.getD i 0 = 34) = true
  · rw [if_pos h3] at h ⊢
    unfold textB at h ⊢
    rcases findByte_spec 34 (a.drop (i + 1)) 0 with hf | ⟨n, hf, _, hn⟩
    · rw [hf]; exact Nat.zero_le _
    · rw [hf]
      simp only
      split
      · split
        · exact cut_le a _ _
        · exact Nat.zero_le _
      · exact Nat.zero_le _
  rw [if_neg h3] at h ⊢
  split
  · exact cut_le a _ _
  · exact Nat.zero_le _
theorem scanL_sz (a : List UInt8) : ∀ (k i : Nat) (ts us : List Tok) (c : List UInt8), ts.length ≤ 64 → (∀ x ∈ ts, x.t.length ≤ a.length) → scanL a k i ts = .inl (us, c) → us.length ≤ 64 ∧ ∀ x ∈ us, x.t.length ≤ a.length
  | 0, i, ts, us, c, h1, h2, h => by
    simp only [scanL] at h
    cases h; exact ⟨h1, h2⟩
  | k + 1, i, ts, us, c, h1, h2, h => by
    simp only [scanL] at h
    split at h
    · cases h; exact ⟨h1, h2⟩
    split at h
    · cases h; exact ⟨h1, h2⟩
    split at h
    · cases h
    rename_i h3
    split at h
    · cases h
    rename_i h4
    refine scanL_sz a k _ _ us c (by simp; omega) (fun x hx => ?_) h
    rcases List.mem_append.1 hx with hx | hx
    · exact h2 x hx
    · simp only [List.mem_singleton] at hx
      subst hx
      exact next_sz a i (by simpa using h4)
theorem scan_sz (a : List UInt8) : (scanB a).1.ts.length ≤ 64 ∧ ∀ x ∈ (scanB a).1.ts, x.t.length ≤ a.length := by
  have h0 : (noS.ts.length ≤ 64 ∧ ∀ x ∈ noS.ts, x.t.length ≤ a.length) := ⟨Nat.zero_le _, fun x hx => by cases hx⟩
  unfold scanB
  split
  · exact h0
  split
  · exact h0
  split
  · exact h0
  · rename_i us c h
    have h1 := scanL_sz a _ _ [] us c (Nat.zero_le _) (fun x hx => by cases hx) h
    unfold endB
    split
    · split
      · exact h0
      · exact ⟨by simp only [List.length_dropLast]; omega, fun x hx => h1.2 x (List.dropLast_subset _ hx)⟩
    · exact h1
end T17

/- Tokens are compared. -/
namespace T17
open Go Fw Go.Proofs
set_option maxRecDepth 100000
set_option maxHeartbeats 4000000
set_option linter.unusedSimpArgs false
set_option linter.unusedVariables false
def sameT (p : Bool) (a b : Tok) : Bool := decide (a.k = b.k) && (decide (a.t = b.t) && (decide (a.n = b.n) && (!p || decide (a.p = b.p))))
def sameTs (p : Bool) : List Tok → List Tok → Bool
  | [], [] => true
  | a :: us, b :: vs => sameT p a b && sameTs p us vs
  | _, _ => false
theorem sameTs_len {p : Bool} : ∀ {us vs : List Tok}, us.length ≠ vs.length → sameTs p us vs = false
  | [], [], h => absurd rfl h
  | [], b :: vs, _ => rfl
  | a :: us, [], _ => rfl
  | a :: us, b :: vs, h => by
    simp only [sameTs]
    rw [sameTs_len (us := us) (vs := vs) (by simpa using h), Bool.and_false]
theorem sameTs_refl (p : Bool) : ∀ us : List Tok, sameTs p us us = true
  | [] => rfl
  | a :: us => by simp [sameTs, sameT, sameTs_refl p us]
theorem l9 (b1 b2 : TN) (p : Bool) (us vs : List Tok) (hlen : us.length = vs.length) (hl : us.length ≤ 4611686018427387904) (L : Nat) (Q : Sig → FE → St → Prop) : ∀ (n i : Nat) (e : FE) (st : St), i + n = us.length → st.low = L → L ≤ st.next → e 0 = slt b1 us.length (encTs us) → e 1 = slt b2 us.length (encTs vs) → e 2 = .bool p → e 7 = .int .i64 (i : Int) →
    (sameTs p (us.drop i) (vs.drop i) = true → ∀ e' st', st'.low = L → Q (.exit 0) e' st') → (sameTs p (us.drop i) (vs.drop i) = false → ∀ e' st', st'.low = L → e' 6 = .bool false → Q .ret e' st') → WLoop cx ir9L0 e st Q
  | 0, i, e, st, hi, hL, hLn, h0, h1, h2, h7, hA, hB => by
    refine WLoop.rnd (c := _) ir9L0.eq_1 ?_
    have hd : decide ((i : Int) < (us.length : Int)) = false := decide_eq_false (by omega)
    rw [List.drop_eq_nil_of_le (by omega), List.drop_eq_nil_of_le (by omega)] at hA
    simp (config := {contextual := true, implicitDefEqProofs := false, maxSteps := 4000000}) only [go_sem, ↓reduceIte, Bool.false_eq_true, Nat.reduceEqDiff, Nat.reduceAdd, Int.reduceLE, Int.reduceLT, Int.reduceEq, Int.reduceToNat, Int.toNat_natCast, Int.cast_ofNat_Int, Int.natCast_one, Nat.reduceMod, Nat.reduceDiv, UInt8.reduceToNat, Nat.reduceLT, h0, h1, h2, h7, hd]
    exact hA rfl _ _ hL
  | n + 1, i, e, st, hi, hL, hLn, h0, h1, h2, h7, hA, hB => by
    refine WLoop.rnd (c := _) ir9L0.eq_1 ?_
    have hd : decide ((i : Int) < (us.length : Int)) = true := decide_eq_true (by omega)
    have hin : (0 : Int) ≤ (i : Int) ∧ (i : Int) < (us.length : Int) := by omega
    have hlt : i < us.length := by omega
    have hlt2 : i < vs.length := by omega
    have hw := wrap_one (i := i) (by omega)
    rw [List.drop_eq_getElem_cons hlt, List.drop_eq_getElem_cons hlt2] at hA hB
    simp only [sameTs] at hA hB
    have hmin : min st.low st.next = st.low := by omega
    have hmin2 : min st.low (st.next + 1) = st.low := by omega
    have ih := fun e st a b c d x1 x2 x3 => l9 b1 b2 p us vs hlen hl L Q n (i + 1) e st (by omega) a b c d x1 x2 x3
    have sA := sub_tok hlt
    have sB := sub_tok hlt2
    obtain ⟨a, ha⟩ : ∃ a, us[i] = a := ⟨_, rfl⟩
    obtain ⟨b, hb⟩ : ∃ a, vs[i] = a := ⟨_, rfl⟩
    rw [ha] at sA hA hB
    rw [hb] at sB hA hB
    have hin2 : (0 : Int) ≤ (i : Int) ∧ (i : Int) < (us.length : Int) := hin
    have hminL : min (min st.low st.next) (st.next + 1) = st.low := by omega
    by_cases k1 : a.k = b.k
    case neg =>
      have hx : sameT p a b = false := by unfold sameT; rw [decide_eq_false k1]; rfl
      rw [hx, Bool.false_and] at hB
      cases p
      · simp (config := {contextual := true, implicitDefEqProofs := false, maxSteps := 4000000}) only [go_sem, ↓reduceIte, Bool.false_eq_true, Nat.reduceEqDiff, Nat.reduceAdd, Int.reduceLE, Int.reduceLT, Int.reduceEq, Int.reduceToNat, Int.toNat_natCast, Int.cast_ofNat_Int, Int.natCast_one, Nat.reduceMod, Nat.reduceDiv, UInt8.reduceToNat, Nat.reduceLT, h0, h1, h2, h7, hd, hin, hin2, sA, sB, hw, hmin, hmin2, hminL, k1]
        exact hB rfl _ _ hL rfl
      · simp (config := {contextual := true, implicitDefEqProofs := false, maxSteps := 4000000}) only [go_sem, ↓reduceIte, Bool.false_eq_true, Nat.reduceEqDiff, Nat.reduceAdd, Int.reduceLE, Int.reduceLT, Int.reduceEq, Int.reduceToNat, Int.toNat_natCast, Int.cast_ofNat_Int, Int.natCast_one, Nat.reduceMod, Nat.reduceDiv, UInt8.reduceToNat, Nat.reduceLT, h0, h1, h2, h7, hd, hin, hin2, sA, sB, hw, hmin, hmin2, hminL, k1]
        exact hB rfl _ _ hL rfl
    by_cases k2 : a.t = b.t
    case neg =>
      have hx : sameT p a b = false := by unfold sameT; rw [decide_eq_false k2, Bool.false_and, Bool.and_false]
      rw [hx, Bool.false_and] at hB
      cases p
      · simp (config := {contextual := true, implicitDefEqProofs := false, maxSteps := 4000000}) only [go_sem, ↓reduceIte, Bool.false_eq_true, Nat.reduceEqDiff, Nat.reduceAdd, Int.reduceLE, Int.reduceLT, Int.reduceEq, Int.reduceToNat, Int.toNat_natCast, Int.cast_ofNat_Int, Int.natCast_one, Nat.reduceMod, Nat.reduceDiv, UInt8.reduceToNat, Nat.reduceLT, h0, h1, h2, h7, hd, hin, hin2, sA, sB, hw, hmin, hmin2, hminL, k1, k2]
        exact hB rfl _ _ hL rfl
      · simp (config := {contextual := true, implicitDefEqProofs := false, maxSteps := 4000000}) only [go_sem, ↓reduceIte, Bool.false_eq_true, Nat.reduceEqDiff, Nat.reduceAdd, Int.reduceLE, Int.reduceLT, Int.reduceEq, Int.reduceToNat, Int.toNat_natCast, Int.cast_ofNat_Int, Int.natCast_one, Nat.reduceMod, Nat.reduceDiv, UInt8.reduceToNat, Nat.reduceLT, h0, h1, h2, h7, hd, hin, hin2, sA, sB, hw, hmin, hmin2, hminL, k1, k2]
        exact hB rfl _ _ hL rfl
    by_cases k3 : a.n = b.n
    case neg =>
      have hx : sameT p a b = false := by unfold sameT; rw [decide_eq_false k3, Bool.false_and, Bool.and_false, Bool.and_false]
      rw [hx, Bool.false_and] at hB
      cases p
      · simp (config := {contextual := true, implicitDefEqProofs := false, maxSteps := 4000000}) only [go_sem, ↓reduceIte, Bool.false_eq_true, Nat.reduceEqDiff, Nat.reduceAdd, Int.reduceLE, Int.reduceLT, Int.reduceEq, Int.reduceToNat, Int.toNat_natCast, Int.cast_ofNat_Int, Int.natCast_one, Nat.reduceMod, Nat.reduceDiv, UInt8.reduceToNat, Nat.reduceLT, h0, h1, h2, h7, hd, hin, hin2, sA, sB, hw, hmin, hmin2, hminL, k1, k2, k3]
        exact hB rfl _ _ hL rfl
      · simp (config := {contextual := true, implicitDefEqProofs := false, maxSteps := 4000000}) only [go_sem, ↓reduceIte, Bool.false_eq_true, Nat.reduceEqDiff, Nat.reduceAdd, Int.reduceLE, Int.reduceLT, Int.reduceEq, Int.reduceToNat, Int.toNat_natCast, Int.cast_ofNat_Int, Int.natCast_one, Nat.reduceMod, Nat.reduceDiv, UInt8.reduceToNat, Nat.reduceLT, h0, h1, h2, h7, hd, hin, hin2, sA, sB, hw, hmin, hmin2, hminL, k1, k2, k3]
        exact hB rfl _ _ hL rfl
    cases p with
    | false =>
      have hx : sameT false a b = true := by unfold sameT; rw [decide_eq_true k1, decide_eq_true k2, decide_eq_true k3]; rfl
      rw [hx, Bool.true_and] at hA hB
      simp (config := {contextual := true, implicitDefEqProofs := false, maxSteps := 4000000}) only [go_sem, ↓reduceIte, Bool.false_eq_true, Nat.reduceEqDiff, Nat.reduceAdd, Int.reduceLE, Int.reduceLT, Int.reduceEq, Int.reduceToNat, Int.toNat_natCast, Int.cast_ofNat_Int, Int.natCast_one, Nat.reduceMod, Nat.reduceDiv, UInt8.reduceToNat, Nat.reduceLT, h0, h1, h2, h7, hd, hin, hin2, sA, sB, hw, hmin, hmin2, hminL, k1, k2, k3]
      exact ih _ _ hL (by simp only; omega) h0 h1 h2 rfl hA hB
    | true =>
      by_cases k4 : a.p = b.p
      case neg =>
        have hx : sameT true a b = false := by unfold sameT; rw [decide_eq_false k4]; simp
        rw [hx, Bool.false_and] at hB
        simp (config := {contextual := true, implicitDefEqProofs := false, maxSteps := 4000000}) only [go_sem, ↓reduceIte, Bool.false_eq_true, Nat.reduceEqDiff, Nat.reduceAdd, Int.reduceLE, Int.reduceLT, Int.reduceEq, Int.reduceToNat, Int.toNat_natCast, Int.cast_ofNat_Int, Int.natCast_one, Nat.reduceMod, Nat.reduceDiv, UInt8.reduceToNat, Nat.reduceLT, h0, h1, h2, h7, hd, hin, hin2, sA, sB, hw, hmin, hmin2, hminL, k1, k2, k3, k4]
        exact hB rfl _ _ hL rfl
      case pos =>
        have hx : sameT true a b = true := by unfold sameT; rw [decide_eq_true k1, decide_eq_true k2, decide_eq_true k3, decide_eq_true k4]; rfl
        rw [hx, Bool.true_and] at hA hB
        simp (config := {contextual := true, implicitDefEqProofs := false, maxSteps := 4000000}) only [go_sem, ↓reduceIte, Bool.false_eq_true, Nat.reduceEqDiff, Nat.reduceAdd, Int.reduceLE, Int.reduceLT, Int.reduceEq, Int.reduceToNat, Int.toNat_natCast, Int.cast_ofNat_Int, Int.natCast_one, Nat.reduceMod, Nat.reduceDiv, UInt8.reduceToNat, Nat.reduceLT, h0, h1, h2, h7, hd, hin, hin2, sA, sB, hw, hmin, hmin2, hminL, k1, k2, k3, k4]
        exact ih _ _ hL (by simp only; omega) h0 h1 h2 rfl hA hB
theorem c9 (b1 b2 : TN) (p : Bool) (us vs : List Tok) (hl : us.length ≤ 4611686018427387904) (s : St) (K : AV → St → Prop) : CallW cx 9 [slt b1 us.length (encTs us), slt b2 vs.length (encTs vs), .bool p] s K = K (.bool (sameTs p us vs)) s := by
  refine CallW.eq (CallW.fn' (fn := ir9) rfl rfl (by kernel_rfl) ir9.eq_1 ?_) K
  by_cases hlen : us.length = vs.length
  · have hx : decide ((us.length : Int) ≠ (vs.length : Int)) = false := decide_eq_false (by omega)
    have hz : (slt b2 vs.length (encTs vs)) = slt b2 us.length (encTs vs) := by rw [hlen]
    rw [hz] at *
    rw [hlen] at hx
    simp (config := {contextual := true, implicitDefEqProofs := false, maxSteps := 4000000}) only [go_sem, ↓reduceIte, Bool.false_eq_true, Nat.reduceEqDiff, Nat.reduceAdd, Int.reduceLE, Int.reduceLT, Int.reduceEq, Int.reduceToNat, Int.toNat_natCast, Int.cast_ofNat_Int, Int.natCast_one, Nat.reduceMod, Nat.reduceDiv, UInt8.reduceToNat, Nat.reduceLT, hx, hlen]
    rw [← hlen]
    refine l9 b1 b2 p us vs hlen hl s.next _ us.length 0 _ _ (by omega) rfl (by simp only; omega) rfl rfl rfl rfl ?_ ?_
    · intro h e' st' hL
      rw [List.drop_zero, List.drop_zero] at h
      simp (config := {contextual := true, implicitDefEqProofs := false, maxSteps := 4000000}) only [go_sem, ↓reduceIte, Bool.false_eq_true, Nat.reduceEqDiff, Nat.reduceAdd, Int.reduceLE, Int.reduceLT, Int.reduceEq, Int.reduceToNat, Int.toNat_natCast, Int.cast_ofNat_Int, Int.natCast_one, Nat.reduceMod, Nat.reduceDiv, UInt8.reduceToNat, Nat.reduceLT, h, hL]
    · intro h e' st' hL h6
      rw [List.drop_zero, List.drop_zero] at h
      simp (config := {contextual := true, implicitDefEqProofs := false, maxSteps := 4000000}) only [go_sem, ↓reduceIte, Bool.false_eq_true, Nat.reduceEqDiff, Nat.reduceAdd, Int.reduceLE, Int.reduceLT, Int.reduceEq, Int.reduceToNat, Int.toNat_natCast, Int.cast_ofNat_Int, Int.natCast_one, Nat.reduceMod, Nat.reduceDiv, UInt8.reduceToNat, Nat.reduceLT, h, hL, h6]
  · have hx : decide ((us.length : Int) ≠ (vs.length : Int)) = true := decide_eq_true (by omega)
    rw [sameTs_len hlen]
    simp (config := {contextual := true, implicitDefEqProofs := false, maxSteps := 4000000}) only [go_sem, ↓reduceIte, Bool.false_eq_true, Nat.reduceEqDiff, Nat.reduceAdd, Int.reduceLE, Int.reduceLT, Int.reduceEq, Int.reduceToNat, Int.toNat_natCast, Int.cast_ofNat_Int, Int.natCast_one, Nat.reduceMod, Nat.reduceDiv, UInt8.reduceToNat, Nat.reduceLT, hx]
end T17

/- Tokens are compared: the second list has any owner. -/
namespace T17
open Go Fw Go.Proofs
set_option maxRecDepth 100000
set_option maxHeartbeats 4000000
set_option linter.unusedSimpArgs false
set_option linter.unusedVariables false
theorem l9o (b1 : TN) (b2 : Own) (p : Bool) (us vs : List Tok) (hlen : us.length = vs.length) (hl : us.length ≤ 4611686018427387904) (L : Nat) (Q : Sig → FE → St → Prop) : ∀ (n i : Nat) (e : FE) (st : St), i + n = us.length → st.low = L → L ≤ st.next → e 0 = slt b1 us.length (encTs us) → e 1 = .slice (encTs vs) us.length b2 → e 2 = .bool p → e 7 = .int .i64 (i : Int) →
    (sameTs p (us.drop i) (vs.drop i) = true → ∀ e' st', st'.low = L → Q (.exit 0) e' st') → (sameTs p (us.drop i) (vs.drop i) = false → ∀ e' st', st'.low = L → e' 6 = .bool false → Q .ret e' st') → WLoop cx ir9L0 e st Q
  | 0, i, e, st, hi, hL, hLn, h0, h1, h2, h7, hA, hB => by
    refine WLoop.rnd (c := _) ir9L0.eq_1 ?_
    have hd : decide ((i : Int) < (us.length : Int)) = false := decide_eq_false (by omega)
    rw [List.drop_eq_nil_of_le (by omega), List.drop_eq_nil_of_le (by omega)] at hA
    simp (config := {contextual := true, implicitDefEqProofs := false, maxSteps := 4000000}) only [go_sem, ↓reduceIte, Bool.false_eq_true, Nat.reduceEqDiff, Nat.reduceAdd, Int.reduceLE, Int.reduceLT, Int.reduceEq, Int.reduceToNat, Int.toNat_natCast, Int.cast_ofNat_Int, Int.natCast_one, Nat.reduceMod, Nat.reduceDiv, UInt8.reduceToNat, Nat.reduceLT, h0, h1, h2, h7, hd]
    exact hA rfl _ _ hL
  | n + 1, i, e, st, hi, hL, hLn, h0, h1, h2, h7, hA, hB => by
    refine WLoop.rnd (c := _) ir9L0.eq_1 ?_
    have hd : decide ((i : Int) < (us.length : Int)) = true := decide_eq_true (by omega)
    have hin : (0 : Int) ≤ (i : Int) ∧ (i : Int) < (us.length : Int) := by omega
    have hlt : i < us.length := by omega
    have hlt2 : i < vs.length := by omega
    have hw := wrap_one (i := i) (by omega)
    rw [List.drop_eq_getElem_cons hlt, List.drop_eq_getElem_cons hlt2] at hA hB
    simp only [sameTs] at hA hB
    have hmin : min st.low st.next = st.low := by omega
    have hmin2 : min st.low (st.next + 1) = st.low := by omega
    have ih := fun e st a b c d x1 x2 x3 => l9o b1 b2 p us vs hlen hl L Q n (i + 1) e st (by omega) a b c d x1 x2 x3
    have sA := sub_tok hlt
    have sB := sub_tok hlt2
    obtain ⟨a, ha⟩ : ∃ a, us[i] = a := ⟨_, rfl⟩
    obtain ⟨b, hb⟩ : ∃ a, vs[i] = a := ⟨_, rfl⟩
    rw [ha] at sA hA hB
    rw [hb] at sB hA hB
    have hin2 : (0 : Int) ≤ (i : Int) ∧ (i : Int) < (us.length : Int) := hin
    have hminL : min (min st.low st.next) (st.next + 1) = st.low := by omega
    by_cases k1 : a.k = b.k
    case neg =>
      have hx : sameT p a b = false := by unfold sameT; rw [decide_eq_false k1]; rfl
      rw [hx, Bool.false_and] at hB
      cases p
      · simp (config := {contextual := true, implicitDefEqProofs := false, maxSteps := 4000000}) only [go_sem, ↓reduceIte, Bool.false_eq_true, Nat.reduceEqDiff, Nat.reduceAdd, Int.reduceLE, Int.reduceLT, Int.reduceEq, Int.reduceToNat, Int.toNat_natCast, Int.cast_ofNat_Int, Int.natCast_one, Nat.reduceMod, Nat.reduceDiv, UInt8.reduceToNat, Nat.reduceLT, h0, h1, h2, h7, hd, hin, hin2, sA, sB, hw, hmin, hmin2, hminL, k1]
        exact hB rfl _ _ hL rfl
      · simp (config := {contextual := true, implicitDefEqProofs := false, maxSteps := 4000000}) only [go_sem, ↓reduceIte, Bool.false_eq_true, Nat.reduceEqDiff, Nat.reduceAdd, Int.reduceLE, Int.reduceLT, Int.reduceEq, Int.reduceToNat, Int.toNat_natCast, Int.cast_ofNat_Int, Int.natCast_one, Nat.reduceMod, Nat.reduceDiv, UInt8.reduceToNat, Nat.reduceLT, h0, h1, h2, h7, hd, hin, hin2, sA, sB, hw, hmin, hmin2, hminL, k1]
        exact hB rfl _ _ hL rfl
    by_cases k2 : a.t = b.t
    case neg =>
      have hx : sameT p a b = false := by unfold sameT; rw [decide_eq_false k2, Bool.false_and, Bool.and_false]
      rw [hx, Bool.false_and] at hB
      cases p
      · simp (config := {contextual := true, implicitDefEqProofs := false, maxSteps := 4000000}) only [go_sem, ↓reduceIte, Bool.false_eq_true, Nat.reduceEqDiff, Nat.reduceAdd, Int.reduceLE, Int.reduceLT, Int.reduceEq, Int.reduceToNat, Int.toNat_natCast, Int.cast_ofNat_Int, Int.natCast_one, Nat.reduceMod, Nat.reduceDiv, UInt8.reduceToNat, Nat.reduceLT, h0, h1, h2, h7, hd, hin, hin2, sA, sB, hw, hmin, hmin2, hminL, k1, k2]
        exact hB rfl _ _ hL rfl
      · simp (config := {contextual := true, implicitDefEqProofs := false, maxSteps := 4000000}) only [go_sem, ↓reduceIte, Bool.false_eq_true, Nat.reduceEqDiff, Nat.reduceAdd, Int.reduceLE, Int.reduceLT, Int.reduceEq, Int.reduceToNat, Int.toNat_natCast, Int.cast_ofNat_Int, Int.natCast_one, Nat.reduceMod, Nat.reduceDiv, UInt8.reduceToNat, Nat.reduceLT, h0, h1, h2, h7, hd, hin, hin2, sA, sB, hw, hmin, hmin2, hminL, k1, k2]
        exact hB rfl _ _ hL rfl
    by_cases k3 : a.n = b.n
    case neg =>
      have hx : sameT p a b = false := by unfold sameT; rw [decide_eq_false k3, Bool.false_and, Bool.and_false, Bool.and_false]
      rw [hx, Bool.false_and] at hB
      cases p
      · simp (config := {contextual := true, implicitDefEqProofs := false, maxSteps := 4000000}) only [go_sem, ↓reduceIte, Bool.false_eq_true, Nat.reduceEqDiff, Nat.reduceAdd, Int.reduceLE, Int.reduceLT, Int.reduceEq, Int.reduceToNat, Int.toNat_natCast, Int.cast_ofNat_Int, Int.natCast_one, Nat.reduceMod, Nat.reduceDiv, UInt8.reduceToNat, Nat.reduceLT, h0, h1, h2, h7, hd, hin, hin2, sA, sB, hw, hmin, hmin2, hminL, k1, k2, k3]
        exact hB rfl _ _ hL rfl
      · simp (config := {contextual := true, implicitDefEqProofs := false, maxSteps := 4000000}) only [go_sem, ↓reduceIte, Bool.false_eq_true, Nat.reduceEqDiff, Nat.reduceAdd, Int.reduceLE, Int.reduceLT, Int.reduceEq, Int.reduceToNat, Int.toNat_natCast, Int.cast_ofNat_Int, Int.natCast_one, Nat.reduceMod, Nat.reduceDiv, UInt8.reduceToNat, Nat.reduceLT, h0, h1, h2, h7, hd, hin, hin2, sA, sB, hw, hmin, hmin2, hminL, k1, k2, k3]
        exact hB rfl _ _ hL rfl
    cases p with
    | false =>
      have hx : sameT false a b = true := by unfold sameT; rw [decide_eq_true k1, decide_eq_true k2, decide_eq_true k3]; rfl
      rw [hx, Bool.true_and] at hA hB
      simp (config := {contextual := true, implicitDefEqProofs := false, maxSteps := 4000000}) only [go_sem, ↓reduceIte, Bool.false_eq_true, Nat.reduceEqDiff, Nat.reduceAdd, Int.reduceLE, Int.reduceLT, Int.reduceEq, Int.reduceToNat, Int.toNat_natCast, Int.cast_ofNat_Int, Int.natCast_one, Nat.reduceMod, Nat.reduceDiv, UInt8.reduceToNat, Nat.reduceLT, h0, h1, h2, h7, hd, hin, hin2, sA, sB, hw, hmin, hmin2, hminL, k1, k2, k3]
      exact ih _ _ hL (by simp only; omega) h0 h1 h2 rfl hA hB
    | true =>
      by_cases k4 : a.p = b.p
      case neg =>
        have hx : sameT true a b = false := by unfold sameT; rw [decide_eq_false k4]; simp
        rw [hx, Bool.false_and] at hB
        simp (config := {contextual := true, implicitDefEqProofs := false, maxSteps := 4000000}) only [go_sem, ↓reduceIte, Bool.false_eq_true, Nat.reduceEqDiff, Nat.reduceAdd, Int.reduceLE, Int.reduceLT, Int.reduceEq, Int.reduceToNat, Int.toNat_natCast, Int.cast_ofNat_Int, Int.natCast_one, Nat.reduceMod, Nat.reduceDiv, UInt8.reduceToNat, Nat.reduceLT, h0, h1, h2, h7, hd, hin, hin2, sA, sB, hw, hmin, hmin2, hminL, k1, k2, k3, k4]
        exact hB rfl _ _ hL rfl
      case pos =>
        have hx : sameT true a b = true := by unfold sameT; rw [decide_eq_true k1, decide_eq_true k2, decide_eq_true k3, decide_eq_true k4]; rfl
        rw [hx, Bool.true_and] at hA hB
        simp (config := {contextual := true, implicitDefEqProofs := false, maxSteps := 4000000}) only [go_sem, ↓reduceIte, Bool.false_eq_true, Nat.reduceEqDiff, Nat.reduceAdd, Int.reduceLE, Int.reduceLT, Int.reduceEq, Int.reduceToNat, Int.toNat_natCast, Int.cast_ofNat_Int, Int.natCast_one, Nat.reduceMod, Nat.reduceDiv, UInt8.reduceToNat, Nat.reduceLT, h0, h1, h2, h7, hd, hin, hin2, sA, sB, hw, hmin, hmin2, hminL, k1, k2, k3, k4]
        exact ih _ _ hL (by simp only; omega) h0 h1 h2 rfl hA hB
theorem c9o (b1 : TN) (b2 : Own) (p : Bool) (us vs : List Tok) (hl : us.length ≤ 4611686018427387904) (s : St) (K : AV → St → Prop) : CallW cx 9 [slt b1 us.length (encTs us), .slice (encTs vs) vs.length b2, .bool p] s K = K (.bool (sameTs p us vs)) s := by
  refine CallW.eq (CallW.fn' (fn := ir9) rfl rfl (by kernel_rfl) ir9.eq_1 ?_) K
  by_cases hlen : us.length = vs.length
  · have hx : decide ((us.length : Int) ≠ (vs.length : Int)) = false := decide_eq_false (by omega)
    have hz : (AV.slice (encTs vs) vs.length b2) = AV.slice (encTs vs) us.length b2 := by rw [hlen]
    rw [hz] at *
    rw [hlen] at hx
    simp (config := {contextual := true, implicitDefEqProofs := false, maxSteps := 4000000}) only [go_sem, ↓reduceIte, Bool.false_eq_true, Nat.reduceEqDiff, Nat.reduceAdd, Int.reduceLE, Int.reduceLT, Int.reduceEq, Int.reduceToNat, Int.toNat_natCast, Int.cast_ofNat_Int, Int.natCast_one, Nat.reduceMod, Nat.reduceDiv, UInt8.reduceToNat, Nat.reduceLT, hx, hlen]
    rw [← hlen]
    refine l9o b1 b2 p us vs hlen hl s.next _ us.length 0 _ _ (by omega) rfl (by simp only; omega) rfl rfl rfl rfl ?_ ?_
    · intro h e' st' hL
      rw [List.drop_zero, List.drop_zero] at h
      simp (config := {contextual := true, implicitDefEqProofs := false, maxSteps := 4000000}) only [go_sem, ↓reduceIte, Bool.false_eq_true, Nat.reduceEqDiff, Nat.reduceAdd, Int.reduceLE, Int.reduceLT, Int.reduceEq, Int.reduceToNat, Int.toNat_natCast, Int.cast_ofNat_Int, Int.natCast_one, Nat.reduceMod, Nat.reduceDiv, UInt8.reduceToNat, Nat.reduceLT, h, hL]
    · intro h e' st' hL h6
      rw [List.drop_zero, List.drop_zero] at h
      simp (config := {contextual := true, implicitDefEqProofs := false, maxSteps := 4000000}) only [go_sem, ↓reduceIte, Bool.false_eq_true, Nat.reduceEqDiff, Nat.reduceAdd, Int.reduceLE, Int.reduceLT, Int.reduceEq, Int.reduceToNat, Int.toNat_natCast, Int.cast_ofNat_Int, Int.natCast_one, Nat.reduceMod, Nat.reduceDiv, UInt8.reduceToNat, Nat.reduceLT, h, hL, h6]
  · have hx : decide ((us.length : Int) ≠ (vs.length : Int)) = true := decide_eq_true (by omega)
    rw [sameTs_len hlen]
    simp (config := {contextual := true, implicitDefEqProofs := false, maxSteps := 4000000}) only [go_sem, ↓reduceIte, Bool.false_eq_true, Nat.reduceEqDiff, Nat.reduceAdd, Int.reduceLE, Int.reduceLT, Int.reduceEq, Int.reduceToNat, Int.toNat_natCast, Int.cast_ofNat_Int, Int.natCast_one, Nat.reduceMod, Nat.reduceDiv, UInt8.reduceToNat, Nat.reduceLT, hx]
end T17

/- LexerScans returns true for all lines. -/
namespace T17
open Go Fw Go.Proofs
set_option maxRecDepth 100000
set_option maxHeartbeats 4000000
set_option linter.unusedSimpArgs false
set_option linter.unusedVariables false
theorem c6v (h : List (Nat × AObj)) (l : Nat) (K : AV → St → Prop) : CallW cx 6 [] { heap := h, next := 0, low := l } K = K (.bool true) { heap := h, next := 0, low := l } :=
  CallW.eq ⟨1000, _, _, awake_run0 h l, rfl, rfl⟩ K
theorem scan_fault (a : List UInt8) (h : (scanB a).2.1 ≠ 0) : (scanB a).1 = noS := by
  unfold scanB at h ⊢
  split
  · rfl
  rename_i h1
  rw [if_neg h1] at h
  split
  · rfl
  rename_i h2
  rw [if_neg h2] at h
  split at h
  · rfl
  · unfold endB at h ⊢
    split at h
    · rename_i h3
      rw [if_pos h3]
      split at h
      · rename_i h4
        rw [if_pos h4]
      · exact absurd rfl h
    · exact absurd rfl h
theorem law3 (a : List UInt8) : CallW cx 3 [.str a] { heap := [], next := 0, low := 0 } fun v _ => v = .bool true := by
  refine CallW.fn' (fn := ir3) rfl rfl (by kernel_rfl) ir3.eq_1 ?_
  by_cases h1 : 1200 < a.length
  · have d1 : decide ((1200 : Int) < (a.length : Int)) = true := decide_eq_true (by omega)
    simp (config := {contextual := true, implicitDefEqProofs := false, maxSteps := 4000000}) only [go_sem, ↓reduceIte, Bool.false_eq_true, Nat.reduceEqDiff, Nat.reduceAdd, Int.reduceLE, Int.reduceLT, Int.reduceEq, Int.reduceToNat, Int.toNat_natCast, Int.cast_ofNat_Int, Int.natCast_one, Nat.reduceMod, Nat.reduceDiv, UInt8.reduceToNat, Nat.reduceLT, c6v, d1]
  have d1 : decide ((1200 : Int) < (a.length : Int)) = false := decide_eq_false (by omega)
  have k1 := fun st K => c7 a st K
  have k2 := fun st K => c8 a st K
  have hf := scan_fault a
  have hlen : (scanB a).1.ts.length ≤ 64 := (scan_sz a).1
  generalize scanB a = x at *
  obtain ⟨⟨ind, ts, hd, com⟩, er, cl⟩ := x
  simp only at hf hlen
  have z1 : ∀ u : List UInt8, decide (u = u) = true := fun u => by simp
  have z2 : ∀ u : Int, decide (u = u) = true := fun u => by simp
  have z3 : ∀ u : Bool, (u == u) = true := fun u => by simp
  by_cases he : er = 0
  · subst he
    have kt := fun o st K => c9o (true, false) o true ts ts (by omega) st K
    rw [sameTs_refl] at kt
    have k2' : ∀ st K, CallW cx 8 [.str a] st K = K (.tuple [.agg [.int .i64 ind, .slice (encTs ts) ts.length (if ts = [] then .full else .no), .bool hd, .str com], .agg [.int .i64 0, .int .i64 0, .int .i64 cl]]) st := k2
    clear k2
    generalize (if ts = [] then Own.full else Own.no) = o at *
    simp (config := {contextual := true, implicitDefEqProofs := false, maxSteps := 4000000}) only [go_sem, ↓reduceIte, Bool.false_eq_true, Nat.reduceEqDiff, Nat.reduceAdd, Int.reduceLE, Int.reduceLT, Int.reduceEq, Int.reduceToNat, Int.toNat_natCast, Int.cast_ofNat_Int, Int.natCast_one, Nat.reduceMod, Nat.reduceDiv, UInt8.reduceToNat, Nat.reduceLT, c6v, d1, k1, k2', kt, z1, z2, z3]
    rw [LeaveW_flat rfl (Nat.zero_le _)]
  · have hx := hf he
    unfold noS at hx
    simp only [Sc.mk.injEq] at hx
    obtain ⟨rfl, rfl, rfl, rfl⟩ := hx
    have k2' : ∀ st K, CallW cx 8 [.str a] st K = K (.tuple [.agg [.int .i64 0, .nilslice, .bool false, .str []], .agg [.int .i64 er, .int .i64 0, .int .i64 cl]]) st := fun st K => by
      rw [k2 st K]; simp only [scR]; rw [if_neg he]
    have k1' : ∀ st K, CallW cx 7 [.str a] st K = K (.tuple [.agg [.int .i64 0, .nilslice, .bool false, .str []], .agg [.int .i64 er, .int .i64 0, .int .i64 cl]]) st := fun st K => by
      rw [k1 st K]; rfl
    have kt : ∀ st K, CallW cx 9 [.nilslice, .nilslice, .bool true] st K = K (.bool true) st := fun st K => c9 (true, false) (true, false) true [] [] (by simp) st K
    clear k1 k2
    simp (config := {contextual := true, implicitDefEqProofs := false, maxSteps := 4000000}) only [go_sem, ↓reduceIte, Bool.false_eq_true, Nat.reduceEqDiff, Nat.reduceAdd, Int.reduceLE, Int.reduceLT, Int.reduceEq, Int.reduceToNat, Int.toNat_natCast, Int.cast_ofNat_Int, Int.natCast_one, Nat.reduceMod, Nat.reduceDiv, UInt8.reduceToNat, Nat.reduceLT, c6v, d1, k1', k2', kt, z1, z2, z3]
    rw [LeaveW_flat rfl (Nat.zero_le _)]
theorem hlaw3 (as0 : List AV) (h : TyArgs Tryz.prog Tryz.f3.params.toList as0) : ∃ k s', callF cx k 3 as0 st0 = some (.bool true, s') := by
  obtain ⟨a1, r1, rfl, h1, h6⟩ : ∃ a1 r1, as0 = a1 :: r1 ∧ TyArg Tryz.prog 9 a1 ∧ r1 = [] := h
  subst h6
  obtain ⟨s, rfl, _⟩ := TyArg_string Tryz.underlying9 h1
  obtain ⟨k', v, s', h9, rfl⟩ := law3 s
  exact ⟨k', s', h9⟩
end T17

/- The table that the runs read is what the rows list. -/
namespace T17
open Go Fw Go.Proofs Go.RowKit
set_option maxRecDepth 100000
theorem tabEq : (Go.Proofs.YtljlkedecdgimaaGreatDoor.Rows.laid_internal_strconv_uint64pow10 : DataW Unit) = Lib.tabData .u64 pows := rfl
theorem hgl : ∀ W, laidMetH Tryz.prog Go.Proofs.YtljlkedecdgimaaGreatDoor.Rows.lexerScansRow.laid W → ∀ n cs, cx.gl n = some cs → alAll (fun _ => false) cs = true ∧ RC (firstGh W) cs n 0 := by
  intro W h n cs hn
  change gls n = some cs at hn
  unfold gls at hn
  split at hn <;> cases hn
  exact laid_tab (name := "internal/strconv.uint64pow10") h (by rw [← tabEq]; simp [Go.Proofs.YtljlkedecdgimaaGreatDoor.Rows.lexerScansRow]) (by kernel_rfl) (by kernel_rfl) Tryz.underlying106 Tryz.underlying93 (by kernel_rfl) (by kernel_rfl)
end T17
