/- Parts of the proof, one behind the other. -/
import Derived.Test.YteaoeaapmjeciaaDoorK28p
set_option linter.unusedSimpArgs false
set_option linter.unusedVariables false
/- A line without tokens among the lines of a source changes numbers only: the plain law. -/
namespace T08
open Go Fw Go.Proofs
set_option maxRecDepth 100000
/-- What is laid out: the lines, each with its end, and one more ahead of a number. -/
def moreL (at' : Nat) (bl : List UInt8) : List (List UInt8) → Nat → List UInt8
  | [], i => if i = at' then bl ++ [10] else []
  | r :: rs, i => ((if i = at' then bl ++ [10] else []) ++ (r ++ [10])) ++ moreL at' bl rs (i + 1)
def joinN : List (List UInt8) → List UInt8
  | [] => []
  | r :: rs => (r ++ [10]) ++ joinN rs
theorem moreL_past (at' : Nat) (bl : List UInt8) : ∀ (rs : List (List UInt8)) (i : Nat), at' < i → moreL at' bl rs i = joinN rs
  | [], i, h => by simp only [moreL, joinN]; rw [if_neg (by omega)]
  | r :: rs, i, h => by
    simp only [moreL, joinN]
    rw [if_neg (by omega), moreL_past at' bl rs (i + 1) (by omega)]
    simp
theorem moreL_eq (at' : Nat) (bl : List UInt8) : ∀ (rs : List (List UInt8)) (i : Nat), i ≤ at' → at' ≤ i + rs.length → moreL at' bl rs i = joinN (rs.take (at' - i) ++ bl :: rs.drop (at' - i))
  | [], i, h1, h2 => by
    have : i = at' := by simp at h2; omega
    simp only [moreL]
    rw [if_pos this, this]
    simp [joinN]
  | r :: rs, i, h1, h2 => by
    simp only [moreL]
    by_cases h : i = at'
    · rw [if_pos h, moreL_past at' bl rs (i + 1) (by omega), h, Nat.sub_self]
      simp [joinN]
    · rw [if_neg h, moreL_eq at' bl rs (i + 1) (by omega) (by simp only [List.length_cons] at h2; omega)]
      obtain ⟨d, hd⟩ : ∃ d, at' - i = d + 1 := ⟨at' - i - 1, by omega⟩
      rw [hd, show at' - (i + 1) = d by omega]
      simp [joinN]
theorem split_join (r t : List UInt8) (h : ∀ b ∈ r, b ≠ 10) : splitB 10 (r ++ 10 :: t) = r :: splitB 10 t := by
  induction r with
  | nil => simp [splitB]
  | cons b r ih =>
    simp only [List.cons_append, splitB]
    rw [if_neg (h b (by simp)), ih (fun x hx => h x (by simp [hx]))]
theorem split_joinN : ∀ l : List (List UInt8), (∀ r ∈ l, ∀ b ∈ r, b ≠ 10) → splitB 10 (joinN l) = l ++ [[]]
  | [], _ => rfl
  | r :: l, h => by
    simp only [joinN]
    rw [List.append_assoc, List.singleton_append, split_join r _ (h r (by simp)), split_joinN l (fun x hx => h x (by simp [hx]))]
    rfl
theorem lines_joinN (l : List (List UInt8)) (h : ∀ r ∈ l, ∀ b ∈ r, b ≠ 10) : linesB (joinN l) = l := by
  unfold linesB
  rw [trimE_take _ l [] (split_joinN l h), if_pos rfl]
theorem split_free (c : UInt8) : ∀ (a : List UInt8), ∀ x ∈ splitB c a, ∀ b ∈ x, b ≠ c
  | [], x, hx, b, hb => by
    simp only [splitB, List.mem_singleton] at hx
    subst hx
    cases hb
  | d :: l, x, hx, b, hb => by
    have ih := split_free c l
    simp only [splitB] at hx
    split at hx
    · rcases List.mem_cons.1 hx with rfl | hx
      · cases hb
      · exact ih x hx b hb
    · rename_i hd
      cases hs : splitB c l with
      | nil => exact absurd hs (splitB_ne c l)
      | cons y ys =>
        rw [hs] at hx ih
        simp only at hx
        rcases List.mem_cons.1 hx with rfl | hx
        · rcases List.mem_cons.1 hb with rfl | hb
          · exact hd
          · exact ih y (by simp) b hb
        · exact ih x (by simp [hx]) b hb
theorem trimE_mem : ∀ (l : List (List UInt8)), ∀ x ∈ trimE l, x ∈ l
  | [], x, h => by cases h
  | [y], x, h => by
    simp only [trimE] at h
    split at h
    · cases h
    · exact h
  | y :: z :: r, x, h => by
    simp only [trimE] at h
    rcases List.mem_cons.1 h with rfl | h
    · simp
    · exact List.mem_cons_of_mem _ (trimE_mem (z :: r) x h)
theorem lines_free (a : List UInt8) : ∀ x ∈ linesB a, ∀ b ∈ x, b ≠ 10 := fun x hx => split_free 10 a x (trimE_mem _ x hx)
/-- Lines of the same tokens, headings, depths. -/
def key (x : Line × Int) : List Tok × Bool × Int := (x.1.toks, x.1.head, x.2)
theorem fits_key {d : Int} {acc acc' : List (Line × Int)} (h : acc.map key = acc'.map key) : fitsB d acc = fitsB d acc' := by
  have h1 : (acc.map key).getLast? = (acc'.map key).getLast? := by rw [h]
  rw [List.getLast?_map, List.getLast?_map] at h1
  unfold fitsB
  cases ha : acc.getLast? with
  | none =>
    rw [ha] at h1
    cases hb : acc'.getLast? with
    | none => rfl
    | some y => rw [hb] at h1; simp at h1
  | some x =>
    rw [ha] at h1
    cases hb : acc'.getLast? with
    | none => rw [hb] at h1; simp at h1
    | some y =>
      rw [hb] at h1
      simp only [Option.map_some, Option.some.injEq] at h1
      unfold key at h1
      simp only [Prod.mk.injEq] at h1
      simp only
      rw [h1.2.1, h1.2.2]
def simR : List (Line × Int) ⊕ (Int × Int × Int) → List (Line × Int) ⊕ (Int × Int × Int) → Prop
  | .inl x, .inl y => x.map key = y.map key
  | .inr (e, _, c), .inr (e', _, c') => e = e' ∧ c = c'
  | _, _ => False
theorem sim : ∀ (rs : List (List UInt8)) (i j : Nat) (acc acc' : List (Line × Int)), acc.map key = acc'.map key → simR (parseL rs i acc) (parseL rs j acc')
  | [], _, _, _, _, h => h
  | r :: rs, i, j, acc, acc', h => by
    simp only [parseL]
    rw [fits_key h]
    split
    · exact ⟨rfl, rfl⟩
    split
    · exact sim rs (i + 1) (j + 1) acc acc' h
    split
    · exact ⟨rfl, rfl⟩
    · refine sim rs (i + 1) (j + 1) _ _ ?_
      rw [List.map_append, List.map_append, h]
      rfl
theorem sim_ins (bl : List UInt8) (h0 : (scanB bl).2.1 = 0) (hts : (scanB bl).1.ts = []) (R2 : List (List UInt8)) : ∀ (R1 : List (List UInt8)) (i j : Nat) (acc acc' : List (Line × Int)), acc.map key = acc'.map key → simR (parseL (R1 ++ R2) i acc) (parseL (R1 ++ bl :: R2) j acc')
  | [], i, j, acc, acc', h => by
    simp only [List.nil_append]
    have : parseL (bl :: R2) j acc' = parseL R2 (j + 1) acc' := by
      simp only [parseL]
      rw [if_neg (by simp [h0]), if_pos hts]
    rw [this]
    exact sim R2 i (j + 1) acc acc' h
  | r :: R1, i, j, acc, acc', h => by
    simp only [List.cons_append, parseL]
    rw [fits_key h]
    split
    · exact ⟨rfl, rfl⟩
    split
    · exact sim_ins bl h0 hts R2 R1 (i + 1) (j + 1) acc acc' h
    split
    · exact ⟨rfl, rfl⟩
    · refine sim_ins bl h0 hts R2 R1 (i + 1) (j + 1) _ _ ?_
      rw [List.map_append, List.map_append, h]
      rfl
theorem deep_key (b : Int) : ∀ (xs ys : List (Line × Int)), xs.map key = ys.map key → deepN b xs = deepN b ys
  | [], [], _ => rfl
  | [], y :: ys, h => by simp at h
  | x :: xs, [], h => by simp at h
  | x :: xs, y :: ys, h => by
    simp only [List.map_cons, List.cons.injEq] at h
    have hk : x.2 = y.2 := by have := h.1; unfold key at this; simp only [Prod.mk.injEq] at this; exact this.2.2
    simp only [deepN]
    rw [hk, deep_key b xs ys h.2]
theorem same_key : ∀ (k : Nat) (b : Int) (xs ys : List (Line × Int)), xs.map key = ys.map key → sameLs false (bld k b xs) (bld k b ys) = true
  | 0, b, xs, ys, _ => by simp [bld, sameLs]
  | k + 1, b, [], [], _ => by simp [bld, sameLs]
  | k + 1, b, [], y :: ys, h => by simp at h
  | k + 1, b, x :: xs, [], h => by simp at h
  | k + 1, b, x :: xs, y :: ys, h => by
    simp only [List.map_cons, List.cons.injEq] at h
    have hd := deep_key b xs ys h.2
    have hk := h.1
    unfold key at hk
    simp only [Prod.mk.injEq] at hk
    simp only [bld, sameLs]
    rw [hd, same_key k b (xs.drop (deepN b ys)) (ys.drop (deepN b ys)) (by rw [List.map_drop, List.map_drop, h.2]), Bool.and_true, sameL_eq]
    have h1 := same_key k (b + 1) (xs.take (deepN b ys)) (ys.take (deepN b ys)) (by rw [List.map_take, List.map_take, h.2])
    rw [kids_setK, kids_setK, h1]
    have e1 : (setK x.1 (bld k (b + 1) (xs.take (deepN b ys)))).toks = x.1.toks := rfl
    have e2 : (setK y.1 (bld k (b + 1) (ys.take (deepN b ys)))).toks = y.1.toks := rfl
    have e3 : (setK x.1 (bld k (b + 1) (xs.take (deepN b ys)))).head = x.1.head := rfl
    have e4 : (setK y.1 (bld k (b + 1) (ys.take (deepN b ys)))).head = y.1.head := rfl
    rw [e1, e2, e3, e4, hk.1, hk.2.1, sameTs_refl]
    simp
/-- A source with one more line without tokens is parsed alike. -/
theorem blank_sim (a bl : List UInt8) (h0 : (scanB bl).2.1 = 0) (hts : (scanB bl).1.ts = []) (hbl : ∀ b ∈ bl, b ≠ 10) (at' : Nat) (hat : at' ≤ (linesB a).length) (ha : a.length ≤ 65536) (hm : (moreL at' bl (linesB a) 0).length ≤ 65536) : simR (parseB a) (parseB (moreL at' bl (linesB a) 0)) := by
  unfold parseB
  rw [if_neg (by omega), if_neg (by omega)]
  have he := moreL_eq at' bl (linesB a) 0 (Nat.zero_le _) (by omega)
  rw [Nat.sub_zero] at he
  rw [he, lines_joinN _ (fun r hr => by
    rcases List.mem_append.1 hr with hr | hr
    · exact lines_free a r (List.mem_of_mem_take hr)
    · rcases List.mem_cons.1 hr with rfl | hr
      · exact hbl
      · exact lines_free a r (List.mem_of_mem_drop hr))]
  have := sim_ins bl h0 hts ((linesB a).drop at') ((linesB a).take at') 0 0 [] [] rfl
  rw [List.take_append_drop] at this
  exact this
theorem more_len (at' : Nat) (bl : List UInt8) : ∀ (rs : List (List UInt8)) (i : Nat), (moreL at' bl rs i).length ≤ sumR rs + (if i ≤ at' then bl.length + 1 else 0)
  | [], i => by
    simp only [moreL, sumR]
    split
    · rename_i h
      rw [if_pos (by omega)]
      simp
    · simp
  | r :: rs, i => by
    have ih := more_len at' bl rs (i + 1)
    simp only [moreL, sumR, List.length_append, List.length_cons, List.length_nil]
    by_cases h : i = at'
    · rw [if_pos h, if_pos (by omega)]
      rw [if_neg (by omega)] at ih
      simp only [List.length_append, List.length_cons, List.length_nil]
      omega
    · rw [if_neg h]
      simp only [List.length_nil]
      by_cases h2 : i ≤ at'
      · rw [if_pos h2]
        split at ih <;> omega
      · rw [if_neg h2]
        rw [if_neg (by omega)] at ih
        omega
theorem sum_lines (a : List UInt8) : sumR (linesB a) ≤ a.length + 1 := by
  have h2 := sum_trim (splitB 10 a)
  rw [sum_split] at h2
  exact h2
end T08

/- ParserBlanks returns true for all sources, places and blank lines. -/
namespace T08
open Go Fw Go.Proofs
set_option maxRecDepth 100000
set_option maxHeartbeats 4000000
set_option linter.unusedSimpArgs false
set_option linter.unusedVariables false
theorem l6a (bl : List UInt8) (hl : bl.length ≤ 1000) (x0 x1 x7 : AV) (st : St) (Q : Sig → FE → St → Prop) :
    ∀ (n i : Nat) (e : FE), i + n = bl.length → (∀ j, j < i → bl.getD j 0 ≠ 10) → e 0 = x0 → e 1 = x1 → e 2 = .str bl → e 7 = x7 → e 11 = .int .i64 (i : Int) →
    (∀ e', e' 6 = .bool true → Q .ret e' st) → (∀ e', (∀ b ∈ bl, b ≠ 10) → e' 0 = x0 → e' 1 = x1 → e' 2 = .str bl → e' 7 = x7 → Q (.exit 0) e' st) → WLoop cx ir6L0 e st Q
  | 0, i, e, hi, hok, h0, h1, h2, h7, h11, hR, hQ => by
    refine WLoop.rnd (c := _) ir6L0.eq_1 ?_
    have hd : decide ((i : Int) < (bl.length : Int)) = false := decide_eq_false (by omega)
    simp (config := {contextual := true, implicitDefEqProofs := false, maxSteps := 4000000}) only [go_sem, ↓reduceIte, Bool.false_eq_true, Nat.reduceEqDiff, Nat.reduceAdd, Int.reduceLE, Int.reduceLT, Int.reduceEq, Int.reduceToNat, Int.toNat_natCast, Int.cast_ofNat_Int, Int.natCast_one, Nat.reduceMod, Nat.reduceDiv, UInt8.reduceToNat, Nat.reduceLT, h2, h11, hd]
    refine hQ _ (fun b hb => ?_) h0 h1 h2 h7
    obtain ⟨j, hj, rfl⟩ := List.getElem_of_mem hb
    have := hok j (by omega)
    simpa [List.getD, hj] using this
  | n + 1, i, e, hi, hok, h0, h1, h2, h7, h11, hR, hQ => by
    refine WLoop.rnd (c := _) ir6L0.eq_1 ?_
    have hd : decide ((i : Int) < (bl.length : Int)) = true := decide_eq_true (by omega)
    have w1 := wrap_one (i := i) (by omega)
    have b1 : (0 : Int) ≤ (i : Int) := by omega
    have b2 : (i : Int) < (bl.length : Int) := by omega
    obtain ⟨b, hb⟩ : ∃ b, bl.getD i 0 = b := ⟨_, rfl⟩
    have f1 : decide (((b.toNat : Nat) : Int) = 10) = decide (b = 10) := is_byte 10 b
    by_cases hc : b = 10
    · rw [decide_eq_true hc] at f1
      simp (config := {contextual := true, implicitDefEqProofs := false, maxSteps := 4000000}) only [go_sem, ↓reduceIte, Bool.false_eq_true, Nat.reduceEqDiff, Nat.reduceAdd, Int.reduceLE, Int.reduceLT, Int.reduceEq, Int.reduceToNat, Int.toNat_natCast, Int.cast_ofNat_Int, Int.natCast_one, Nat.reduceMod, Nat.reduceDiv, UInt8.reduceToNat, Nat.reduceLT, h2, h11, hd, b1, b2, hb, f1, c9]
      exact hR _ rfl
    · rw [decide_eq_false hc] at f1
      simp (config := {contextual := true, implicitDefEqProofs := false, maxSteps := 4000000}) only [go_sem, ↓reduceIte, Bool.false_eq_true, Nat.reduceEqDiff, Nat.reduceAdd, Int.reduceLE, Int.reduceLT, Int.reduceEq, Int.reduceToNat, Int.toNat_natCast, Int.cast_ofNat_Int, Int.natCast_one, Nat.reduceMod, Nat.reduceDiv, UInt8.reduceToNat, Nat.reduceLT, h2, h11, hd, b1, b2, hb, f1, w1]
      refine l6a bl hl x0 x1 x7 st Q n (i + 1) _ (by omega) (fun j hj => ?_) h0 h1 h2 h7 rfl hR hQ
      by_cases hji : j = i
      · rw [hji, hb]; exact hc
      · exact hok j (by omega)
theorem l6b (rows full : List (List UInt8)) (cp : Nat) (hrl : rows.length ≤ 200) (hsub : ∀ i (h : i < rows.length), sub (encS full) i 1 = some [.str rows[i]]) (bl : List UInt8) (hbl : bl.length ≤ 40) (at' : Nat) (hat : at' ≤ rows.length) (x0 : AV) (st : St) (hlk : Fw.look 0 st.heap = some (.cells none (encS full))) (Q : Sig → FE → St → Prop) :
    ∀ (n i : Nat) (acc : List UInt8) (e : FE), i + n = rows.length + 1 → acc.length + (moreL at' bl (rows.drop i) i).length ≤ 100000 → e 0 = x0 → e 1 = .int .i64 (at' : Int) → e 2 = .str bl → e 7 = .mslice 0 0 rows.length (some cp) → e 12 = .str acc → e 13 = .int .i64 (i : Int) →
    (∀ e', e' 0 = x0 → e' 12 = .str (if i ≤ rows.length then acc ++ moreL at' bl (rows.drop i) i else acc) → Q (.exit 2) e' st) → WLoop cx ir6L1 e st Q
  | 0, i, acc, e, hi, hlen, h0, h1, h2, h7, h12, h13, hQ => by
    refine WLoop.rnd (c := _) ir6L1.eq_1 ?_
    have hd : decide ((i : Int) ≤ (rows.length : Int)) = false := decide_eq_false (by omega)
    rw [if_neg (by omega)] at hQ
    simp (config := {contextual := true, implicitDefEqProofs := false, maxSteps := 4000000}) only [go_sem, ↓reduceIte, Bool.false_eq_true, Nat.reduceEqDiff, Nat.reduceAdd, Int.reduceLE, Int.reduceLT, Int.reduceEq, Int.reduceToNat, Int.toNat_natCast, Int.cast_ofNat_Int, Int.natCast_one, Nat.reduceMod, Nat.reduceDiv, UInt8.reduceToNat, Nat.reduceLT, h7, h13, hd]
    exact hQ _ h0 h12
  | n + 1, i, acc, e, hi, hlen, h0, h1, h2, h7, h12, h13, hQ => by
    refine WLoop.rnd (c := _) ir6L1.eq_1 ?_
    have hd : decide ((i : Int) ≤ (rows.length : Int)) = true := decide_eq_true (by omega)
    have w1 := wrap_one (i := i) (by omega)
    rw [if_pos (by omega)] at hQ
    have g1 : bl.length + 1 ≤ 9223372036854775807 := by omega
    by_cases hlt : i < rows.length
    · have d2 : decide ((i : Int) < (rows.length : Int)) = true := decide_eq_true (by omega)
      have b1 : (0 : Int) ≤ (i : Int) ∧ (i : Int) < (rows.length : Int) := by omega
      have s1 := hsub i hlt
      rw [List.drop_eq_getElem_cons hlt] at hlen hQ
      simp only [moreL] at hlen hQ
      obtain ⟨r, hr⟩ : ∃ r, rows[i] = r := ⟨_, rfl⟩
      rw [hr] at s1 hlen hQ
      simp only [List.length_append, List.length_cons, List.length_nil] at hlen
      have g2 : r.length + 1 ≤ 9223372036854775807 := by omega
      by_cases hia : i = at'
      · have d1 : decide ((i : Int) = (at' : Int)) = true := decide_eq_true (by omega)
        rw [if_pos hia] at hlen hQ
        simp only [List.length_append, List.length_cons, List.length_nil] at hlen
        have g3 : acc.length + (bl ++ [10]).length ≤ 9223372036854775807 := by simp only [List.length_append, List.length_cons, List.length_nil]; omega
        have g4 : (acc ++ (bl ++ [10])).length + (r ++ [10]).length ≤ 9223372036854775807 := by simp only [List.length_append, List.length_cons, List.length_nil]; omega
        simp (config := {contextual := true, implicitDefEqProofs := false, maxSteps := 4000000}) only [go_sem, ↓reduceIte, Bool.false_eq_true, Nat.reduceEqDiff, Nat.reduceAdd, Int.reduceLE, Int.reduceLT, Int.reduceEq, Int.reduceToNat, Int.toNat_natCast, Int.cast_ofNat_Int, Int.natCast_one, Nat.reduceMod, Nat.reduceDiv, UInt8.reduceToNat, Nat.reduceLT, h0, h1, h2, h7, h12, h13, hd, d1, d2, b1, Nat_mul_one, hlk, s1, g1, g2, g3, g4, w1, List.length_cons, List.length_nil, Nat.zero_add]
        refine l6b rows full cp hrl hsub bl hbl at' hat x0 st hlk Q n (i + 1) ((acc ++ (bl ++ [10])) ++ (r ++ [10])) _ (by omega) (by simp only [List.length_append, List.length_cons, List.length_nil]; omega) h0 h1 h2 h7 rfl rfl ?_
        intro e' a0 a12
        rw [if_pos (by omega)] at a12
        refine hQ e' a0 ?_
        rw [a12]; simp
      · have d1 : decide ((i : Int) = (at' : Int)) = false := decide_eq_false (by omega)
        rw [if_neg hia] at hlen hQ
        simp only [List.length_nil] at hlen
        have g4 : acc.length + (r ++ [10]).length ≤ 9223372036854775807 := by simp only [List.length_append, List.length_cons, List.length_nil]; omega
        simp (config := {contextual := true, implicitDefEqProofs := false, maxSteps := 4000000}) only [go_sem, ↓reduceIte, Bool.false_eq_true, Nat.reduceEqDiff, Nat.reduceAdd, Int.reduceLE, Int.reduceLT, Int.reduceEq, Int.reduceToNat, Int.toNat_natCast, Int.cast_ofNat_Int, Int.natCast_one, Nat.reduceMod, Nat.reduceDiv, UInt8.reduceToNat, Nat.reduceLT, h0, h1, h2, h7, h12, h13, hd, d1, d2, b1, Nat_mul_one, hlk, s1, g2, g4, w1, List.length_cons, List.length_nil, Nat.zero_add]
        refine l6b rows full cp hrl hsub bl hbl at' hat x0 st hlk Q n (i + 1) (acc ++ (r ++ [10])) _ (by omega) (by simp only [List.length_append, List.length_cons, List.length_nil]; omega) h0 h1 h2 h7 rfl rfl ?_
        intro e' a0 a12
        rw [if_pos (by omega)] at a12
        refine hQ e' a0 ?_
        rw [a12]; simp
    · have d2 : decide ((i : Int) < (rows.length : Int)) = false := decide_eq_false (by omega)
      rw [List.drop_eq_nil_of_le (by omega)] at hlen hQ
      simp only [moreL] at hlen hQ
      by_cases hia : i = at'
      · have d1 : decide ((i : Int) = (at' : Int)) = true := decide_eq_true (by omega)
        rw [if_pos hia] at hlen hQ
        simp only [List.length_append, List.length_cons, List.length_nil] at hlen
        have g3 : acc.length + (bl ++ [10]).length ≤ 9223372036854775807 := by simp only [List.length_append, List.length_cons, List.length_nil]; omega
        simp (config := {contextual := true, implicitDefEqProofs := false, maxSteps := 4000000}) only [go_sem, ↓reduceIte, Bool.false_eq_true, Nat.reduceEqDiff, Nat.reduceAdd, Int.reduceLE, Int.reduceLT, Int.reduceEq, Int.reduceToNat, Int.toNat_natCast, Int.cast_ofNat_Int, Int.natCast_one, Nat.reduceMod, Nat.reduceDiv, UInt8.reduceToNat, Nat.reduceLT, h0, h1, h2, h7, h12, h13, hd, d1, d2, g1, g3, w1, List.length_cons, List.length_nil, Nat.zero_add]
        refine l6b rows full cp hrl hsub bl hbl at' hat x0 st hlk Q n (i + 1) (acc ++ (bl ++ [10])) _ (by omega) (by rw [List.drop_eq_nil_of_le (by omega)]; simp only [moreL]; rw [if_neg (by omega)]; simp only [List.length_append, List.length_cons, List.length_nil]; omega) h0 h1 h2 h7 rfl rfl ?_
        intro e' a0 a12
        rw [if_neg (by omega)] at a12
        exact hQ e' a0 a12
      · have d1 : decide ((i : Int) = (at' : Int)) = false := decide_eq_false (by omega)
        rw [if_neg hia] at hlen hQ
        rw [List.append_nil] at hQ
        simp (config := {contextual := true, implicitDefEqProofs := false, maxSteps := 4000000}) only [go_sem, ↓reduceIte, Bool.false_eq_true, Nat.reduceEqDiff, Nat.reduceAdd, Int.reduceLE, Int.reduceLT, Int.reduceEq, Int.reduceToNat, Int.toNat_natCast, Int.cast_ofNat_Int, Int.natCast_one, Nat.reduceMod, Nat.reduceDiv, UInt8.reduceToNat, Nat.reduceLT, h0, h1, h2, h7, h12, h13, hd, d1, d2, w1]
        refine l6b rows full cp hrl hsub bl hbl at' hat x0 st hlk Q n (i + 1) acc _ (by omega) (by rw [List.drop_eq_nil_of_le (by omega)]; simp only [moreL]; rw [if_neg (by omega)]; exact hlen) h0 h1 h2 h7 h12 rfl ?_
        intro e' a0 a12
        rw [if_neg (by omega)] at a12
        exact hQ e' a0 a12
theorem head_nil (r : List UInt8) (h : (scanB r).1.ts = []) : (scanB r).1.head = false := by
  unfold scanB at h ⊢
  split
  · rfl
  rename_i h1
  rw [if_neg h1] at h
  split
  · rfl
  rename_i h2
  rw [if_neg h2] at h
  split
  · rfl
  · rename_i us c hs
    rw [hs] at h
    simp only at h
    unfold endB at h ⊢
    split
    · rename_i h3
      rw [if_pos h3] at h
      split
      · rfl
      · rename_i h4
        rw [if_neg h4] at h
        have := congrArg List.length h
        rw [List.length_dropLast, List.length_nil] at this
        have h5 := List.length_pos_iff.2 h3.1
        omega
    · rfl
theorem parseL_err : ∀ (rs : List (List UInt8)) (i : Nat) (acc : List (Line × Int)) (er ln cl : Int), parseL rs i acc = .inr (er, ln, cl) → er ≠ 0
  | [], i, acc, er, ln, cl, h => by simp [parseL] at h
  | r :: rs, i, acc, er, ln, cl, h => by
    simp only [parseL] at h
    split at h
    · rename_i h0
      cases h
      exact h0
    split at h
    · exact parseL_err rs (i + 1) acc er ln cl h
    split at h
    · cases h; decide
    · exact parseL_err rs (i + 1) _ er ln cl h
theorem parse_err (a : List UInt8) {er ln cl : Int} (h : parseB a = .inr (er, ln, cl)) : er ≠ 0 := by
  unfold parseB at h
  split at h
  · cases h; decide
  · exact parseL_err _ _ _ _ _ _ h
theorem law6 (a bl : List UInt8) (x : Int) : CallW cx 6 [.str a, .int .i64 x, .str bl] { heap := [], next := 0, low := 0 } fun v _ => v = .bool true := by
  refine CallW.fn' (fn := ir6) rfl rfl (by kernel_rfl) ir6.eq_1 ?_
  by_cases h1 : 1400 < a.length
  · have d1 : decide ((1400 : Int) < (a.length : Int)) = true := decide_eq_true (by omega)
    simp (config := {contextual := true, implicitDefEqProofs := false, maxSteps := 4000000}) only [go_sem, ↓reduceIte, Bool.false_eq_true, Nat.reduceEqDiff, Nat.reduceAdd, Int.reduceLE, Int.reduceLT, Int.reduceEq, Int.reduceToNat, Int.toNat_natCast, Int.cast_ofNat_Int, Int.natCast_one, Nat.reduceMod, Nat.reduceDiv, UInt8.reduceToNat, Nat.reduceLT, c9, d1]
  have d1 : decide ((1400 : Int) < (a.length : Int)) = false := decide_eq_false (by omega)
  by_cases h2 : 40 < bl.length
  · have d2 : decide ((40 : Int) < (bl.length : Int)) = true := decide_eq_true (by omega)
    simp (config := {contextual := true, implicitDefEqProofs := false, maxSteps := 4000000}) only [go_sem, ↓reduceIte, Bool.false_eq_true, Nat.reduceEqDiff, Nat.reduceAdd, Int.reduceLE, Int.reduceLT, Int.reduceEq, Int.reduceToNat, Int.toNat_natCast, Int.cast_ofNat_Int, Int.natCast_one, Nat.reduceMod, Nat.reduceDiv, UInt8.reduceToNat, Nat.reduceLT, c9, d1, d2]
  have d2 : decide ((40 : Int) < (bl.length : Int)) = false := decide_eq_false (by omega)
  have k1 := fun st K => c17 a (by omega) st K
  have k2 := fun st K => c18 bl st K
  have hsub : ∀ i (h : i < (linesB a).length), sub (encS (splitB 10 a)) i 1 = some [.str (linesB a)[i]] := fun i hi => by
    obtain ⟨h3, h4⟩ := trimE_get (splitB 10 a) i hi
    rw [str_at h3, h4]; rfl
  have hhead := head_nil bl
  have hsim := fun h0 hts => blank_sim a bl h0 hts
  generalize scanB bl = y at *
  obtain ⟨⟨ind, ts, hd, com⟩, er, cl⟩ := y
  simp only at hhead hsim
  simp only [scO] at k2
  have dz : decide ((0 : Int) ≠ 0) = false := rfl
  by_cases her : er = 0
  case neg =>
    have d3 : decide (er ≠ 0) = true := decide_eq_true her
    simp (config := {contextual := true, implicitDefEqProofs := false, maxSteps := 4000000}) only [go_sem, ↓reduceIte, Bool.false_eq_true, Nat.reduceEqDiff, Nat.reduceAdd, Int.reduceLE, Int.reduceLT, Int.reduceEq, Int.reduceToNat, Int.toNat_natCast, Int.cast_ofNat_Int, Int.natCast_one, Nat.reduceMod, Nat.reduceDiv, UInt8.reduceToNat, Nat.reduceLT, c9, d1, d2, k1, k2, dz, d3]
    rw [LeaveW_flat rfl (Nat.zero_le _)]
  subst her
  by_cases hts : ts = []
  case neg =>
    have d3 : decide ((0 : Int) < (ts.length : Int)) = true := decide_eq_true (by have := List.length_pos_iff.2 hts; omega)
    simp (config := {contextual := true, implicitDefEqProofs := false, maxSteps := 4000000}) only [go_sem, ↓reduceIte, Bool.false_eq_true, Nat.reduceEqDiff, Nat.reduceAdd, Int.reduceLE, Int.reduceLT, Int.reduceEq, Int.reduceToNat, Int.toNat_natCast, Int.cast_ofNat_Int, Int.natCast_one, Nat.reduceMod, Nat.reduceDiv, UInt8.reduceToNat, Nat.reduceLT, c9, d1, d2, k1, k2, dz, d3]
    rw [LeaveW_flat rfl (Nat.zero_le _)]
  have hh := hhead hts
  subst hh
  subst hts
  have k2' : ∀ st K, CallW cx 18 [.str bl] st K = K (.tuple [.agg [.int .i64 ind, .nilslice, .bool false, .str com], .agg [.int .i64 0, .int .i64 0, .int .i64 cl]]) st := k2
  clear k2
  have d3 : decide ((0 : Int) < 0) = false := rfl
  by_cases h200 : 200 < (linesB a).length
  · have d4 : decide ((200 : Int) < ((linesB a).length : Int)) = true := decide_eq_true (by omega)
    simp (config := {contextual := true, implicitDefEqProofs := false, maxSteps := 4000000}) only [go_sem, ↓reduceIte, Bool.false_eq_true, Nat.reduceEqDiff, Nat.reduceAdd, Int.reduceLE, Int.reduceLT, Int.reduceEq, Int.reduceToNat, Int.toNat_natCast, Int.cast_ofNat_Int, Int.natCast_one, Nat.reduceMod, Nat.reduceDiv, UInt8.reduceToNat, Nat.reduceLT, c9, d1, d2, k1, k2', dz, d3, d4]
    rw [LeaveW_flat rfl (Nat.zero_le _)]
  have d4 : decide ((200 : Int) < ((linesB a).length : Int)) = false := decide_eq_false (by omega)
  by_cases hx0 : x < 0
  · have d5 : decide (x < 0) = true := decide_eq_true hx0
    simp (config := {contextual := true, implicitDefEqProofs := false, maxSteps := 4000000}) only [go_sem, ↓reduceIte, Bool.false_eq_true, Nat.reduceEqDiff, Nat.reduceAdd, Int.reduceLE, Int.reduceLT, Int.reduceEq, Int.reduceToNat, Int.toNat_natCast, Int.cast_ofNat_Int, Int.natCast_one, Nat.reduceMod, Nat.reduceDiv, UInt8.reduceToNat, Nat.reduceLT, c9, d1, d2, k1, k2', dz, d3, d4, d5]
    rw [LeaveW_flat rfl (Nat.zero_le _)]
  have d5 : decide (x < 0) = false := decide_eq_false hx0
  by_cases hxl : ((linesB a).length : Int) < x
  · have d6 : decide (((linesB a).length : Int) < x) = true := decide_eq_true hxl
    simp (config := {contextual := true, implicitDefEqProofs := false, maxSteps := 4000000}) only [go_sem, ↓reduceIte, Bool.false_eq_true, Nat.reduceEqDiff, Nat.reduceAdd, Int.reduceLE, Int.reduceLT, Int.reduceEq, Int.reduceToNat, Int.toNat_natCast, Int.cast_ofNat_Int, Int.natCast_one, Nat.reduceMod, Nat.reduceDiv, UInt8.reduceToNat, Nat.reduceLT, c9, d1, d2, k1, k2', dz, d3, d4, d5, d6]
    rw [LeaveW_flat rfl (Nat.zero_le _)]
  have d6 : decide (((linesB a).length : Int) < x) = false := decide_eq_false hxl
  obtain ⟨at', rfl⟩ : ∃ n : Nat, x = (n : Int) := ⟨x.toNat, by omega⟩
  simp (config := {contextual := true, implicitDefEqProofs := false, maxSteps := 4000000}) only [go_sem, ↓reduceIte, Bool.false_eq_true, Nat.reduceEqDiff, Nat.reduceAdd, Int.reduceLE, Int.reduceLT, Int.reduceEq, Int.reduceToNat, Int.toNat_natCast, Int.cast_ofNat_Int, Int.natCast_one, Nat.reduceMod, Nat.reduceDiv, UInt8.reduceToNat, Nat.reduceLT, c9, d1, d2, k1, k2', dz, d3, d4, d5, d6]
  refine l6a bl (by omega) _ _ _ _ _ bl.length 0 _ (by omega) (fun j hj => by omega) rfl rfl rfl rfl rfl ?_ ?_
  · intro e1 h6
    simp (config := {contextual := true, implicitDefEqProofs := false, maxSteps := 4000000}) only [go_sem, ↓reduceIte, Bool.false_eq_true, Nat.reduceEqDiff, Nat.reduceAdd, Int.reduceLE, Int.reduceLT, Int.reduceEq, Int.reduceToNat, Int.toNat_natCast, Int.cast_ofNat_Int, Int.natCast_one, Nat.reduceMod, Nat.reduceDiv, UInt8.reduceToNat, Nat.reduceLT, h6]
    rw [LeaveW_flat rfl (Nat.zero_le _)]
  intro e1 hfree h0 h1 h2 h7
  have h0 : e1 0 = .str a := h0
  have h1 : e1 1 = .int .i64 (at' : Int) := h1
  have h7 : e1 7 = .mslice 0 0 (linesB a).length (some (a.count 10 + 1)) := h7
  have hml := more_len at' bl (linesB a) 0
  rw [if_pos (Nat.zero_le _)] at hml
  have hsl := sum_lines a
  simp (config := {contextual := true, implicitDefEqProofs := false, maxSteps := 4000000}) only [go_sem, ↓reduceIte, Bool.false_eq_true, Nat.reduceEqDiff, Nat.reduceAdd, Int.reduceLE, Int.reduceLT, Int.reduceEq, Int.reduceToNat, Int.toNat_natCast, Int.cast_ofNat_Int, Int.natCast_one, Nat.reduceMod, Nat.reduceDiv, UInt8.reduceToNat, Nat.reduceLT]
  refine l6b (linesB a) (splitB 10 a) (a.count 10 + 1) (by omega) hsub bl (by omega) at' (by omega) (.str a) _ (by simp [Fw.look]) _ ((linesB a).length + 1) 0 [] _ (by omega) (by rw [List.drop_zero, List.length_nil]; omega) h0 h1 h2 h7 rfl rfl ?_
  intro e2 h0 h12
  rw [if_pos (Nat.zero_le _), List.drop_zero, List.nil_append] at h12
  have hs := hsim rfl rfl hfree at' (by omega) (by omega) (by omega)
  obtain ⟨m, hm⟩ : ∃ m, moreL at' bl (linesB a) 0 = m := ⟨_, rfl⟩
  rw [hm] at h12 hs
  have kA := fun st K => c16 a st K
  have kB := fun st K => c16 m st K
  have z1 : ∀ u : Int, decide (u = u) = true := fun u => by simp
  cases hp : parseB a with
  | inr y =>
    obtain ⟨e, l, c⟩ := y
    rw [hp] at kA hs
    have hne : e ≠ 0 := parse_err a hp
    cases hq : parseB m with
    | inl y => rw [hq] at hs; exact hs.elim
    | inr y =>
      obtain ⟨e', l', c'⟩ := y
      rw [hq] at kB hs
      obtain ⟨rfl, rfl⟩ := hs
      have kA' : ∀ st K, CallW cx 16 [.str a] st K = K (.tuple [.nilslice, .agg [.int .i64 e, .int .i64 l, .int .i64 c]]) st := kA
      have kB' : ∀ st K, CallW cx 16 [.str m] st K = K (.tuple [.nilslice, .agg [.int .i64 e, .int .i64 l', .int .i64 c]]) st := kB
      have d7 : decide (e ≠ 0) = true := decide_eq_true hne
      clear kA kB
      simp (config := {contextual := true, implicitDefEqProofs := false, maxSteps := 4000000}) only [go_sem, ↓reduceIte, Bool.false_eq_true, Nat.reduceEqDiff, Nat.reduceAdd, Int.reduceLE, Int.reduceLT, Int.reduceEq, Int.reduceToNat, Int.toNat_natCast, Int.cast_ofNat_Int, Int.natCast_one, Nat.reduceMod, Nat.reduceDiv, UInt8.reduceToNat, Nat.reduceLT, h0, h12, kA', kB', d7, c9, z1]
      rw [LeaveW_flat rfl (Nat.zero_le _)]
  | inl acc =>
    rw [hp] at kA hs
    cases hq : parseB m with
    | inr y => rw [hq] at hs; exact hs.elim
    | inl acc' =>
      rw [hq] at kB hs
      have hP := parsed hp
      have hlen : acc.length = acc'.length := by have := congrArg List.length (show acc.map key = acc'.map key from hs); simpa using this
      have hsm := same_key acc.length 0 acc acc' hs
      have hfT := few_bld acc.length 0 acc hP.few
      have hcn := cnt_bld acc.length 0 acc (Nat.le_refl _) hP.nice
      have hal := hP.len
      unfold parO bldV at kA kB
      simp only at kA kB
      rw [← hlen] at kB
      have ks := fun st K => c12 false (bld acc.length 0 acc) hfT (by omega) (true, false) (true, false) (bld acc.length 0 acc') st K
      rw [hsm] at ks
      clear hsm hfT hcn
      generalize bld acc.length 0 acc = T at *
      generalize bld acc.length 0 acc' = T' at *
      simp (config := {contextual := true, implicitDefEqProofs := false, maxSteps := 4000000}) only [go_sem, ↓reduceIte, Bool.false_eq_true, Nat.reduceEqDiff, Nat.reduceAdd, Int.reduceLE, Int.reduceLT, Int.reduceEq, Int.reduceToNat, Int.toNat_natCast, Int.cast_ofNat_Int, Int.natCast_one, Nat.reduceMod, Nat.reduceDiv, UInt8.reduceToNat, Nat.reduceLT, h0, h12, kA, kB, dz, c9, z1, ks]
      rw [LeaveW_flat rfl (Nat.zero_le _)]
theorem hlaw6 (as0 : List AV) (h : TyArgs Tryd.prog Tryd.f6.params.toList as0) : ∃ k s', callF cx k 6 as0 st0 = some (.bool true, s') := by
  obtain ⟨a1, r1, rfl, h1, a2, r2, rfl, h2, a3, r3, rfl, h3, h6⟩ : ∃ a1 r1, as0 = a1 :: r1 ∧ TyArg Tryd.prog 9 a1 ∧ ∃ a2 r2, r1 = a2 :: r2 ∧ TyArg Tryd.prog 3 a2 ∧ ∃ a3 r3, r2 = a3 :: r3 ∧ TyArg Tryd.prog 9 a3 ∧ r3 = [] := h
  subst h6
  obtain ⟨s, rfl, _⟩ := TyArg_string Tryd.underlying9 h1
  obtain ⟨x, rfl, _⟩ := TyArg_int Tryd.underlying3 h2
  obtain ⟨b, rfl, _⟩ := TyArg_string Tryd.underlying9 h3
  obtain ⟨k', v, s', h9, rfl⟩ := law6 s b x
  exact ⟨k', s', h9⟩
end T08
