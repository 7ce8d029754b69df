/- Parts of the proof, one behind the other. -/
import Derived.Test.YteaoeaapmjeciaaGreatDoorK38p
import Derived.Test.YteaoeaapmjeciaaGreatDoorK38a
import Derived.Test.YteaoeaapmjeciaaGreatDoorK38t
set_option linter.unusedSimpArgs false
set_option linter.unusedVariables false

/- What is parsed is well nested; the tree flattens to its lines: the plain law. -/
namespace T18
open Go Fw Go.Proofs
set_option maxRecDepth 100000
/-- The lines of rows that have tokens, with their depths. -/
def rowsL : List (List UInt8) → Nat → List (Line × Int)
  | [], _ => []
  | r :: rs, i => if (scanB r).1.ts = [] then rowsL rs (i + 1) else (.mk (true, false) (scanB r).1.ts (scanB r).1.head (true, false) [] ((i + 1 : Nat) : Int), (scanB r).1.ind) :: rowsL rs (i + 1)
/-- Each line fits behind the ones ahead of it. -/
def chainB (acc : List (Line × Int)) : List (Line × Int) → Prop
  | [] => True
  | x :: xs => fitsB x.2 acc = true ∧ chainB (acc ++ [x]) xs
theorem parseL_inl : ∀ (rs : List (List UInt8)) (i : Nat) (acc acc' : List (Line × Int)), parseL rs i acc = .inl acc' → acc' = acc ++ rowsL rs i ∧ (∀ r ∈ rs, (scanB r).2.1 = 0) ∧ chainB acc (rowsL rs i)
  | [], i, acc, acc', h => by
    simp only [parseL] at h
    cases h
    exact ⟨by simp [rowsL], (fun r hr => by cases hr), trivial⟩
  | r :: rs, i, acc, acc', h => by
    simp only [parseL] at h
    split at h
    · cases h
    rename_i h0
    have h0 : (scanB r).2.1 = 0 := by simpa using h0
    split at h
    · rename_i ht
      obtain ⟨h1, h2, h3⟩ := parseL_inl rs (i + 1) acc acc' h
      simp only [rowsL]
      rw [if_pos ht]
      refine ⟨h1, fun x hx => ?_, h3⟩
      rcases List.mem_cons.1 hx with rfl | hx
      · exact h0
      · exact h2 x hx
    rename_i ht
    split at h
    · cases h
    rename_i hf
    have hf : fitsB (scanB r).1.ind acc = true := by simpa using hf
    obtain ⟨h1, h2, h3⟩ := parseL_inl rs (i + 1) _ acc' h
    simp only [rowsL]
    rw [if_neg ht]
    refine ⟨by rw [h1]; simp, fun x hx => ?_, hf, h3⟩
    rcases List.mem_cons.1 hx with rfl | hx
    · exact h0
    · exact h2 x hx
/-- Depths from a base on, each at most one more than the one ahead. -/
def steps (d : Int) : List (Line × Int) → Prop
  | [] => True
  | x :: xs => x.2 ≤ d + 1 ∧ steps x.2 xs
def nice (b : Int) (xs : List (Line × Int)) : Prop := (∀ x ∈ xs, b ≤ x.2) ∧ steps (b - 1) xs
theorem chain_steps : ∀ (xs acc : List (Line × Int)) (x : Line × Int), chainB (acc ++ [x]) xs → steps x.2 xs
  | [], _, _, _ => trivial
  | y :: xs, acc, x, h => by
    simp only [chainB] at h
    refine ⟨?_, chain_steps xs (acc ++ [x]) y h.2⟩
    have := h.1
    unfold fitsB at this
    simp only [List.getLast?_append, List.getLast?_singleton, Option.some_or] at this
    simp only [Bool.or_eq_true, Bool.and_eq_true, decide_eq_true_eq] at this
    omega
theorem chain_nice (xs : List (Line × Int)) (h : chainB [] xs) (h0 : ∀ x ∈ xs, 0 ≤ x.2) : nice 0 xs := by
  refine ⟨h0, ?_⟩
  cases xs with
  | nil => trivial
  | cons x xs =>
    simp only [chainB, List.nil_append] at h
    have h1 := h.1
    unfold fitsB at h1
    simp only [List.getLast?_nil, decide_eq_true_eq] at h1
    exact ⟨by omega, chain_steps xs [] x h.2⟩
theorem deep_take (b : Int) : ∀ (xs : List (Line × Int)), ∀ x ∈ xs.take (deepN b xs), b < x.2
  | [], x, h => by simp at h
  | y :: xs, x, h => by
    simp only [deepN] at h
    split at h
    · rename_i hy
      rw [List.take_succ_cons] at h
      rcases List.mem_cons.1 h with rfl | h
      · exact hy
      · exact deep_take b xs x h
    · simp at h
theorem deep_drop (b : Int) : ∀ (xs : List (Line × Int)) (y : Line × Int) (ys : List (Line × Int)), xs.drop (deepN b xs) = y :: ys → y.2 ≤ b
  | [], y, ys, h => by simp at h
  | z :: xs, y, ys, h => by
    simp only [deepN] at h
    split at h
    · rw [List.drop_succ_cons] at h
      exact deep_drop b xs y ys h
    · rename_i hz
      simp only [List.drop_zero, List.cons.injEq] at h
      rw [← h.1]; omega
theorem steps_take : ∀ (xs : List (Line × Int)) (n : Nat) (d : Int), steps d xs → steps d (xs.take n)
  | xs, 0, d, _ => by simp [steps]
  | [], n + 1, d, _ => by simp [steps]
  | x :: xs, n + 1, d, h => ⟨h.1, steps_take xs n x.2 h.2⟩
theorem steps_drop : ∀ (xs : List (Line × Int)) (n : Nat) (d b : Int), steps d xs → (∀ y ys, xs.drop n = y :: ys → y.2 ≤ b) → steps (b - 1) (xs.drop n)
  | [], n, d, b, _, _ => by simp [steps]
  | x :: xs, 0, d, b, h, hb => by
    have := hb x xs rfl
    exact ⟨by omega, h.2⟩
  | x :: xs, n + 1, d, b, h, hb => by
    rw [List.drop_succ_cons] at hb ⊢
    exact steps_drop xs n x.2 b h.2 hb
theorem nice_split {b : Int} {x : Line × Int} {xs : List (Line × Int)} (h : nice b (x :: xs)) : x.2 = b ∧ nice (b + 1) (xs.take (deepN b xs)) ∧ nice b (xs.drop (deepN b xs)) := by
  obtain ⟨h1, h2, h3⟩ := h
  have hx := h1 x (by simp)
  have hxb : x.2 = b := by omega
  refine ⟨hxb, ⟨fun y hy => by have := deep_take b xs y hy; omega, ?_⟩, fun y hy => h1 y (by simp [List.mem_of_mem_drop hy]), ?_⟩
  · rw [show b + 1 - 1 = x.2 by omega]
    exact steps_take xs _ x.2 h3
  · exact steps_drop xs _ x.2 b h3 (fun y ys hy => deep_drop b xs y ys hy)
theorem kids_setK (l : Line) (ks : List Line) : (setK l ks).kids = ks := rfl
/-- The tree's lines and depths are those that it was built of. -/
theorem flat_bld (g : TN → List Tok → TN) : ∀ (k : Nat) (b : Int) (xs : List (Line × Int)), xs.length ≤ k → nice b xs → flLs g (bld k b xs) = xs.map (fun x => bare g x.1) ∧ dpLs b (bld k b xs) = xs.map Prod.snd
  | 0, b, xs, hk, _ => by
    have : xs = [] := List.eq_nil_of_length_eq_zero (by omega)
    subst this
    simp [bld, flLs, dpLs]
  | k + 1, b, [], _, _ => by simp [bld, flLs, dpLs]
  | k + 1, b, x :: xs, hk, hn => by
    simp only [List.length_cons] at hk
    obtain ⟨hx, h1, h2⟩ := nice_split hn
    have hdl := deepN_le b xs
    obtain ⟨a1, a2⟩ := flat_bld g k (b + 1) _ (by rw [List.length_take]; omega) h1
    obtain ⟨b1, b2⟩ := flat_bld g k b _ (by rw [List.length_drop]; omega) h2
    simp only [bld, flLs, dpLs, flL_eq, dpL_eq, kids_setK, a1, a2, b1, b2]
    have hb : bare g (setK x.1 (bld k (b + 1) (xs.take (deepN b xs)))) = bare g x.1 := rfl
    rw [hb]
    constructor
    · rw [List.map_cons, List.cons_append, ← List.map_append, List.take_append_drop]
    · rw [List.map_cons, List.cons_append, ← List.map_append, List.take_append_drop, hx]
theorem cnt_bld (k : Nat) (b : Int) (xs : List (Line × Int)) (hk : xs.length ≤ k) (h : nice b xs) : cntLs (bld k b xs) = xs.length := by
  rw [← flLs_len keepT, (flat_bld keepT k b xs hk h).1, List.length_map]
end T18


/- Runs of figures: what they are. -/
namespace T18
open Go Fw Go.Proofs
set_option maxRecDepth 100000
theorem clock_range (a : List UInt8) (h : (clockB a).2.2 = true) : 0 ≤ (clockB a).1 ∧ (clockB a).1 < 1440 := by
  unfold clockB at h ⊢
  split at h
  · rename_i hf
    rw [if_pos hf]
    simp only [Bool.and_eq_true, decide_eq_true_eq] at h ⊢
    have h1 : 0 ≤ clockH a := by unfold clockH dg; omega
    have h2 : 0 ≤ clockM a := by unfold clockM dg; omega
    omega
  · cases h
theorem number_range (a : List UInt8) (h : (numberB a).2 = 0) : -1000000000000 ≤ (numberB a).1 ∧ (numberB a).1 ≤ 1000000000000 := by
  unfold numberB at h ⊢
  generalize decide (a.head? = some (45 : UInt8)) = neg at *
  generalize (cutB 46 (bodyB a)).1 = w at *
  generalize (cutB 46 (bodyB a)).2.1 = f at *
  generalize (cutB 46 (bodyB a)).2.2 = pt at *
  unfold numbB at h ⊢
  split at h
  · cases h
  rename_i h1
  rw [if_neg h1]
  split at h
  · cases h
  rename_i h2
  rw [if_neg h2]
  split at h
  · cases h
  rename_i h3
  rw [if_neg h3]
  split at h
  · cases h
  rename_i h4
  rw [if_neg h4]
  split at h
  · cases h
  rename_i h5
  rw [if_neg h5]
  simp only
  split <;> omega
/-- What a run of figures is. -/
theorem fig_cases (s : List UInt8) (h : (figT s).2 = 0) : (∃ n, (figT s).1 = ⟨4, [], n, 0⟩ ∧ 0 ≤ n ∧ n < 1440) ∨ ((figT s).1 = ⟨5, s, 0, 0⟩) ∨ ∃ n, (figT s).1 = ⟨2, [], n, 0⟩ ∧ -1000000000000 ≤ n ∧ n ≤ 1000000000000 := by
  unfold figT at h ⊢
  split at h
  · rename_i h1
    rw [if_pos h1]
    split at h
    · rename_i h2
      rw [if_pos h2]
      exact .inl ⟨_, rfl, clock_range s h2⟩
    · cases h
  rename_i h1
  rw [if_neg h1]
  split at h
  · rename_i h2
    rw [if_pos h2]
    split at h
    · rename_i h3
      rw [if_pos h3]
      exact .inr (.inl rfl)
    · cases h
  rename_i h2
  rw [if_neg h2]
  split at h
  · rename_i h3
    exact absurd h h3
  · rename_i h3
    rw [if_neg h3]
    exact .inr (.inr ⟨_, rfl, number_range s (by simpa using h3)⟩)
end T18


/- How many tokens and how long texts a scan gives. -/
namespace T18
open Go Fw Go.Proofs
set_option maxRecDepth 100000
theorem next_sz (a : List UInt8) (i : Nat) (h : (nextB a i).2.2 = 0) : (nextB a i).1.t.length ≤ a.length := by
  unfold nextB at h ⊢
  by_cases h1 : isLet (a.getD i 0) = true
  · rw [if_pos h1] at h ⊢
    unfold wordB
    split
    · exact Nat.zero_le _
    · exact cut_le a _ _
  rw [if_neg h1] at h ⊢
  by_cases h2 : (isD (a.getD i 0) || (decide (a.getD i 0 = 45) || decide (a.getD i 0 = 42))) = true
  · rw [if_pos h2] at h ⊢
    unfold numB at h ⊢
    simp only at h ⊢
    rcases fig_cases _ h with ⟨n, hf, _⟩ | hf | ⟨n, hf, _⟩
    · rw [hf]; exact Nat.zero_le _
    · rw [hf]; exact cut_le a _ _
    · rw [hf]; exact Nat.zero_le _
  rw [if_neg h2] at h ⊢
  by_cases h3 : decide (a.getD i 0 = 34) = true
  · rw [if_pos h3] at h ⊢
    unfold textB at h ⊢
    rcases findByte_spec 34 (a.drop (i + 1)) 0 with hf | ⟨n, hf, _, hn⟩
    · rw [hf]; exact Nat.zero_le _
    · rw [hf]
      simp only
      split
      · split
        · exact cut_le a _ _
        · exact Nat.zero_le _
      · exact Nat.zero_le _
  rw [if_neg h3] at h ⊢
  split
  · exact cut_le a _ _
  · exact Nat.zero_le _
theorem scanL_sz (a : List UInt8) : ∀ (k i : Nat) (ts us : List Tok) (c : List UInt8), ts.length ≤ 64 → (∀ x ∈ ts, x.t.length ≤ a.length) → scanL a k i ts = .inl (us, c) → us.length ≤ 64 ∧ ∀ x ∈ us, x.t.length ≤ a.length
  | 0, i, ts, us, c, h1, h2, h => by
    simp only [scanL] at h
    cases h; exact ⟨h1, h2⟩
  | k + 1, i, ts, us, c, h1, h2, h => by
    simp only [scanL] at h
    split at h
    · cases h; exact ⟨h1, h2⟩
    split at h
    · cases h; exact ⟨h1, h2⟩
    split at h
    · cases h
    rename_i h3
    split at h
    · cases h
    rename_i h4
    refine scanL_sz a k _ _ us c (by simp; omega) (fun x hx => ?_) h
    rcases List.mem_append.1 hx with hx | hx
    · exact h2 x hx
    · simp only [List.mem_singleton] at hx
      subst hx
      exact next_sz a i (by simpa using h4)
theorem scan_sz (a : List UInt8) : (scanB a).1.ts.length ≤ 64 ∧ ∀ x ∈ (scanB a).1.ts, x.t.length ≤ a.length := by
  have h0 : (noS.ts.length ≤ 64 ∧ ∀ x ∈ noS.ts, x.t.length ≤ a.length) := ⟨Nat.zero_le _, fun x hx => by cases hx⟩
  unfold scanB
  split
  · exact h0
  split
  · exact h0
  split
  · exact h0
  · rename_i us c h
    have h1 := scanL_sz a _ _ [] us c (Nat.zero_le _) (fun x hx => by cases hx) h
    unfold endB
    split
    · split
      · exact h0
      · exact ⟨by simp only [List.length_dropLast]; omega, fun x hx => h1.2 x (List.dropLast_subset _ hx)⟩
    · exact h1
end T18


/- Sizes of what is parsed; neighbours. -/
namespace T18
open Go Fw Go.Proofs
set_option maxRecDepth 100000
theorem scan_short (r : List UInt8) (h : (scanB r).2.1 = 0) : r.length ≤ 1000 := by
  unfold scanB at h
  split at h
  · exact absurd h (by decide)
  · omega
theorem row_ok (r : List UInt8) (h : (scanB r).2.1 = 0) : (scanB r).1.ts.length ≤ 70 ∧ ∀ t ∈ (scanB r).1.ts, t.t.length ≤ 2000 := by
  obtain ⟨h1, h2⟩ := scan_sz r
  have h3 := scan_short r h
  exact ⟨by omega, fun t ht => by have := h2 t ht; omega⟩
theorem rowsL_all (Q : Line × Int → Prop) : ∀ (rs : List (List UInt8)) (i : Nat), (∀ r ∈ rs, ∀ j : Nat, (scanB r).1.ts ≠ [] → Q (.mk (true, false) (scanB r).1.ts (scanB r).1.head (true, false) [] ((j + 1 : Nat) : Int), (scanB r).1.ind)) → ∀ x ∈ rowsL rs i, Q x
  | [], i, _, x, hx => by cases hx
  | r :: rs, i, h, x, hx => by
    simp only [rowsL] at hx
    have ih := rowsL_all Q rs (i + 1) (fun r' hr' => h r' (by simp [hr']))
    split at hx
    · exact ih x hx
    · rename_i ht
      rcases List.mem_cons.1 hx with rfl | hx
      · exact h r (by simp) i ht
      · exact ih x hx
def sumR : List (List UInt8) → Nat
  | [] => 0
  | r :: rs => r.length + 1 + sumR rs
theorem scan_nil : (scanB []).1.ts = [] := rfl
theorem rowsL_len : ∀ (rs : List (List UInt8)) (i : Nat), 2 * (rowsL rs i).length ≤ sumR rs
  | [], i => Nat.le_refl _
  | r :: rs, i => by
    have ih := rowsL_len rs (i + 1)
    simp only [rowsL, sumR]
    split
    · omega
    · rename_i ht
      have : r ≠ [] := fun h => ht (by rw [h]; exact scan_nil)
      have := List.length_pos_iff.2 this
      simp only [List.length_cons]
      omega
theorem sum_split (c : UInt8) : ∀ a : List UInt8, sumR (splitB c a) = a.length + 1
  | [] => rfl
  | b :: l => by
    have ih := sum_split c l
    simp only [splitB]
    split
    · simp only [sumR, List.length_cons, ih, List.length_nil]; omega
    · cases hs : splitB c l with
      | nil => exact absurd hs (splitB_ne c l)
      | cons x xs =>
        rw [hs] at ih
        simp only [sumR, List.length_cons] at ih ⊢
        omega
theorem sum_trim : ∀ l : List (List UInt8), sumR (trimE l) ≤ sumR l
  | [] => Nat.le_refl _
  | [x] => by
    simp only [trimE]
    split <;> simp [sumR]
  | x :: y :: r => by
    have := sum_trim (y :: r)
    simp only [trimE, sumR] at this ⊢
    omega
theorem acc_len (a : List UInt8) : 2 * (rowsL (linesB a) 0).length ≤ a.length + 1 := by
  have h1 := rowsL_len (linesB a) 0
  have h2 := sum_trim (splitB 10 a)
  rw [sum_split] at h2
  unfold linesB at h1 ⊢
  omega
theorem few_bld : ∀ (k : Nat) (b : Int) (xs : List (Line × Int)), (∀ x ∈ xs, x.1.toks.length ≤ 70 ∧ ∀ t ∈ x.1.toks, t.t.length ≤ 2000) → fewLs (bld k b xs)
  | 0, b, xs, _ => trivial
  | k + 1, b, [], _ => trivial
  | k + 1, b, x :: xs, h => by
    simp only [bld, fewLs, fewL_eq]
    have hx := h x (by simp)
    refine ⟨⟨hx.1, hx.2, few_bld k (b + 1) _ (fun y hy => h y (by simp [List.mem_of_mem_take hy]))⟩, few_bld k b _ (fun y hy => h y (by simp [List.mem_of_mem_drop hy]))⟩
theorem chain_pair : ∀ (xs acc : List (Line × Int)), chainB acc xs → ∀ (j : Nat) (h : j + 1 < xs.length), xs[j + 1].2 ≤ xs[j].2 ∨ (xs[j + 1].2 = xs[j].2 + 1 ∧ xs[j].1.head = true)
  | [], _, _, j, h => by simp at h
  | [x], _, _, j, h => by simp at h
  | x :: y :: xs, acc, hc, 0, h => by
    simp only [chainB] at hc
    have := hc.2.1
    unfold fitsB at this
    simp only [List.getLast?_append, List.getLast?_singleton, Option.some_or, Bool.or_eq_true, Bool.and_eq_true, decide_eq_true_eq] at this
    simpa using this
  | x :: y :: xs, acc, hc, j + 1, h => by
    have := chain_pair (y :: xs) (acc ++ [x]) hc.2 j (by simpa using h)
    simpa using this
/-- What a source without fault gives. -/
structure Parsed (a : List UInt8) (acc : List (Line × Int)) : Prop where
  rows : acc = rowsL (linesB a) 0
  ok : ∀ r ∈ linesB a, (scanB r).2.1 = 0
  nice : nice 0 acc
  six : ∀ x ∈ acc, 0 ≤ x.2 ∧ x.2 ≤ 6
  pair : ∀ (j : Nat) (h : j + 1 < acc.length), acc[j + 1].2 ≤ acc[j].2 ∨ (acc[j + 1].2 = acc[j].2 + 1 ∧ acc[j].1.head = true)
  few : ∀ x ∈ acc, x.1.toks.length ≤ 70 ∧ ∀ t ∈ x.1.toks, t.t.length ≤ 2000
  len : 2 * acc.length ≤ a.length + 1
  chain : chainB [] acc
theorem parsed {a : List UInt8} {acc : List (Line × Int)} (h : parseB a = .inl acc) : Parsed a acc := by
  unfold parseB at h
  split at h
  · cases h
  obtain ⟨h1, h2, h3⟩ := parseL_inl _ _ _ _ h
  rw [List.nil_append] at h1
  have h6 : ∀ x ∈ acc, 0 ≤ x.2 ∧ x.2 ≤ 6 := by
    rw [h1]
    exact rowsL_all (fun x => 0 ≤ x.2 ∧ x.2 ≤ 6) _ _ (fun r _ j _ => ind_range r)
  refine ⟨h1, h2, ?_, h6, ?_, ?_, ?_, ?_⟩
  · rw [h1] at h6 ⊢
    exact chain_nice _ h3 (fun x hx => (h6 x hx).1)
  · subst h1
    exact chain_pair _ [] h3
  · rw [h1]
    exact rowsL_all (fun x => x.1.toks.length ≤ 70 ∧ ∀ t ∈ x.1.toks, t.t.length ≤ 2000) _ _ (fun r hr j _ => row_ok r (h2 r hr))
  · rw [h1]; exact acc_len a
  · rw [h1]; exact h3
end T18


/- The reference's Parse; ParserParses returns true for all sources. -/
namespace T18
open Go Fw Go.Proofs
set_option maxRecDepth 100000
set_option maxHeartbeats 4000000
set_option linter.unusedSimpArgs false
set_option linter.unusedVariables false
def rparO : List (Line × Int) ⊕ (Int × Int × Int) → AV
  | .inl acc => .tuple [rbV 0 acc, .agg [.int .i64 0, .int .i64 0, .int .i64 0]]
  | .inr (er, ln, cl) => .tuple [.nilslice, .agg [.int .i64 er, .int .i64 ln, .int .i64 cl]]
theorem c6 (a : List UInt8) (s : St) (K : AV → St → Prop) : CallW cx 6 [.str a] s K = K (rparO (parseB a)) s := by
  refine CallW.eq (CallW.fn' (fn := ir6) rfl rfl (by kernel_rfl) ir6.eq_1 ?_) K
  unfold parseB
  by_cases h1 : 65536 < a.length
  · have kl := fun st K => c18z a h1 st K
    rw [if_pos h1]
    simp (config := {contextual := true, implicitDefEqProofs := false, maxSteps := 4000000}) only [go_sem, ↓reduceIte, Bool.false_eq_true, Nat.reduceEqDiff, Nat.reduceAdd, Int.reduceLE, Int.reduceLT, Int.reduceEq, Int.reduceToNat, Int.toNat_natCast, Int.cast_ofNat_Int, Int.natCast_one, Nat.reduceMod, Nat.reduceDiv, UInt8.reduceToNat, Nat.reduceLT, kl, show decide ((7 : Int) ≠ 0) = true from rfl]
    rfl
  rw [if_neg h1]
  have d0 : decide ((0 : Int) ≠ 0) = false := rfl
  have kl := fun st K => c18 a (by omega) st K
  have hll := lines_le a
  simp (config := {contextual := true, implicitDefEqProofs := false, maxSteps := 4000000}) only [go_sem, ↓reduceIte, Bool.false_eq_true, Nat.reduceEqDiff, Nat.reduceAdd, Int.reduceLE, Int.reduceLT, Int.reduceEq, Int.reduceToNat, Int.toNat_natCast, Int.cast_ofNat_Int, Int.natCast_one, Nat.reduceMod, Nat.reduceDiv, UInt8.reduceToNat, Nat.reduceLT, d0, kl]
  refine l6 (linesB a) _ (by omega) s.next _ (linesB a).length 0 _ _ (.slice [] 0 .full) (.slice [] 0 .full) [] (by omega) (Nat.le_refl _) (fun x hx => by cases hx) ⟨Gr.full rfl, Gr.full rfl, fun t h => (by cases h), fun t h => (by cases h), fun t h => (by cases h), by simp, by simp⟩ ⟨fun t h => (by cases h), fun t h => (by cases h)⟩ (fun h => absurd rfl h) (fun _ => ⟨rfl, rfl⟩) (by simp [Fw.look]) (by simp) rfl rfl rfl rfl rfl rfl rfl ?_ ?_
  · intro acc hp e' st' v w hG hsh hsf hk hl7 h3 h6 h7
    rw [List.drop_zero] at hp
    rw [hp]
    have hlw := hG.low
    have lp : ∀ x, Fw.look s.next (put s.next x st'.heap) = some x := fun x => look_put_self hk
    have hmn : s.next ≤ min st'.low s.next := by omega
    unfold rparO
    have hlv : ∀ (H : List (Nat × AObj)) (X lo : Nat) (K : AV → St → Prop), s.next ≤ lo → LeaveW s { heap := H, next := X, low := lo } (.tuple [rbV 0 acc, .agg [.int .i64 0, .int .i64 0, .int .i64 0]]) K = K (.tuple [rbV 0 acc, .agg [.int .i64 0, .int .i64 0, .int .i64 0]]) s := by
      intro H X lo K h
      unfold rbV slt
      rw [if_neg (fun hh => by cases hh.1)]
      generalize (rbld acc.length 0 acc).isEmpty = q
      cases q
      · rw [LeaveW_tfreeA (s := s) (s' := { heap := H, next := X, low := lo }) (by simp [AV.freeA, AV.free0, Own.free, ow, encLs_al, AV.al]) h]; rfl
      · rw [LeaveW_tfreeA (s := s) (s' := { heap := H, next := X, low := lo }) (by simp [AV.freeA, AV.free0, Own.free, ow, encLs_al, AV.al]) h]; rfl
    have kb := fun o1 o2 st K => c21 acc.length acc (Nat.le_refl _) o1 o2 0 st K (by decide) (by omega)
    obtain ⟨ov, hv⟩ : ∃ o, v = .slice (encLs (acc.map Prod.fst)) acc.length o := by
      by_cases hacc : acc = []
      · obtain ⟨hv, _⟩ := hsf hacc
        subst hacc
        exact ⟨.full, hv⟩
      · obtain ⟨⟨t, ht⟩, _⟩ := hsh hacc
        exact ⟨_, tok_shape hG.a ht⟩
    obtain ⟨ow, hw⟩ : ∃ o, w = .slice (encI (acc.map Prod.snd)) acc.length o := by
      by_cases hacc : acc = []
      · obtain ⟨_, hw⟩ := hsf hacc
        subst hacc
        exact ⟨.full, hw⟩
      · obtain ⟨_, t, ht⟩ := hsh hacc
        exact ⟨_, tok_shape hG.b ht⟩
    rw [hv] at h6
    rw [hw] at h7
    simp (config := {contextual := true, implicitDefEqProofs := false, maxSteps := 4000000}) only [go_sem, ↓reduceIte, Bool.false_eq_true, Nat.reduceEqDiff, Nat.reduceAdd, Int.reduceLE, Int.reduceLT, Int.reduceEq, Int.reduceToNat, Int.toNat_natCast, Int.cast_ofNat_Int, Int.natCast_one, Nat.reduceMod, Nat.reduceDiv, UInt8.reduceToNat, Nat.reduceLT, h3, h6, h7, kb, hk, lp, hlv, hmn]
  · intro er ln cl hp e' st' h2 h3 hk hl
    rw [List.drop_zero] at hp
    rw [hp]
    have hl := fun K => LeaveW_tfreeA (s := s) (s' := st') (vs := [.nilslice, .agg [.int .i64 er, .int .i64 ln, .int .i64 cl]]) rfl hl K
    simp (config := {contextual := true, implicitDefEqProofs := false, maxSteps := 4000000}) only [go_sem, ↓reduceIte, Bool.false_eq_true, Nat.reduceEqDiff, Nat.reduceAdd, Int.reduceLE, Int.reduceLT, Int.reduceEq, Int.reduceToNat, Int.toNat_natCast, Int.cast_ofNat_Int, Int.natCast_one, Nat.reduceMod, Nat.reduceDiv, UInt8.reduceToNat, Nat.reduceLT, h2, h3, hk, hl]
    rfl
theorem law3 (a : List UInt8) : CallW cx 3 [.str a] { heap := [], next := 0, low := 0 } fun v _ => v = .bool true := by
  refine CallW.fn' (fn := ir3) rfl rfl (by kernel_rfl) ir3.eq_1 ?_
  have k1 := fun st K => c5 a st K
  have k2 := fun st K => c6 a st K
  have z2 : ∀ u : Int, decide (u = u) = true := fun u => by simp
  have main : CallW cx 3 [.str a] { heap := [], next := 0, low := 0 } (fun v _ => v = .bool true) → True := fun _ => trivial
  clear main
  have hcase : (1500 < a.length ∧ a.length ≤ 65536) ∨ (a.length ≤ 1500 ∨ 65536 < a.length) := by omega
  rcases hcase with ⟨h1, h2⟩ | hc
  · have d1 : decide ((1500 : Int) < (a.length : Int)) = true := decide_eq_true (by omega)
    have d2 : decide ((a.length : Int) ≤ 65536) = true := decide_eq_true (by omega)
    simp (config := {contextual := true, implicitDefEqProofs := false, maxSteps := 4000000}) only [go_sem, ↓reduceIte, Bool.false_eq_true, Nat.reduceEqDiff, Nat.reduceAdd, Int.reduceLE, Int.reduceLT, Int.reduceEq, Int.reduceToNat, Int.toNat_natCast, Int.cast_ofNat_Int, Int.natCast_one, Nat.reduceMod, Nat.reduceDiv, UInt8.reduceToNat, Nat.reduceLT, d1, d2, c4]
  cases hp : parseB a with
  | inr x =>
    obtain ⟨er, ln, cl⟩ := x
    rw [hp] at k1 k2
    have k1' : ∀ st K, CallW cx 5 [.str a] st K = K (.tuple [.nilslice, .agg [.int .i64 er, .int .i64 ln, .int .i64 cl]]) st := k1
    have k2' : ∀ st K, CallW cx 6 [.str a] st K = K (.tuple [.nilslice, .agg [.int .i64 er, .int .i64 ln, .int .i64 cl]]) st := k2
    have ks : ∀ st K, CallW cx 7 [.nilslice, .nilslice, .bool true] st K = K (.bool true) st := fun st K => c7 true [] trivial (by decide) (true, false) (true, false) [] st K
    clear k1 k2
    rcases hc with h1 | h1
    · have d1 : decide ((1500 : Int) < (a.length : Int)) = false := decide_eq_false (by omega)
      simp (config := {contextual := true, implicitDefEqProofs := false, maxSteps := 4000000}) only [go_sem, ↓reduceIte, Bool.false_eq_true, Nat.reduceEqDiff, Nat.reduceAdd, Int.reduceLE, Int.reduceLT, Int.reduceEq, Int.reduceToNat, Int.toNat_natCast, Int.cast_ofNat_Int, Int.natCast_one, Nat.reduceMod, Nat.reduceDiv, UInt8.reduceToNat, Nat.reduceLT, d1, c4, k1', k2', ks, z2]
      rw [LeaveW_flat rfl (Nat.zero_le _)]
    · have d1 : decide ((1500 : Int) < (a.length : Int)) = true := decide_eq_true (by omega)
      have d2 : decide ((a.length : Int) ≤ 65536) = false := decide_eq_false (by omega)
      simp (config := {contextual := true, implicitDefEqProofs := false, maxSteps := 4000000}) only [go_sem, ↓reduceIte, Bool.false_eq_true, Nat.reduceEqDiff, Nat.reduceAdd, Int.reduceLE, Int.reduceLT, Int.reduceEq, Int.reduceToNat, Int.toNat_natCast, Int.cast_ofNat_Int, Int.natCast_one, Nat.reduceMod, Nat.reduceDiv, UInt8.reduceToNat, Nat.reduceLT, d1, d2, c4, k1', k2', ks, z2]
      rw [LeaveW_flat rfl (Nat.zero_le _)]
  | inl acc =>
    have h65 : a.length ≤ 65536 := by
      rcases Nat.lt_or_ge 65536 a.length with h | h
      · unfold parseB at hp; rw [if_pos h] at hp; cases hp
      · exact h
    have h15 : a.length ≤ 1500 := by omega
    have d1 : decide ((1500 : Int) < (a.length : Int)) = false := decide_eq_false (by omega)
    have hP := parsed hp
    rw [hp] at k1 k2
    have hal : acc.length ≤ 751 := by have := hP.len; omega
    have hcn := cnt_bld acc.length 0 acc (Nat.le_refl _) hP.nice
    have hfT := few_bld acc.length 0 acc hP.few
    have hsm := same_rbld true acc.length 0 acc
    have ks := fun b2 st K => c7 true (bld acc.length 0 acc) hfT (by omega) (true, false) b2 (rbld acc.length 0 acc) st K
    rw [hsm] at ks
    have k1' : ∀ st K, CallW cx 5 [.str a] st K = K (.tuple [slt (true, false) (bld acc.length 0 acc).length (encLs (bld acc.length 0 acc)), .agg [.int .i64 0, .int .i64 0, .int .i64 0]]) st := k1
    have k2' : ∀ st K, CallW cx 6 [.str a] st K = K (.tuple [slt (false, (rbld acc.length 0 acc).isEmpty) (rbld acc.length 0 acc).length (encLs (rbld acc.length 0 acc)), .agg [.int .i64 0, .int .i64 0, .int .i64 0]]) st := k2
    clear k1 k2 hsm hfT hcn
    generalize (rbld acc.length 0 acc).isEmpty = q at *
    generalize bld acc.length 0 acc = T at *
    generalize rbld acc.length 0 acc = R at *
    simp (config := {contextual := true, implicitDefEqProofs := false, maxSteps := 4000000}) only [go_sem, ↓reduceIte, Bool.false_eq_true, Nat.reduceEqDiff, Nat.reduceAdd, Int.reduceLE, Int.reduceLT, Int.reduceEq, Int.reduceToNat, Int.toNat_natCast, Int.cast_ofNat_Int, Int.natCast_one, Nat.reduceMod, Nat.reduceDiv, UInt8.reduceToNat, Nat.reduceLT, d1, c4, k1', k2', ks, z2]
    rw [LeaveW_flat rfl (Nat.zero_le _)]
theorem hlaw3 (as0 : List AV) (h : TyArgs Tryz.prog Tryz.f3.params.toList as0) : ∃ k s', callF cx k 3 as0 st0 = some (.bool true, s') := by
  obtain ⟨a1, r1, rfl, h1, h6⟩ : ∃ a1 r1, as0 = a1 :: r1 ∧ TyArg Tryz.prog 9 a1 ∧ r1 = [] := h
  subst h6
  obtain ⟨s, rfl, _⟩ := TyArg_string Tryz.underlying9 h1
  obtain ⟨k', v, s', h9, rfl⟩ := law3 s
  exact ⟨k', s', h9⟩
end T18
