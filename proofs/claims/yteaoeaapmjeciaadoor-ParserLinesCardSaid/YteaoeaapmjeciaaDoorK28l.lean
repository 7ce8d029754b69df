/- Parts of the proof, one behind the other. -/
import Derived.Test.YteaoeaapmjeciaaDoorK28p
set_option linter.unusedSimpArgs false
set_option linter.unusedVariables false
/- The law ParserLines. -/
namespace T08
open Go Fw Go.Proofs
set_option maxRecDepth 100000
set_option maxHeartbeats 4000000
set_option linter.unusedSimpArgs false
set_option linter.unusedVariables false
theorem parseL_err : ∀ (rs : List (List UInt8)) (i : Nat) (acc : List (Line × Int)) (er ln cl : Int), parseL rs i acc = .inr (er, ln, cl) → er ≠ 0
  | [], i, acc, er, ln, cl, h => by simp [parseL] at h
  | r :: rs, i, acc, er, ln, cl, h => by
    simp only [parseL] at h
    split at h
    · rename_i h0
      cases h
      exact h0
    split at h
    · exact parseL_err rs (i + 1) acc er ln cl h
    split at h
    · cases h; decide
    · exact parseL_err rs (i + 1) _ er ln cl h
theorem parse_err (a : List UInt8) {er ln cl : Int} (h : parseB a = .inr (er, ln, cl)) : er ≠ 0 := by
  unfold parseB at h
  split at h
  · cases h; decide
  · exact parseL_err _ _ _ _ _ _ h
theorem l5 (rows full : List (List UInt8)) (cp : Nat) (hrl : rows.length ≤ 70000) (hsub : ∀ i (h : i < rows.length), sub (encS full) i 1 = some [.str rows[i]]) (hok : ∀ r ∈ rows, (scanB r).2.1 = 0) (acc : List (Line × Int)) (hal : acc.length ≤ 1000) (h6 : ∀ x ∈ acc, 0 ≤ x.2 ∧ x.2 ≤ 6) (hpair : ∀ (j : Nat) (h : j + 1 < acc.length), acc[j + 1].2 ≤ acc[j].2 ∨ (acc[j + 1].2 = acc[j].2 + 1 ∧ acc[j].1.head = true)) (Q : Sig → FE → St → Prop) :
    ∀ (n i k : Nat) (e : FE) (st : St), i + n = rows.length → k ≤ acc.length → acc.drop k = rowsL (rows.drop i) i → Fw.look 1 st.heap = some (.cells none (encS full)) → 2 ≤ st.next → e 5 = .mslice 1 0 rows.length (some cp) → e 7 = slt (true, false) acc.length (encLs (acc.map fun x => bare clT x.1)) → e 8 = slt (true, false) acc.length (encI (acc.map Prod.snd)) → e 9 = .int .i64 (k : Int) → e 10 = .int .i64 (i : Int) →
    (∀ e' st', e' 7 = slt (true, false) acc.length (encLs (acc.map fun x => bare clT x.1)) → e' 9 = .int .i64 (acc.length : Int) → Q (.exit 0) e' st') → WLoop cx ir5L0 e st Q
  | 0, i, k, e, st, hi, hk, hacc, hlk, hnx, h5, h7, h8, h9, h10, hQ => by
    refine WLoop.rnd (c := _) ir5L0.eq_1 ?_
    have hd : decide ((i : Int) < (rows.length : Int)) = false := decide_eq_false (by omega)
    rw [List.drop_eq_nil_of_le (show rows.length ≤ i by omega)] at hacc
    have hk2 : k = acc.length := by
      have := congrArg List.length hacc
      simp only [rowsL, List.length_nil, List.length_drop] at this
      omega
    subst hk2
    simp (config := {contextual := true, implicitDefEqProofs := false, maxSteps := 4000000}) only [go_sem, ↓reduceIte, Bool.false_eq_true, Nat.reduceEqDiff, Nat.reduceAdd, Int.reduceLE, Int.reduceLT, Int.reduceEq, Int.reduceToNat, Int.toNat_natCast, Int.cast_ofNat_Int, Int.natCast_one, Nat.reduceMod, Nat.reduceDiv, UInt8.reduceToNat, Nat.reduceLT, h5, h10, hd]
    exact hQ _ _ h7 h9
  | n + 1, i, k, e, st, hi, hk, hacc, hlk, hnx, h5, h7, h8, h9, h10, hQ => by
    refine WLoop.rnd (c := _) ir5L0.eq_1 ?_
    have hlt : i < rows.length := by omega
    have hd : decide ((i : Int) < (rows.length : Int)) = true := decide_eq_true (by omega)
    have b1 : (0 : Int) ≤ (i : Int) ∧ (i : Int) < (rows.length : Int) := by omega
    have w1 := wrap_one (i := i) (by omega)
    have s1 := hsub i hlt
    have ho := hok rows[i] (List.getElem_mem hlt)
    rw [List.drop_eq_getElem_cons hlt] at hacc
    obtain ⟨r, hr⟩ : ∃ r, rows[i] = r := ⟨_, rfl⟩
    rw [hr] at s1 ho hacc
    simp only [rowsL] at hacc
    have ks := fun st K => c18 r st K
    have hrow := row_ok r ho
    generalize scanB r = x at *
    obtain ⟨⟨ind, ts, hd2, com⟩, er, cl⟩ := x
    simp only at hacc ho hrow
    subst ho
    simp only [scO] at ks
    have n1 : ¬ st.next = 1 := by omega
    have n2 : ¬ st.next + 1 = 1 := by omega
    have d1 : decide ((0 : Int) ≠ 0) = false := rfl
    by_cases hts : ts = []
    · have d2 : decide ((ts.length : Int) = 0) = true := by rw [hts]; rfl
      rw [if_pos hts] at hacc
      simp (config := {contextual := true, implicitDefEqProofs := false, maxSteps := 4000000}) only [go_sem, ↓reduceIte, Bool.false_eq_true, Nat.reduceEqDiff, Nat.reduceAdd, Int.reduceLE, Int.reduceLT, Int.reduceEq, Int.reduceToNat, Int.toNat_natCast, Int.cast_ofNat_Int, Int.natCast_one, Nat.reduceMod, Nat.reduceDiv, UInt8.reduceToNat, Nat.reduceLT, h5, h10, hd, b1, Nat_mul_one, hlk, s1, ks, d1, d2, w1, n1, n2]
      refine l5 rows full cp hrl hsub hok acc hal h6 hpair Q n (i + 1) k _ _ (by omega) hk hacc ?_ (by simp only; omega) h5 h7 h8 h9 rfl hQ
      simp only [Fw.look]
      rw [if_neg n2, if_neg n1]
      exact hlk
    · have d2 : decide ((ts.length : Int) = 0) = false := decide_eq_false (fun h => hts (List.eq_nil_of_length_eq_zero (by omega)))
      rw [if_neg hts] at hacc
      have hkl : k < acc.length := by
        rcases Nat.lt_or_ge k acc.length with h | h
        · exact h
        · rw [List.drop_eq_nil_of_le h] at hacc; cases hacc
      rw [List.drop_eq_getElem_cons hkl] at hacc
      simp only [List.cons.injEq] at hacc
      obtain ⟨hx, hacc⟩ := hacc
      have d3 : decide ((acc.length : Int) ≤ (k : Int)) = false := decide_eq_false (by omega)
      have d4 : decide ((acc.length : Int) ≠ (acc.length : Int)) = false := by simp
      have b2 : (0 : Int) ≤ (k : Int) ∧ (k : Int) < (acc.length : Int) := by omega
      have hbl : (acc.map fun x => bare clT x.1).length = acc.length := List.length_map ..
      have hbk : (acc.map fun x => bare clT x.1)[k]'(by rw [hbl]; exact hkl) = .mk (clT (true, false) ts) ts hd2 (true, false) [] ((i + 1 : Nat) : Int) := by
        rw [List.getElem_map, hx]; rfl
      have sl := sub_line (ls := acc.map fun x => bare clT x.1) (i := k) (by rw [hbl]; exact hkl)
      have sp := sub_lpos (ls := acc.map fun x => bare clT x.1) (i := k) (by rw [hbl]; exact hkl)
      have sh := sub_lhead (ls := acc.map fun x => bare clT x.1) (i := k) (by rw [hbl]; exact hkl)
      have stt := sub_ltoks (ls := acc.map fun x => bare clT x.1) (i := k) (by rw [hbl]; exact hkl)
      rw [hbk] at sp sh stt
      simp only [Line.pos, Line.head, Line.toks, Line.tn] at sp sh stt
      have sd : sub (encI (acc.map Prod.snd)) k 1 = some [.int .i64 ind] := by
        have := sub_int (l := acc.map Prod.snd) (i := k) (by rw [List.length_map]; exact hkl)
        rw [this, List.getElem_map, hx]
      have z1 : ∀ u : Int, decide (u ≠ u) = false := fun u => by simp
      have z2 : ∀ u : Bool, (!(u == u)) = false := fun u => by simp
      have ksm : ∀ st K, CallW cx 12 [.slice [slt (clT (true, false) ts) ts.length (encTs ts), .bool false, .nilslice, .int .i64 0] 1 .full, .slice [slt (true, false) ts.length (encTs ts), .bool false, .nilslice, .int .i64 0] 1 .full, .bool true] st K = K (.bool true) st := fun st K => by
        have h := c12 true [.mk (clT (true, false) ts) ts false (true, false) [] 0] (by simp only [fewLs, fewL, and_true]; exact ⟨hrow.1, hrow.2⟩) (by simp [cntLs, cntL]) (false, true) (false, true) [.mk (true, false) ts false (true, false) [] 0] st K
        have hs : sameLs true [.mk (clT (true, false) ts) ts false (true, false) [] 0] [.mk (true, false) ts false (true, false) [] 0] = true := by
          simp [sameLs, sameL_eq, Line.head, Line.pos, Line.toks, Line.kids, sameTs_refl]
        rw [hs] at h
        exact h
      have wk := wrap_one (i := k) (by omega)
      by_cases hk2 : k + 1 < acc.length
      case neg =>
        have d5 : decide (((k + 1 : Nat) : Int) < (acc.length : Int)) = false := decide_eq_false (by omega)
        simp (config := {contextual := true, implicitDefEqProofs := false, maxSteps := 4000000}) only [go_sem, ↓reduceIte, Bool.false_eq_true, Nat.reduceEqDiff, Nat.reduceAdd, Int.reduceLE, Int.reduceLT, Int.reduceEq, Int.reduceToNat, Int.toNat_natCast, Int.cast_ofNat_Int, Int.natCast_one, Nat.reduceMod, Nat.reduceDiv, UInt8.reduceToNat, Nat.reduceLT, h5, h7, h8, h9, h10, hd, b1, b2, Nat_mul_one, hlk, s1, ks, d1, d2, d3, d4, w1, wk, n1, n2, sp, sh, stt, sd, z1, z2, ksm, d5]
        refine l5 rows full cp hrl hsub hok acc hal h6 hpair Q n (i + 1) (k + 1) _ _ (by omega) (by omega) hacc ?_ (by simp only; omega) h5 h7 h8 rfl rfl hQ
        simp only [Fw.look]
        rw [if_neg n2, if_neg n1]
        exact hlk
      have d5 : decide (((k + 1 : Nat) : Int) < (acc.length : Int)) = true := decide_eq_true (by omega)
      have b5 : (0 : Int) ≤ ((k + 1 : Nat) : Int) ∧ ((k + 1 : Nat) : Int) < (acc.length : Int) := by omega
      have sd2 : sub (encI (acc.map Prod.snd)) (k + 1) 1 = some [.int .i64 acc[k + 1].2] := by
        have := sub_int (l := acc.map Prod.snd) (i := k + 1) (by rw [List.length_map]; exact hk2)
        rw [this, List.getElem_map]
      have hpr := hpair k hk2
      rw [hx] at hpr
      simp only [Line.head] at hpr
      obtain ⟨y, hy⟩ : ∃ y, acc[k + 1].2 = y := ⟨_, rfl⟩
      rw [hy] at sd2 hpr
      by_cases hyi : y ≤ ind
      · have d6 : decide (ind < y) = false := decide_eq_false (by omega)
        simp (config := {contextual := true, implicitDefEqProofs := false, maxSteps := 4000000}) only [go_sem, ↓reduceIte, Bool.false_eq_true, Nat.reduceEqDiff, Nat.reduceAdd, Int.reduceLE, Int.reduceLT, Int.reduceEq, Int.reduceToNat, Int.toNat_natCast, Int.cast_ofNat_Int, Int.natCast_one, Nat.reduceMod, Nat.reduceDiv, UInt8.reduceToNat, Nat.reduceLT, h5, h7, h8, h9, h10, hd, b1, b2, Nat_mul_one, hlk, s1, ks, d1, d2, d3, d4, w1, wk, n1, n2, sp, sh, stt, sd, z1, z2, ksm, d5, b5, sd2, d6]
        refine l5 rows full cp hrl hsub hok acc hal h6 hpair Q n (i + 1) (k + 1) _ _ (by omega) (by omega) hacc ?_ (by simp only; omega) h5 h7 h8 rfl rfl hQ
        simp only [Fw.look]
        rw [if_neg n2, if_neg n1]
        exact hlk
      · have d6 : decide (ind < y) = true := decide_eq_true (by omega)
        have hh : hd2 = true := by
          rcases hpr with h | h
          · exact absurd h hyi
          · exact h.2
        subst hh
        simp (config := {contextual := true, implicitDefEqProofs := false, maxSteps := 4000000}) only [go_sem, ↓reduceIte, Bool.false_eq_true, Nat.reduceEqDiff, Nat.reduceAdd, Int.reduceLE, Int.reduceLT, Int.reduceEq, Int.reduceToNat, Int.toNat_natCast, Int.cast_ofNat_Int, Int.natCast_one, Nat.reduceMod, Nat.reduceDiv, UInt8.reduceToNat, Nat.reduceLT, h5, h7, h8, h9, h10, hd, b1, b2, Nat_mul_one, hlk, s1, ks, d1, d2, d3, d4, w1, wk, n1, n2, sp, sh, stt, sd, z1, z2, ksm, d5, b5, sd2, d6]
        refine l5 rows full cp hrl hsub hok acc hal h6 hpair Q n (i + 1) (k + 1) _ _ (by omega) (by omega) hacc ?_ (by simp only; omega) h5 h7 h8 rfl rfl hQ
        simp only [Fw.look]
        rw [if_neg n2, if_neg n1]
        exact hlk
theorem law5 (a : List UInt8) : CallW cx 5 [.str a] { heap := [], next := 0, low := 0 } fun v _ => v = .bool true := by
  refine CallW.fn' (fn := ir5) rfl rfl (by kernel_rfl) ir5.eq_1 ?_
  by_cases h1 : 1500 < a.length
  · have d1 : decide ((1500 : Int) < (a.length : Int)) = true := decide_eq_true (by omega)
    simp (config := {contextual := true, implicitDefEqProofs := false, maxSteps := 4000000}) only [go_sem, ↓reduceIte, Bool.false_eq_true, Nat.reduceEqDiff, Nat.reduceAdd, Int.reduceLE, Int.reduceLT, Int.reduceEq, Int.reduceToNat, Int.toNat_natCast, Int.cast_ofNat_Int, Int.natCast_one, Nat.reduceMod, Nat.reduceDiv, UInt8.reduceToNat, Nat.reduceLT, c9, d1]
  have d1 : decide ((1500 : Int) < (a.length : Int)) = false := decide_eq_false (by omega)
  have k1 := fun st K => c16 a st K
  have k2 := fun st K => c17 a (by omega) st K
  cases hp : parseB a with
  | inr x =>
    obtain ⟨er, ln, cl⟩ := x
    have her : er ≠ 0 := parse_err a hp
    rw [hp] at k1
    have k1' : ∀ st K, CallW cx 16 [.str a] st K = K (.tuple [.nilslice, .agg [.int .i64 er, .int .i64 ln, .int .i64 cl]]) st := k1
    have d2 : decide (er ≠ 0) = true := decide_eq_true her
    clear k1
    simp (config := {contextual := true, implicitDefEqProofs := false, maxSteps := 4000000}) only [go_sem, ↓reduceIte, Bool.false_eq_true, Nat.reduceEqDiff, Nat.reduceAdd, Int.reduceLE, Int.reduceLT, Int.reduceEq, Int.reduceToNat, Int.toNat_natCast, Int.cast_ofNat_Int, Int.natCast_one, Nat.reduceMod, Nat.reduceDiv, UInt8.reduceToNat, Nat.reduceLT, c9, d1, k1', k2, d2]
    rw [LeaveW_flat rfl (Nat.zero_le _)]
  | inl acc =>
    have hP := parsed hp
    rw [hp] at k1
    have hal : acc.length ≤ 751 := by have := hP.len; omega
    have hcn := cnt_bld acc.length 0 acc (Nat.le_refl _) hP.nice
    obtain ⟨fl1, fl2⟩ := flat_bld clT acc.length 0 acc (Nat.le_refl _) hP.nice
    have k3 := fun st K => c10 (bld acc.length 0 acc) (few_bld acc.length 0 acc hP.few) (by omega) (true, false) st K
    rw [hcn, fl1, fl2] at k3
    have k1' : ∀ st K, CallW cx 16 [.str a] st K = K (.tuple [slt (true, false) (bld acc.length 0 acc).length (encLs (bld acc.length 0 acc)), .agg [.int .i64 0, .int .i64 0, .int .i64 0]]) st := k1
    clear k1
    have d2 : decide ((0 : Int) ≠ 0) = false := rfl
    have hsub : ∀ i (h : i < (linesB a).length), sub (encS (splitB 10 a)) i 1 = some [.str (linesB a)[i]] := fun i hi => by
      obtain ⟨h3, h4⟩ := trimE_get (splitB 10 a) i hi
      rw [str_at h3, h4]; rfl
    have hll := lines_le a
    generalize bld acc.length 0 acc = T at *
    simp (config := {contextual := true, implicitDefEqProofs := false, maxSteps := 4000000}) only [go_sem, ↓reduceIte, Bool.false_eq_true, Nat.reduceEqDiff, Nat.reduceAdd, Int.reduceLE, Int.reduceLT, Int.reduceEq, Int.reduceToNat, Int.toNat_natCast, Int.cast_ofNat_Int, Int.natCast_one, Nat.reduceMod, Nat.reduceDiv, UInt8.reduceToNat, Nat.reduceLT, c9, d1, k1', k2, k3, d2]
    refine l5 (linesB a) (splitB 10 a) (a.count 10 + 1) (by omega) hsub hP.ok acc (by omega) hP.six hP.pair _ (linesB a).length 0 0 _ _ (by omega) (Nat.zero_le _) (by rw [List.drop_zero, List.drop_zero]; exact hP.rows) (by simp [Fw.look]) (by simp) rfl rfl rfl rfl rfl ?_
    intro e' st' h7 h9
    have z1 : decide ((acc.length : Int) = (acc.length : Int)) = true := by simp
    simp (config := {contextual := true, implicitDefEqProofs := false, maxSteps := 4000000}) only [go_sem, ↓reduceIte, Bool.false_eq_true, Nat.reduceEqDiff, Nat.reduceAdd, Int.reduceLE, Int.reduceLT, Int.reduceEq, Int.reduceToNat, Int.toNat_natCast, Int.cast_ofNat_Int, Int.natCast_one, Nat.reduceMod, Nat.reduceDiv, UInt8.reduceToNat, Nat.reduceLT, c9, h7, h9, z1]
    rw [LeaveW_flat rfl (Nat.zero_le _)]
theorem hlaw5 (as0 : List AV) (h : TyArgs Tryd.prog Tryd.f5.params.toList as0) : ∃ k s', callF cx k 5 as0 st0 = some (.bool true, s') := by
  obtain ⟨a1, r1, rfl, h1, h6⟩ : ∃ a1 r1, as0 = a1 :: r1 ∧ TyArg Tryd.prog 9 a1 ∧ r1 = [] := h
  subst h6
  obtain ⟨s, rfl, _⟩ := TyArg_string Tryd.underlying9 h1
  obtain ⟨k', v, s', h9, rfl⟩ := law5 s
  exact ⟨k', s', h9⟩
end T08
