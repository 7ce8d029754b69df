/- Parts of the proof, one behind the other. -/
import Derived.Test.YtofeijldadameaaDoorK01na
import Derived.Test.YtofeijldadameaaDoorK01a
set_option linter.unusedSimpArgs false
set_option linter.unusedVariables false
/- Texts of numbers and their reading: plain lists. -/
namespace T01
open Go Fw Go.Proofs
set_option maxRecDepth 100000
set_option maxHeartbeats 4000000
set_option linter.unusedSimpArgs false
set_option linter.unusedVariables false
def isD (b : UInt8) : Bool := decide (48 ≤ b.toNat) && decide (b.toNat ≤ 57)
def three (f : Nat) : List UInt8 := (dec (1000 + f)).drop 1
def is0 (b : UInt8) : Bool := decide (b = 48)
def fracB (f : Nat) : List UInt8 := trimR is0 (three f)
def textB (c : Int) : List UInt8 := (if c < 0 then [45] else []) ++ (dec (c.natAbs / 1000) ++ if c.natAbs % 1000 = 0 then [] else 46 :: fracB (c.natAbs % 1000))
/-- What digits come to, a number ahead of them; nothing past the greatest value. -/
def acc : List UInt8 → Nat → Option Nat
  | [], n => some n
  | b :: l, n => if 1000000000000 < 10 * n + (b.toNat - 48) then none else acc l (10 * n + (b.toNat - 48))
def okP (w p : List UInt8) (pt : Bool) : Bool := decide (w ≠ []) && w.all isD && (!pt || (decide (1 ≤ p.length) && decide (p.length ≤ 3) && p.all isD))
def zero3 : List UInt8 := [48, 48, 48]
def readB (neg : Bool) (all : List UInt8) : Int × Int := match acc all 0 with
  | none => (0, 6)
  | some n => (if neg then -(n : Int) else n, 0)
def bodyB (s : List UInt8) : List UInt8 := if s.head? = some 45 then s.tail else s
def parseB (s : List UInt8) : Int × Int :=
  if okP (cutB 46 (bodyB s)).1 (cutB 46 (bodyB s)).2.1 (cutB 46 (bodyB s)).2.2 then readB (decide (s.head? = some 45)) ((cutB 46 (bodyB s)).1 ++ ((cutB 46 (bodyB s)).2.1 ++ zero3).take 3) else (0, 2)
/-- How many digits stand ahead. -/
def pref : List UInt8 → Nat
  | [] => 0
  | b :: l => if isD b then pref l + 1 else 0
theorem pref_le : ∀ l : List UInt8, pref l ≤ l.length
  | [] => Nat.le_refl _
  | b :: l => by simp only [pref]; split <;> simp; have := pref_le l; omega
theorem pref_all : ∀ l : List UInt8, l.all isD = decide (pref l = l.length)
  | [] => rfl
  | b :: l => by
    have ih := pref_all l
    rw [Bool.eq_iff_iff, decide_eq_true_eq] at ih ⊢
    rw [List.all_cons, Bool.and_eq_true, ih]
    by_cases h : isD b = true
    · simp [pref, h]
    · simp [pref, h]
theorem pref_take : ∀ l : List UInt8, (l.take (pref l)).all isD = true
  | [] => rfl
  | b :: l => by
    simp only [pref]
    split
    · rename_i h; rw [List.take_succ_cons, List.all_cons, h, pref_take l]; rfl
    · rfl
theorem pref_stop : ∀ l : List UInt8, pref l < l.length → isD (l.getD (pref l) 0) = false
  | [], h => by simp at h
  | b :: l, h => by
    simp only [pref] at h ⊢
    split at h <;> rename_i hb
    · rw [if_pos hb, List.getD_cons_succ]; exact pref_stop l (by simpa using h)
    · rw [if_neg hb]; simpa using hb
theorem all_pref : ∀ (l : List UInt8) (k : Nat), k ≤ l.length → (l.take k).all isD = true → k ≤ pref l
  | _, 0, _, _ => Nat.zero_le _
  | [], k + 1, h, _ => by simp at h
  | b :: l, k + 1, h, h2 => by
    simp only [List.take_succ_cons, List.all_cons, Bool.and_eq_true] at h2
    simp only [pref, h2.1, if_true]
    have := all_pref l k (by simpa using h) h2.2
    omega
theorem find_first (c : UInt8) : ∀ (l : List UInt8) (i j : Nat), findByte c l i = (j : Int) → ∀ k, i + k < j → l.getD k 0 ≠ c
  | [], i, j, h, k, hk => by simp only [findByte] at h; omega
  | b :: l, i, j, h, k, hk => by
    simp only [findByte] at h
    by_cases hb : b = c
    · rw [if_pos hb] at h; omega
    · rw [if_neg hb] at h
      cases k with
      | zero => simpa using hb
      | succ k => rw [List.getD_cons_succ]; exact find_first c l (i + 1) j h k (by omega)
theorem find_at (c : UInt8) : ∀ (l : List UInt8) (i j : Nat), findByte c l i = (j : Int) → l.getD (j - i) 0 = c
  | [], i, j, h => by simp only [findByte] at h; omega
  | b :: l, i, j, h => by
    simp only [findByte] at h
    by_cases hb : b = c
    · rw [if_pos hb] at h
      have : j - i = 0 := by omega
      rw [this]; simpa using hb
    · rw [if_neg hb] at h
      have h1 := find_at c l (i + 1) j h
      have h2 : i + 1 ≤ j := by
        rcases findByte_spec c l (i + 1) with h3 | ⟨q, h3, h4, _⟩ <;> omega
      rw [show j - i = (j - (i + 1)) + 1 by omega, List.getD_cons_succ]; exact h1
theorem find_none (c : UInt8) : ∀ (l : List UInt8) (i : Nat), findByte c l i = -1 → ∀ k, k < l.length → l.getD k 0 ≠ c
  | [], i, h, k, hk => by simp at hk
  | b :: l, i, h, k, hk => by
    simp only [findByte] at h
    by_cases hb : b = c
    · rw [if_pos hb] at h; omega
    · rw [if_neg hb] at h
      cases k with
      | zero => simpa using hb
      | succ k => rw [List.getD_cons_succ]; exact find_none c l (i + 1) h k (by simpa using hk)
/-- The reference's reading. -/
def parseR (s : List UInt8) : Int × Int :=
  if pref (bodyB s) = 0 then (0, 2)
  else if pref (bodyB s) < (bodyB s).length then
    (if (bodyB s).getD (pref (bodyB s)) 0 ≠ 46 ∨ pref ((bodyB s).drop (pref (bodyB s) + 1)) < 1 ∨ 3 < pref ((bodyB s).drop (pref (bodyB s) + 1)) ∨ pref (bodyB s) + 1 + pref ((bodyB s).drop (pref (bodyB s) + 1)) ≠ (bodyB s).length then (0, 2)
     else readB (decide (s.head? = some 45)) ((bodyB s).take (pref (bodyB s)) ++ ((bodyB s).drop (pref (bodyB s) + 1) ++ [48, 48]).take 3))
  else readB (decide (s.head? = some 45)) ((bodyB s).take (pref (bodyB s)) ++ zero3)
theorem pad_eq (p : List UInt8) (h1 : 1 ≤ p.length) (h2 : p.length ≤ 3) : (p ++ zero3).take 3 = (p ++ [48, 48]).take 3 := by
  match p, h1, h2 with
  | [a], _, _ => rfl
  | [a, b], _, _ => rfl
  | [a, b, c], _, _ => rfl
  | a :: b :: c :: d :: l, _, h => simp at h
theorem notD_dot : isD 46 = false := rfl
theorem parse_same (s : List UInt8) : parseR s = parseB s := by
  unfold parseR parseB
  generalize decide (s.head? = some 45) = neg
  generalize bodyB s = b
  have hp := pref_le b
  rcases findByte_spec 46 b 0 with h | ⟨j, h, _, hj⟩
  · have hc : cutB 46 b = (b, [], false) := by unfold cutB; rw [h]; rfl
    rw [hc]
    simp only [okP, Bool.not_false, Bool.true_or, Bool.and_true, List.nil_append, pref_all]
    by_cases h0 : pref b = 0
    · rw [if_pos h0, h0]
      by_cases hb : b = []
      · subst hb; rfl
      · have : ¬ 0 = b.length := fun e => hb (List.length_eq_zero_iff.1 e.symm)
        rw [decide_eq_false this, Bool.and_false]; rfl
    · rw [if_neg h0]
      by_cases hl : pref b < b.length
      · rw [if_pos hl, if_pos (.inl (find_none 46 b 0 h _ hl)), decide_eq_false (show ¬ pref b = b.length by omega), Bool.and_false]; rfl
      · have hl2 : pref b = b.length := by omega
        have hb : b ≠ [] := fun e => by subst e; exact h0 rfl
        rw [if_neg hl, decide_eq_true hl2, decide_eq_true hb, hl2, List.take_length]; rfl
  · have hc : cutB 46 b = (b.take j, b.drop (j + 1), true) := by unfold cutB; rw [h]
    rw [hc]
    simp only [okP, Bool.not_true, Bool.false_or]
    have hat := find_at 46 b 0 j h
    rw [Nat.sub_zero] at hat
    have hkj : pref b ≤ j := by
      rcases Nat.lt_or_ge j (pref b) with hx | hx
      · have h1 := List.all_eq_true.1 (pref_take b) 46 (by
          have : (b.take (pref b))[j]? = some 46 := by
            rw [List.getElem?_take_of_lt hx]
            have hjl : j < b.length := by omega
            rw [List.getElem?_eq_getElem hjl]
            simpa [List.getD, hjl] using hat
          exact List.mem_of_getElem? this)
        exact absurd h1 (by decide)
      · exact hx
    by_cases hk : pref b = j
    · by_cases h0 : pref b = 0
      · rw [if_pos h0]
        have : j = 0 := by omega
        subst this; rfl
      · rw [if_neg h0, if_pos (by omega), hk]
        have hw : (b.take j).all isD = true := by rw [← hk]; exact pref_take b
        have hne : b.take j ≠ [] := by
          intro e
          have := congrArg List.length e
          rw [List.length_take, List.length_nil] at this; omega
        rw [hw, decide_eq_true hne, pref_all]
        have hpl := pref_le (b.drop (j + 1))
        have hdl : (b.drop (j + 1)).length = b.length - (j + 1) := List.length_drop
        by_cases hm : pref (b.drop (j + 1)) = (b.drop (j + 1)).length
        · rw [decide_eq_true hm]
          by_cases h1 : 1 ≤ (b.drop (j + 1)).length
          · by_cases h3 : (b.drop (j + 1)).length ≤ 3
            · rw [if_neg (by rintro (h | h | h | h); exact h hat; all_goals omega), decide_eq_true h1, decide_eq_true h3, pad_eq _ h1 h3]; rfl
            · rw [if_pos (by omega), decide_eq_false h3, Bool.and_false]; rfl
          · rw [if_pos (by omega), decide_eq_false h1]; rfl
        · rw [if_pos (by omega), decide_eq_false hm, Bool.and_false]; rfl
    · have hlt : pref b < j := by omega
      have hall : (b.take j).all isD = false := by
        cases hx : (b.take j).all isD with
        | false => rfl
        | true => exact absurd (all_pref b j (by omega) hx) (by omega)
      rw [hall, Bool.and_false, Bool.false_and]
      by_cases h0 : pref b = 0
      · rw [if_pos h0]; rfl
      · rw [if_neg h0, if_pos (by omega), if_pos (.inl (find_first 46 b 0 j h _ (by omega)))]; rfl
end T01

/- The text of a number is read as the number. -/
namespace T01
open Go Fw Go.Proofs
set_option maxRecDepth 100000
set_option maxHeartbeats 4000000
set_option linter.unusedSimpArgs false
set_option linter.unusedVariables false
theorem digit_byte (d : Nat) : (UInt8.ofNat (48 + d % 10)).toNat = 48 + d % 10 := by
  rw [UInt8.toNat_ofNat']; omega
theorem digit_isD (d : Nat) : isD (UInt8.ofNat (48 + d % 10)) = true := by unfold isD; rw [digit_byte]; simp; omega
theorem decB_all (x n : Nat) : (decB x n).all isD = true := by
  unfold decB; rw [List.all_map]; apply List.all_eq_true.2; intro j _; exact digit_isD _
theorem decB_length (x n : Nat) : (decB x n).length = n := by simp [decB]
theorem dec_all (x : Nat) : (dec x).all isD = true := by
  unfold dec; split
  · rfl
  · exact decB_all _ _
theorem dec_ne (x : Nat) (hx : x < 18446744073709551616) : dec x ≠ [] := by
  unfold dec; split
  · simp
  · intro e
    have := congrArg List.length e
    rw [decB_length] at this
    have := (nd_facts hx (by omega)).1
    simp at *; omega
theorem dec_length (x : Nat) (hx : x < 18446744073709551616) : (dec x).length ≤ 20 := by
  unfold dec; split
  · simp
  · rw [decB_length]; exact (nd_facts hx (by omega)).2.1
theorem acc_range (x n : Nat) (hx : x ≤ 1000000000000) (l : List UInt8) : ∀ (m i : Nat), i + m = n → acc ((List.range' i m).map (fun j => UInt8.ofNat (48 + x / 10 ^ (n - 1 - j) % 10)) ++ l) (x / 10 ^ m) = acc l x
  | 0, i, hi => by simp
  | m + 1, i, hi => by
    rw [List.range'_succ, List.map_cons, List.cons_append]
    simp only [acc]
    rw [digit_byte, show n - 1 - i = m by omega, Nat.add_sub_cancel_left]
    have e : 10 * (x / 10 ^ (m + 1)) + x / 10 ^ m % 10 = x / 10 ^ m := by
      rw [Nat.pow_succ, ← Nat.div_div_eq_div_mul]; omega
    rw [e, if_neg (by have := Nat.div_le_self x (10 ^ m); omega)]
    exact acc_range x n hx l m (i + 1) (by omega)
theorem acc_decB (x n : Nat) (hx : x ≤ 1000000000000) (h : x < 10 ^ n) (l : List UInt8) : acc (decB x n ++ l) 0 = acc l x := by
  have := acc_range x n hx l n 0 (by omega)
  rw [Nat.div_eq_of_lt h] at this
  unfold decB; rw [List.range_eq_range']; exact this
theorem acc_dec (x : Nat) (hx : x ≤ 1000000000000) (l : List UInt8) : acc (dec x ++ l) 0 = acc l x := by
  unfold dec; split
  · subst x; rfl
  · have := nd_facts (x := x) (by omega) (by omega)
    exact acc_decB x _ hx this.2.2.1 l
theorem three_eq : ∀ f : Fin 1000, three f.val = [UInt8.ofNat (48 + f.val / 100 % 10), UInt8.ofNat (48 + f.val / 10 % 10), UInt8.ofNat (48 + f.val % 10)] := by decide +kernel
theorem frac_facts : ∀ f : Fin 1000, f.val ≠ 0 → (fracB f.val ++ zero3).take 3 = three f.val ∧ 1 ≤ (fracB f.val).length ∧ (fracB f.val).length ≤ 3 ∧ (fracB f.val).all isD = true := by decide +kernel
theorem acc_three (q f : Nat) (hf : f < 1000) (h : 1000 * q + f ≤ 1000000000000) : acc (three f) q = some (1000 * q + f) := by
  rw [three_eq ⟨f, hf⟩]
  simp only [acc]
  rw [digit_byte, digit_byte, digit_byte, Nat.add_sub_cancel_left, Nat.add_sub_cancel_left, Nat.add_sub_cancel_left, if_neg (by omega), if_neg (by omega), if_neg (by omega)]
  congr 1; omega
theorem find_app (c : UInt8) (l : List UInt8) (hl : ∀ b ∈ l, b ≠ c) : ∀ (a r : List UInt8) (i : Nat), a = l ++ c :: r → findByte c a i = ((i + l.length : Nat) : Int) := by
  induction l with
  | nil => intro a r i ha; subst ha; simp [findByte]
  | cons b l ih =>
    intro a r i ha; subst ha
    simp only [List.cons_append, findByte]
    rw [if_neg (hl b (by simp)), ih (fun x hx => hl x (by simp [hx])) _ r (i + 1) rfl]
    simp only [List.length_cons]; congr 1; omega
theorem find_not (c : UInt8) : ∀ (l : List UInt8) (i : Nat), (∀ b ∈ l, b ≠ c) → findByte c l i = -1
  | [], _, _ => rfl
  | b :: l, i, h => by simp only [findByte]; rw [if_neg (h b (by simp))]; exact find_not c l (i + 1) fun x hx => h x (by simp [hx])
theorem cut_app (c : UInt8) (l r : List UInt8) (hl : ∀ b ∈ l, b ≠ c) : cutB c (l ++ c :: r) = (l, r, true) := by
  unfold cutB
  rw [find_app c l hl _ r 0 rfl, Nat.zero_add]
  show ((l ++ c :: r).take l.length, (l ++ c :: r).drop (l.length + 1), true) = _
  rw [List.take_left' rfl, ← List.drop_drop, List.drop_left' rfl]; rfl
theorem cut_not (c : UInt8) (l : List UInt8) (hl : ∀ b ∈ l, b ≠ c) : cutB c l = (l, [], false) := by
  unfold cutB; rw [find_not c l 0 hl]; rfl
theorem dig_ne {l : List UInt8} (h : l.all isD = true) (c : UInt8) (hc : isD c = false) : ∀ b ∈ l, b ≠ c := by
  intro b hb e; subst e
  have := List.all_eq_true.1 h b hb
  rw [hc] at this; cases this
theorem head_dec (x : Nat) (r : List UInt8) (hx : x < 18446744073709551616) : (dec x ++ r).head? ≠ some 45 := by
  have h := dec_all x
  have h0 := dec_ne x hx
  cases hd : dec x with
  | nil => exact absurd hd h0
  | cons b l =>
    rw [hd] at h
    simp only [List.all_cons, Bool.and_eq_true] at h
    simp only [List.cons_append, List.head?_cons, ne_eq, Option.some.injEq]
    intro e; subst e; exact absurd h.1 (by decide)
theorem parse_text (c : Int) (h1 : -1000000000000 ≤ c) (h2 : c ≤ 1000000000000) : parseB (textB c) = (c, 0) := by
  have key : ∀ a : Nat, a ≤ 1000000000000 → ∀ r, r = (if a % 1000 = 0 then [] else 46 :: fracB (a % 1000)) → okP (cutB 46 (dec (a / 1000) ++ r)).1 (cutB 46 (dec (a / 1000) ++ r)).2.1 (cutB 46 (dec (a / 1000) ++ r)).2.2 = true ∧
      acc ((cutB 46 (dec (a / 1000) ++ r)).1 ++ ((cutB 46 (dec (a / 1000) ++ r)).2.1 ++ zero3).take 3) 0 = some a := by
    intro a ha r hr
    have hq : a / 1000 < 18446744073709551616 := by omega
    have hd := dig_ne (dec_all (a / 1000)) 46 rfl
    by_cases hf : a % 1000 = 0
    · rw [if_pos hf] at hr
      subst hr
      rw [List.append_nil, cut_not 46 _ hd]
      refine ⟨?_, ?_⟩
      · simp only [okP, Bool.not_false, Bool.true_or, Bool.and_true, dec_all, decide_eq_true (dec_ne _ hq)]
      · show acc (dec (a / 1000) ++ ([] ++ zero3).take 3) 0 = some a
        rw [acc_dec _ (by omega)]
        have := acc_three (a / 1000) 0 (by omega) (by omega)
        rw [show three 0 = ([] ++ zero3).take 3 by decide +kernel] at this
        rw [this]; congr 1; omega
    · rw [if_neg hf] at hr
      subst hr
      rw [cut_app 46 _ _ hd]
      obtain ⟨g1, g2, g3, g4⟩ := frac_facts ⟨a % 1000, by omega⟩ hf
      simp only at g1 g2 g3 g4
      refine ⟨?_, ?_⟩
      · simp only [okP, Bool.not_true, Bool.false_or, dec_all, decide_eq_true (dec_ne _ hq), g4, decide_eq_true g2, decide_eq_true g3, Bool.and_self]
      · rw [g1, acc_dec _ (by omega), acc_three (a / 1000) (a % 1000) (by omega) (by omega)]
        congr 1; omega
  unfold parseB textB
  by_cases hc : c < 0
  · rw [if_pos hc]
    have hb : ∀ r : List UInt8, bodyB ([45] ++ r) = r := fun r => by simp [bodyB]
    have hn : ∀ r : List UInt8, decide (([45] ++ r).head? = some (45 : UInt8)) = true := fun r => by simp
    rw [hb, hn]
    obtain ⟨k1, k2⟩ := key c.natAbs (by omega) _ rfl
    rw [if_pos k1]
    unfold readB
    rw [k2]
    show (-(c.natAbs : Int), (0 : Int)) = _
    congr 1; omega
  · rw [if_neg hc, List.nil_append]
    have hh := head_dec (c.natAbs / 1000) (if c.natAbs % 1000 = 0 then [] else 46 :: fracB (c.natAbs % 1000)) (by omega)
    have hb : bodyB (dec (c.natAbs / 1000) ++ if c.natAbs % 1000 = 0 then [] else 46 :: fracB (c.natAbs % 1000)) = (dec (c.natAbs / 1000) ++ if c.natAbs % 1000 = 0 then [] else 46 :: fracB (c.natAbs % 1000)) := by
      unfold bodyB; rw [if_neg hh]
    rw [hb, decide_eq_false hh]
    obtain ⟨k1, k2⟩ := key c.natAbs (by omega) _ rfl
    rw [if_pos k1]
    unfold readB
    rw [k2]
    show ((c.natAbs : Int), (0 : Int)) = _
    congr 1; omega
end T01

/- Trim at the digits; the two tests of digits. -/
namespace T01
open Go Fw Go.Proofs
set_option maxRecDepth 100000
set_option maxHeartbeats 4000000
set_option linter.unusedSimpArgs false
set_option linter.unusedVariables false
def tens : List UInt8 := [48, 49, 50, 51, 52, 53, 54, 55, 56, 57]
def setB : List AV := (List.range 256).map fun i => .bool (Nat.ble 48 i && Nat.ble i 57)
theorem mas_run (h : List (Nat × AObj)) (l : Nat) : callF cx 1000 52 [.str tens] { heap := h, next := 0, low := l } = some (.tuple [.agg setB, .bool true], { heap := h, next := 0, low := l }) := by kernel_rfl
theorem c52 (h : List (Nat × AObj)) (l : Nat) (K : AV → St → Prop) : CallW cx 52 [.str tens] { heap := h, next := 0, low := l } K = K (.tuple [.agg setB, .bool true]) { heap := h, next := 0, low := l } :=
  CallW.eq ⟨1000, _, _, mas_run h l, rfl, rfl⟩ K
theorem setB_get (b : UInt8) : sub setB b.toNat 1 = some [.bool (isD b)] := by
  have h : b.toNat < 256 := b.toNat_lt
  unfold setB
  rw [sub_one (by simpa using h)]
  congr 2
  simp only [List.getD, List.getElem?_map, List.getElem?_range h, Option.map_some, Option.getD_some]
  congr 1
  unfold isD
  rw [Bool.eq_iff_iff]
  simp [Nat.ble_eq]
theorem c66 (b : UInt8) (C : Nat) (ty : Option TypeId) (s : St) (hlk : Fw.look C s.heap = some (.cells ty setB)) (K : AV → St → Prop) : CallW cx 66 [.ptr C 0, .int .u8 b.toNat] s K = K (.bool (isD b)) s := by
  refine CallW.eq (CallW.fn' (fn := ir66) rfl rfl (by kernel_rfl) ir66.eq_1 ?_) K
  have h : b.toNat < 256 := b.toNat_lt
  have b1 : (0 : Int) ≤ (b.toNat : Int) ∧ (b.toNat : Int) < ((256 : Nat) : Int) := by omega
  have e : iaddrA 1 (some 256) (.ptr C 0) (b.toNat : Int) = some (.ptr C b.toNat) := by simp only [iaddrA]; rw [if_pos b1]; simp
  simp (config := {contextual := true, implicitDefEqProofs := false, maxSteps := 4000000}) only [go_sem, ↓reduceIte, Bool.false_eq_true, Nat.reduceEqDiff, Nat.reduceAdd, Int.reduceLE, Int.reduceLT, Int.reduceEq, Int.reduceToNat, Int.toNat_natCast, Int.cast_ofNat_Int, Int.natCast_one, Nat.reduceMod, Nat.reduceDiv, UInt8.reduceToNat, Nat.reduceLT, e, hlk, setB_get]
theorem l53 (C : Nat) (ty : Option TypeId) (st : St) (hlk : Fw.look C st.heap = some (.cells ty setB)) (Q : Sig → FE → St → Prop) : ∀ (n : Nat) (a : List UInt8) (e : FE), a.length = n → a.length ≤ 4611686018427387904 → e 0 = .str a → e 1 = .ptr C 0 →
    (∀ e', e' 0 = .str (trimR isD a) → Q (.exit 0) e' st) → WLoop cx ir53L0 e st Q
  | 0, a, e, hn, hl, h0, h1, hQ => by
    refine WLoop.rnd (c := _) ir53L0.eq_1 ?_
    have ha : a = [] := List.length_eq_zero_iff.1 hn
    subst ha
    simp (config := {contextual := true, implicitDefEqProofs := false, maxSteps := 4000000}) only [go_sem, ↓reduceIte, Bool.false_eq_true, Nat.reduceEqDiff, Nat.reduceAdd, Int.reduceLE, Int.reduceLT, Int.reduceEq, Int.reduceToNat, Int.toNat_natCast, Int.cast_ofNat_Int, Int.natCast_one, Nat.reduceMod, Nat.reduceDiv, UInt8.reduceToNat, Nat.reduceLT, h0, h1]
    exact hQ _ h0
  | n + 1, a, e, hn, hl, h0, h1, hQ => by
    refine WLoop.rnd (c := _) ir53L0.eq_1 ?_
    obtain ⟨b, x, rfl⟩ : ∃ b x, a = b ++ [x] := by
      rcases List.eq_nil_or_concat a with rfl | ⟨b, x, rfl⟩
      · simp at hn
      · exact ⟨b, x, by simp⟩
    have hlen : (b ++ [x]).length = b.length + 1 := by simp
    have d1 : decide ((0 : Int) < ((b.length + 1 : Nat) : Int)) = true := decide_eq_true (by omega)
    have w1 := wrap_pred (i := b.length) (by rw [hlen] at hl; omega)
    have b1 : (0 : Int) ≤ (b.length : Int) := by omega
    have b2 : (b.length : Int) < ((b.length + 1 : Nat) : Int) := by omega
    have b3 : (b.length : Int) ≤ ((b.length + 1 : Nat) : Int) := by omega
    have k := fun K => c66 x C ty st hlk K
    rw [trimR_snoc] at hQ
    cases hx : isD x with
    | true =>
      rw [if_pos hx] at hQ
      simp (config := {contextual := true, implicitDefEqProofs := false, maxSteps := 4000000}) only [go_sem, ↓reduceIte, Bool.false_eq_true, Nat.reduceEqDiff, Nat.reduceAdd, Int.reduceLE, Int.reduceLT, Int.reduceEq, Int.reduceToNat, Int.toNat_natCast, Int.cast_ofNat_Int, Int.natCast_one, Nat.reduceMod, Nat.reduceDiv, UInt8.reduceToNat, Nat.reduceLT, h0, h1, hlen, d1, w1, b1, b2, b3, last_at, k, hx, take_last]
      exact l53 C ty st hlk Q n b _ (by rw [hlen] at hn; omega) (by rw [hlen] at hl; omega) rfl h1 hQ
    | false =>
      rw [if_neg (by rw [hx]; decide)] at hQ
      simp (config := {contextual := true, implicitDefEqProofs := false, maxSteps := 4000000}) only [go_sem, ↓reduceIte, Bool.false_eq_true, Nat.reduceEqDiff, Nat.reduceAdd, Int.reduceLE, Int.reduceLT, Int.reduceEq, Int.reduceToNat, Int.toNat_natCast, Int.cast_ofNat_Int, Int.natCast_one, Nat.reduceMod, Nat.reduceDiv, UInt8.reduceToNat, Nat.reduceLT, h0, h1, hlen, d1, w1, b1, b2, b3, last_at, k, hx, take_last]
      exact hQ _ h0
theorem c53 (a : List UInt8) (ha : a.length ≤ 4611686018427387904) (C : Nat) (ty : Option TypeId) (s : St) (hlk : Fw.look C s.heap = some (.cells ty setB)) (K : AV → St → Prop) : CallW cx 53 [.str a, .ptr C 0] s K = K (.str (trimR isD a)) s := by
  refine CallW.eq (CallW.fn' (fn := ir53) rfl rfl (by kernel_rfl) ir53.eq_1 ?_) K
  simp (config := {contextual := true, implicitDefEqProofs := false, maxSteps := 4000000}) only [go_sem, ↓reduceIte, Bool.false_eq_true, Nat.reduceEqDiff, Nat.reduceAdd, Int.reduceLE, Int.reduceLT, Int.reduceEq, Int.reduceToNat, Int.toNat_natCast, Int.cast_ofNat_Int, Int.natCast_one, Nat.reduceMod, Nat.reduceDiv, UInt8.reduceToNat, Nat.reduceLT]
  refine l53 C ty { heap := s.heap, next := s.next, low := s.next } hlk _ _ a _ rfl ha rfl rfl ?_
  intro e' h
  simp (config := {contextual := true, implicitDefEqProofs := false, maxSteps := 4000000}) only [go_sem, ↓reduceIte, Bool.false_eq_true, Nat.reduceEqDiff, Nat.reduceAdd, Int.reduceLE, Int.reduceLT, Int.reduceEq, Int.reduceToNat, Int.toNat_natCast, Int.cast_ofNat_Int, Int.natCast_one, Nat.reduceMod, Nat.reduceDiv, UInt8.reduceToNat, Nat.reduceLT, h]
theorem l60 (C : Nat) (ty : Option TypeId) (st : St) (hlk : Fw.look C st.heap = some (.cells ty setB)) (Q : Sig → FE → St → Prop) : ∀ (a : List UInt8) (e : FE), a.length ≤ 4611686018427387904 → e 0 = .str a → e 1 = .ptr C 0 →
    (∀ e', e' 0 = .str (a.dropWhile isD) → Q (.exit 0) e' st) → WLoop cx ir60L0 e st Q
  | [], e, hl, h0, h1, hQ => by
    refine WLoop.rnd (c := _) ir60L0.eq_1 ?_
    simp (config := {contextual := true, implicitDefEqProofs := false, maxSteps := 4000000}) only [go_sem, ↓reduceIte, Bool.false_eq_true, Nat.reduceEqDiff, Nat.reduceAdd, Int.reduceLE, Int.reduceLT, Int.reduceEq, Int.reduceToNat, Int.toNat_natCast, Int.cast_ofNat_Int, Int.natCast_one, Nat.reduceMod, Nat.reduceDiv, UInt8.reduceToNat, Nat.reduceLT, h0, h1]
    exact hQ _ h0
  | x :: b, e, hl, h0, h1, hQ => by
    refine WLoop.rnd (c := _) ir60L0.eq_1 ?_
    have hlen : (x :: b).length = b.length + 1 := rfl
    have d1 : decide ((0 : Int) < ((b.length + 1 : Nat) : Int)) = true := decide_eq_true (by omega)
    have b2 : (0 : Int) < ((b.length + 1 : Nat) : Int) := by omega
    have b3 : (1 : Int) ≤ ((b.length + 1 : Nat) : Int) := by omega
    have k := fun K => c66 x C ty st hlk K
    rw [List.dropWhile_cons] at hQ
    cases hx : isD x with
    | true =>
      rw [if_pos hx] at hQ
      simp (config := {contextual := true, implicitDefEqProofs := false, maxSteps := 4000000}) only [go_sem, ↓reduceIte, Bool.false_eq_true, Nat.reduceEqDiff, Nat.reduceAdd, Int.reduceLE, Int.reduceLT, Int.reduceEq, Int.reduceToNat, Int.toNat_natCast, Int.cast_ofNat_Int, Int.natCast_one, Nat.reduceMod, Nat.reduceDiv, UInt8.reduceToNat, Nat.reduceLT, h0, h1, hlen, d1, b2, b3, k, hx, List.drop_succ_cons, List.drop_zero]
      exact l60 C ty st hlk Q b _ (by rw [hlen] at hl; omega) rfl h1 hQ
    | false =>
      rw [if_neg (by rw [hx]; decide)] at hQ
      simp (config := {contextual := true, implicitDefEqProofs := false, maxSteps := 4000000}) only [go_sem, ↓reduceIte, Bool.false_eq_true, Nat.reduceEqDiff, Nat.reduceAdd, Int.reduceLE, Int.reduceLT, Int.reduceEq, Int.reduceToNat, Int.toNat_natCast, Int.cast_ofNat_Int, Int.natCast_one, Nat.reduceMod, Nat.reduceDiv, UInt8.reduceToNat, Nat.reduceLT, h0, h1, hlen, d1, b2, b3, k, hx]
      exact hQ _ h0
theorem c60 (a : List UInt8) (ha : a.length ≤ 4611686018427387904) (C : Nat) (ty : Option TypeId) (s : St) (hlk : Fw.look C s.heap = some (.cells ty setB)) (K : AV → St → Prop) : CallW cx 60 [.str a, .ptr C 0] s K = K (.str (a.dropWhile isD)) s := by
  refine CallW.eq (CallW.fn' (fn := ir60) rfl rfl (by kernel_rfl) ir60.eq_1 ?_) K
  simp (config := {contextual := true, implicitDefEqProofs := false, maxSteps := 4000000}) only [go_sem, ↓reduceIte, Bool.false_eq_true, Nat.reduceEqDiff, Nat.reduceAdd, Int.reduceLE, Int.reduceLT, Int.reduceEq, Int.reduceToNat, Int.toNat_natCast, Int.cast_ofNat_Int, Int.natCast_one, Nat.reduceMod, Nat.reduceDiv, UInt8.reduceToNat, Nat.reduceLT]
  refine l60 C ty { heap := s.heap, next := s.next, low := s.next } hlk _ a _ ha rfl rfl ?_
  intro e' h
  simp (config := {contextual := true, implicitDefEqProofs := false, maxSteps := 4000000}) only [go_sem, ↓reduceIte, Bool.false_eq_true, Nat.reduceEqDiff, Nat.reduceAdd, Int.reduceLE, Int.reduceLT, Int.reduceEq, Int.reduceToNat, Int.toNat_natCast, Int.cast_ofNat_Int, Int.natCast_one, Nat.reduceMod, Nat.reduceDiv, UInt8.reduceToNat, Nat.reduceLT, h]
theorem dropW_nil (p : UInt8 → Bool) : ∀ l : List UInt8, l.dropWhile p = [] ↔ ∀ b ∈ l, p b = true
  | [] => by simp
  | b :: l => by
    rw [List.dropWhile_cons]
    cases h : p b
    · simp [h]
    · simp [h, dropW_nil p l]
theorem trim_all (a : List UInt8) : (decide ((trimR isD a).dropWhile isD = [])) = a.all isD := by
  rw [Bool.eq_iff_iff, decide_eq_true_eq, List.all_eq_true]
  constructor
  · intro h
    have h1 : ∀ b ∈ trimR isD a, isD b = true := by
      rw [dropW_nil] at h; exact h
    have h2 : trimR isD a = [] := by
      rcases List.eq_nil_or_concat (trimR isD a) with h3 | ⟨b, x, h3⟩
      · exact h3
      · have hx := h1 x (by rw [h3]; simp)
        have h4 : (a.reverse.dropWhile isD) = x :: b.reverse := by
          have : (trimR isD a).reverse = x :: b.reverse := by rw [h3]; simp
          unfold trimR at this; rwa [List.reverse_reverse] at this
        have := List.head?_dropWhile_not isD a.reverse
        rw [h4] at this
        simp only [List.head?_cons] at this
        rw [hx] at this; cases this
    intro b hb
    have h5 : a.reverse.dropWhile isD = [] := by
      have : (trimR isD a).reverse = [] := by rw [h2]; rfl
      unfold trimR at this; rwa [List.reverse_reverse] at this
    rw [dropW_nil] at h5
    exact h5 b (by simpa using hb)
  · intro h
    have : a.reverse.dropWhile isD = [] := by
      rw [dropW_nil]; intro b hb; exact h b (by simpa using hb)
    unfold trimR; rw [this]; rfl
theorem trimR_le (p : UInt8 → Bool) (a : List UInt8) : (trimR p a).length ≤ a.length := by
  unfold trimR; rw [List.length_reverse]; have := (List.dropWhile_sublist p (l := a.reverse)).length_le; simpa using this
theorem c49 (a : List UInt8) (ha : a.length ≤ 4611686018427387904) (hne : a ≠ []) (h : List (Nat × AObj)) (l : Nat) (K : AV → St → Prop) : CallW cx 49 [.str a, .str tens] { heap := h, next := 0, low := l } K = K (.str ((trimR isD a).dropWhile isD)) { heap := h, next := 0, low := l } := by
  refine CallW.eq (CallW.fn' (fn := ir49) rfl rfl (by kernel_rfl) ir49.eq_1 ?_) K
  have d1 : decide (a = []) = false := by simpa using hne
  have d2 : decide (tens = []) = false := by decide
  have km := c52
  have d3 : tens.length = 10 := rfl
  have kr := fun C st hlk K => c53 a ha C (some 69) st hlk K
  have kl := fun C st hlk K => c60 (trimR isD a) (Nat.le_trans (trimR_le _ _) ha) C (some 69) st hlk K
  have hal : setB.all AV.one = true := by kernel_rfl
  have hcl : setB.length = 256 := by kernel_rfl
  have hpt : ∀ cs : List AV, cs.length = 256 → patch cs 0 setB = some setB := by
    intro cs h2
    unfold patch
    rw [if_pos (by omega), List.take_zero, List.nil_append, hcl, List.drop_eq_nil_of_le (by omega), List.append_nil]
  simp (config := {contextual := true, implicitDefEqProofs := false, maxSteps := 4000000}) only [go_sem, ↓reduceIte, Bool.false_eq_true, Nat.reduceEqDiff, Nat.reduceAdd, Int.reduceLE, Int.reduceLT, Int.reduceEq, Int.reduceToNat, Int.toNat_natCast, Int.cast_ofNat_Int, Int.natCast_one, Nat.reduceMod, Nat.reduceDiv, UInt8.reduceToNat, Nat.reduceLT, d1, d2, d3, km, kr, kl, hal, hcl, hpt]
theorem cdigA (a : List UInt8) (ha : a.length ≤ 4611686018427387904) (h : List (Nat × AObj)) (l : Nat) (K : AV → St → Prop) : CallW cx 39 [.str a, .int .i64 1, .int .i64 (-1)] { heap := h, next := 0, low := l } K = K (.bool (decide (a ≠ []) && a.all isD)) { heap := h, next := 0, low := l } := by
  refine CallW.eq (CallW.fn' (fn := ir39) rfl rfl (by kernel_rfl) ir39.eq_1 ?_) K
  by_cases hne : a = []
  · subst hne
    simp (config := {contextual := true, implicitDefEqProofs := false, maxSteps := 4000000}) only [go_sem, ↓reduceIte, Bool.false_eq_true, Nat.reduceEqDiff, Nat.reduceAdd, Int.reduceLE, Int.reduceLT, Int.reduceEq, Int.reduceToNat, Int.toNat_natCast, Int.cast_ofNat_Int, Int.natCast_one, Nat.reduceMod, Nat.reduceDiv, UInt8.reduceToNat, Nat.reduceLT]
    rfl
  · have hp : 0 < a.length := List.length_pos_iff.2 hne
    have d1 : decide ((1 : Int) ≤ (a.length : Int)) = true := decide_eq_true (by omega)
    have k := fun h l K => c49 a ha hne h l K
    simp only [tens] at k
    have e := trim_all a
    simp (config := {contextual := true, implicitDefEqProofs := false, maxSteps := 4000000}) only [go_sem, ↓reduceIte, Bool.false_eq_true, Nat.reduceEqDiff, Nat.reduceAdd, Int.reduceLE, Int.reduceLT, Int.reduceEq, Int.reduceToNat, Int.toNat_natCast, Int.cast_ofNat_Int, Int.natCast_one, Nat.reduceMod, Nat.reduceDiv, UInt8.reduceToNat, Nat.reduceLT, d1, k, e, decide_eq_true hne]
theorem cdigB (a : List UInt8) (ha : a.length ≤ 4611686018427387904) (h : List (Nat × AObj)) (l : Nat) (K : AV → St → Prop) : CallW cx 39 [.str a, .int .i64 1, .int .i64 3] { heap := h, next := 0, low := l } K = K (.bool (decide (1 ≤ a.length) && decide (a.length ≤ 3) && a.all isD)) { heap := h, next := 0, low := l } := by
  refine CallW.eq (CallW.fn' (fn := ir39) rfl rfl (by kernel_rfl) ir39.eq_1 ?_) K
  by_cases hne : a = []
  · subst hne
    simp (config := {contextual := true, implicitDefEqProofs := false, maxSteps := 4000000}) only [go_sem, ↓reduceIte, Bool.false_eq_true, Nat.reduceEqDiff, Nat.reduceAdd, Int.reduceLE, Int.reduceLT, Int.reduceEq, Int.reduceToNat, Int.toNat_natCast, Int.cast_ofNat_Int, Int.natCast_one, Nat.reduceMod, Nat.reduceDiv, UInt8.reduceToNat, Nat.reduceLT]
    rfl
  · have hp : 0 < a.length := List.length_pos_iff.2 hne
    have d1 : decide ((1 : Int) ≤ (a.length : Int)) = true := decide_eq_true (by omega)
    have d1' : decide (1 ≤ a.length) = true := decide_eq_true (by omega)
    have k := fun h l K => c49 a ha hne h l K
    simp only [tens] at k
    have e := trim_all a
    by_cases h3 : a.length ≤ 3
    · have d2 : decide ((a.length : Int) ≤ 3) = true := decide_eq_true (by omega)
      simp (config := {contextual := true, implicitDefEqProofs := false, maxSteps := 4000000}) only [go_sem, ↓reduceIte, Bool.false_eq_true, Nat.reduceEqDiff, Nat.reduceAdd, Int.reduceLE, Int.reduceLT, Int.reduceEq, Int.reduceToNat, Int.toNat_natCast, Int.cast_ofNat_Int, Int.natCast_one, Nat.reduceMod, Nat.reduceDiv, UInt8.reduceToNat, Nat.reduceLT, d1, d1', d2, k, e, decide_eq_true h3]
    · have d2 : decide ((a.length : Int) ≤ 3) = false := decide_eq_false (by omega)
      simp (config := {contextual := true, implicitDefEqProofs := false, maxSteps := 4000000}) only [go_sem, ↓reduceIte, Bool.false_eq_true, Nat.reduceEqDiff, Nat.reduceAdd, Int.reduceLE, Int.reduceLT, Int.reduceEq, Int.reduceToNat, Int.toNat_natCast, Int.cast_ofNat_Int, Int.natCast_one, Nat.reduceMod, Nat.reduceDiv, UInt8.reduceToNat, Nat.reduceLT, d1, d1', d2, decide_eq_false h3]
theorem l40 (a : List UInt8) (hl : a.length ≤ 4611686018427387904) (st : St) (Q : Sig → FE → St → Prop) : ∀ (n i : Nat) (e : FE), i + n = a.length → e 0 = .str a → e 3 = .int .i64 (i : Int) →
    (∀ e', e' 3 = .int .i64 ((i + pref (a.drop i) : Nat) : Int) → Q (.exit 0) e' st) → WLoop cx ir40L0 e st Q
  | 0, i, e, hi, h0, h3, hQ => by
    refine WLoop.rnd (c := _) ir40L0.eq_1 ?_
    have d1 : decide ((i : Int) < (a.length : Int)) = false := decide_eq_false (by omega)
    rw [List.drop_eq_nil_of_le (by omega)] at hQ
    simp (config := {contextual := true, implicitDefEqProofs := false, maxSteps := 4000000}) only [go_sem, ↓reduceIte, Bool.false_eq_true, Nat.reduceEqDiff, Nat.reduceAdd, Int.reduceLE, Int.reduceLT, Int.reduceEq, Int.reduceToNat, Int.toNat_natCast, Int.cast_ofNat_Int, Int.natCast_one, Nat.reduceMod, Nat.reduceDiv, UInt8.reduceToNat, Nat.reduceLT, h0, h3, d1]
    exact hQ _ h3
  | n + 1, i, e, hi, h0, h3, hQ => by
    refine WLoop.rnd (c := _) ir40L0.eq_1 ?_
    have d1 : decide ((i : Int) < (a.length : Int)) = true := decide_eq_true (by omega)
    have b1 : (0 : Int) ≤ (i : Int) := by omega
    have b2 : (i : Int) < (a.length : Int) := by omega
    have hw := wrap_one (i := i) (by omega)
    rw [drop_at (a := a) (i := i) (by omega)] at hQ
    simp only [pref] at hQ
    obtain ⟨c, hcd⟩ : ∃ c, a.getD i 0 = c := ⟨_, rfl⟩
    rw [hcd] at hQ
    cases hx : decide ((48 : Int) ≤ (c.toNat : Int)) with
    | false =>
      have hc : isD c = false := by
        have := of_decide_eq_false hx
        unfold isD; rw [decide_eq_false (by omega), Bool.false_and]
      rw [hc, if_neg (by decide)] at hQ
      simp (config := {contextual := true, implicitDefEqProofs := false, maxSteps := 4000000}) only [go_sem, ↓reduceIte, Bool.false_eq_true, Nat.reduceEqDiff, Nat.reduceAdd, Int.reduceLE, Int.reduceLT, Int.reduceEq, Int.reduceToNat, Int.toNat_natCast, Int.cast_ofNat_Int, Int.natCast_one, Nat.reduceMod, Nat.reduceDiv, UInt8.reduceToNat, Nat.reduceLT, h0, h3, d1, b1, b2, hcd, hx]
      exact hQ _ h3
    | true =>
      cases hy : decide ((c.toNat : Int) ≤ (57 : Int)) with
      | false =>
        have hc : isD c = false := by
          have := of_decide_eq_false hy
          unfold isD; rw [decide_eq_false (show ¬ c.toNat ≤ 57 by omega), Bool.and_false]
        rw [hc, if_neg (by decide)] at hQ
        simp (config := {contextual := true, implicitDefEqProofs := false, maxSteps := 4000000}) only [go_sem, ↓reduceIte, Bool.false_eq_true, Nat.reduceEqDiff, Nat.reduceAdd, Int.reduceLE, Int.reduceLT, Int.reduceEq, Int.reduceToNat, Int.toNat_natCast, Int.cast_ofNat_Int, Int.natCast_one, Nat.reduceMod, Nat.reduceDiv, UInt8.reduceToNat, Nat.reduceLT, h0, h3, d1, b1, b2, hcd, hx, hy]
        exact hQ _ h3
      | true =>
        have hc : isD c = true := by
          have h1 := of_decide_eq_true hx
          have h2 := of_decide_eq_true hy
          unfold isD; rw [decide_eq_true (show 48 ≤ c.toNat by omega), decide_eq_true (show c.toNat ≤ 57 by omega)]; rfl
        rw [hc, if_pos rfl] at hQ
        simp (config := {contextual := true, implicitDefEqProofs := false, maxSteps := 4000000}) only [go_sem, ↓reduceIte, Bool.false_eq_true, Nat.reduceEqDiff, Nat.reduceAdd, Int.reduceLE, Int.reduceLT, Int.reduceEq, Int.reduceToNat, Int.toNat_natCast, Int.cast_ofNat_Int, Int.natCast_one, Nat.reduceMod, Nat.reduceDiv, UInt8.reduceToNat, Nat.reduceLT, h0, h3, d1, b1, b2, hcd, hx, hy, hw]
        exact l40 a hl st Q n (i + 1) _ (by omega) h0 rfl (fun e' h => hQ e' (by rw [h]; congr 2; omega))
theorem c40 (a : List UInt8) (hl : a.length ≤ 4611686018427387904) (s : St) (K : AV → St → Prop) : CallW cx 40 [.str a] s K = K (.int .i64 (pref a : Int)) s := by
  refine CallW.eq (CallW.fn' (fn := ir40) rfl rfl (by kernel_rfl) ir40.eq_1 ?_) K
  simp (config := {contextual := true, implicitDefEqProofs := false, maxSteps := 4000000}) only [go_sem, ↓reduceIte, Bool.false_eq_true, Nat.reduceEqDiff, Nat.reduceAdd, Int.reduceLE, Int.reduceLT, Int.reduceEq, Int.reduceToNat, Int.toNat_natCast, Int.cast_ofNat_Int, Int.natCast_one, Nat.reduceMod, Nat.reduceDiv, UInt8.reduceToNat, Nat.reduceLT]
  refine l40 a hl _ _ a.length 0 _ (by omega) rfl rfl ?_
  intro e' h
  rw [List.drop_zero, Nat.zero_add] at h
  simp (config := {contextual := true, implicitDefEqProofs := false, maxSteps := 4000000}) only [go_sem, ↓reduceIte, Bool.false_eq_true, Nat.reduceEqDiff, Nat.reduceAdd, Int.reduceLE, Int.reduceLT, Int.reduceEq, Int.reduceToNat, Int.toNat_natCast, Int.cast_ofNat_Int, Int.natCast_one, Nat.reduceMod, Nat.reduceDiv, UInt8.reduceToNat, Nat.reduceLT, h]
end T01
