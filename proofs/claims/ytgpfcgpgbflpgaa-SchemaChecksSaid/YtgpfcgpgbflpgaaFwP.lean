/- The operations that look at nothing but their operands. -/
import Derived.Test.YtgpfcgpgbflpgaaFwO
import Derived.Laws.Strings
import Derived.Laws.StructEq
import Derived.Laws.Unary
import Derived.Laws.Pointers
import Derived.Laws.Slices
namespace Fw
open Go Go.RowKit

section
variable {P : Program} {σ : Gh} {w : World}

theorem bin_R {op : BinOp} {x y v : AV} {t : TypeId} {ox oy : Operand} {u1 u2 : Value} (he : evBin op x y = some v) (h1 : R σ x u1) (h2 : R σ y u2) :
    ∃ u, (do eqGuard op t ox oy u1 u2; binOp op t u1 u2 : Sem Value).run P w = .ok u w ∧ R σ v u := by
  unfold evBin at he
  split at he
  · rename_i k a k' b
    simp only [R] at h1 h2; subst h1; subst h2
    split at he
    · split at he <;> cases he
      rename_i hb
      refine ⟨_, by simp [eqGuard_at_int, binOp_shl, Op.shift, hb]; rfl, by simp [R]⟩
    · split at he <;> cases he
      rename_i hb
      refine ⟨_, by simp [eqGuard_at_int, binOp_shr, Op.shift, hb]; rfl, by simp [R]⟩
    · split at he
      · rename_i hk; subst hk
        split at he
        case h_4 => split at he <;> cases he; rename_i hb; exact ⟨_, by simp [eqGuard_at_int, binOp_quo, Op.intDiv, hb]; rfl, by simp [R]⟩
        case h_5 => split at he <;> cases he; rename_i hb; exact ⟨_, by simp [eqGuard_at_int, binOp_rem, Op.intDiv, hb]; rfl, by simp [R]⟩
        all_goals first
          | (cases he; exact ⟨_, by simp [eqGuard_at_int, binOp_add, binOp_sub, binOp_mul, binOp_and, binOp_or, binOp_xor, binOp_andNot, binOp_eql, binOp_neq, binOp_lss, binOp_leq, binOp_gtr, binOp_geq, Op.intArith, Op.intBits]; rfl, by simp [R]⟩)
          | cases he
      · cases he
  · rename_i a b
    simp only [R] at h1 h2; subst h1; subst h2
    have hs : ∀ q, binOp q t (.string ⟨a.toArray⟩) (.string ⟨b.toArray⟩) = Op.stringOp q ⟨a.toArray⟩ ⟨b.toArray⟩ := fun q => by cases q <;> rfl
    have e1 : ByteArray.toList ⟨a.toArray⟩ = a := ByteArray.toList_mk _
    have e2 : ByteArray.toList ⟨b.toArray⟩ = b := ByteArray.toList_mk _
    split at he
    · split at he <;> cases he
      rename_i hl
      refine ⟨.string (⟨a.toArray⟩ ++ ⟨b.toArray⟩), ?_, ?_⟩
      · simp only [eqGuard_at_string, hs, Op.stringOp, Sem.run_bind, Sem.run_pure]
        have : ((ByteArray.size ⟨a.toArray⟩ : Int) + (ByteArray.size ⟨b.toArray⟩ : Int)) ≤ 9223372036854775807 := by
          simp [ByteArray.size]; omega
        simp [this]
      · simp only [R, Value.string.injEq]
        apply ByteArray.ext
        simp
    all_goals first
      | (cases he; exact ⟨_, by simp [eqGuard_at_string, hs, Op.stringOp, e1, e2]; rfl, by simp [R]⟩)
      | cases he
  · cases he

/- comparison of structs, cell by cell -/
def CK.fits (P : Program) (t : TypeId) : CK → Prop
  | .int => ∃ k, P.underlying t = some (.int k)
  | .bool => P.underlying t = some .bool
  | .str => P.underlying t = some .string

theorem cellEqK_R {k : CK} {x y : AV} {r : Bool} {u1 u2 : Value} {d : Nat} {t : TypeId} (he : cellEqK k x y = some r) (h1 : R σ x u1) (h2 : R σ y u2)
    (hk : k.fits P t) : (Op.equalIn (d + 1) t u1 u2).run P w = .ok r w := by
  unfold cellEqK at he
  split at he
  · rename_i k1 a k2 b
    by_cases hk' : k1 = k2
    case neg => rw [if_neg hk'] at he; cases he
    rw [if_pos hk'] at he; cases he
    subst hk'
    simp only [R] at h1 h2; subst h1; subst h2
    obtain ⟨k', hu⟩ := hk
    exact run_equalIn_int w d t _ k' _ _ hu
  · cases he
    simp only [R] at h1 h2; subst h1; subst h2
    rw [run_equalIn_string w d t _ _ hk, ByteArray.toList_mk, ByteArray.toList_mk]
  · cases he
    simp only [R] at h1 h2; subst h1; subst h2
    exact run_equalIn_bool' w d t _ _ hk
  · cases he

theorem cellsEq_append : ∀ (ks : List CK) (as bs : List AV) {ls : List CK} {cs ds : List AV} {r : Bool}, as.length = ks.length → bs.length = ks.length → cellsEq (ks ++ ls) (as ++ cs) (bs ++ ds) = some r →
    (cellsEq ks as bs = some true ∧ cellsEq ls cs ds = some r) ∨ (cellsEq ks as bs = some false ∧ r = false)
  | [], as, bs, ls, cs, ds, r, ha, hb, h => by
    obtain rfl := List.eq_nil_of_length_eq_zero ha
    obtain rfl := List.eq_nil_of_length_eq_zero hb
    exact .inl ⟨rfl, h⟩
  | k :: ks, [], _, _, _, _, _, ha, _, _ => by simp at ha
  | k :: ks, a :: as, [], _, _, _, _, _, hb, _ => by simp at hb
  | k :: ks, a :: as, b :: bs, ls, cs, ds, r, ha, hb, h => by
    simp only [List.length_cons, Nat.add_right_cancel_iff] at ha hb
    simp only [List.cons_append, cellsEq] at h ⊢
    cases hc : cellEqK k a b with
    | none => rw [hc] at h; cases h
    | some t =>
      rw [hc] at h
      cases t with
      | true => exact cellsEq_append ks as bs ha hb h
      | false =>
        dsimp only at h
        split at h <;> cases h
        exact .inr ⟨by simp [ha, hb], rfl⟩

theorem cellsEq_length : ∀ (ks : List CK) (as bs : List AV) {r : Bool}, cellsEq ks as bs = some r → as.length = ks.length ∧ bs.length = ks.length
  | [], [], [], _, _ => ⟨rfl, rfl⟩
  | [], _ :: _, _, _, h => by simp [cellsEq] at h
  | [], [], _ :: _, _, h => by simp [cellsEq] at h
  | k :: ks, [], _, _, h => by simp [cellsEq] at h
  | k :: ks, _ :: _, [], _, h => by simp [cellsEq] at h
  | k :: ks, a :: as, b :: bs, r, h => by
    simp only [cellsEq] at h
    split at h
    · have := cellsEq_length ks as bs h; simp [this.1, this.2]
    · split at h
      · rename_i hq; simp [hq.1, hq.2]
      · cases h
    · cases h

def packV (g : Bool) (xs : Array Value) : Option Value := if g then some (.agg xs) else match xs.toList with
  | [x] => some x
  | _ => none

theorem run_part {t : TypeId} {g : Bool} {n : Nat} (hg : tagg P t = some g) (hn : (P.info? t).map (·.size) = some n) (xs : Array Value) (off : Nat) (hl : off + n ≤ xs.size) {u : Value}
    (hu : packV g (xs.extract off (off + n)) = some u) (h1 : g = false → n = 1) : (part t xs off).run P w = .ok u w := by
  cases g with
  | true =>
    simp only [packV, if_true, Option.some.injEq] at hu
    simp [part, run_tagg hg, run_tsz (show tsz P t = some n from hn), hu]
  | false =>
    obtain rfl := h1 rfl
    simp only [part, Sem.run_bind, run_tagg hg, Result.andThen_ok, Bool.false_eq_true, if_false]
    have hx : xs[off]? = some xs[off] := by rw [Array.getElem?_eq_getElem]
    have : u = xs[off] := by
      have e : (xs.extract off (off + 1)).toList = [xs[off]] := by
        apply List.ext_getElem?
        intro i
        rw [Array.getElem?_toList, Array.getElem?_extract]
        cases i with
        | zero => simp; omega
        | succ i => simp; omega
      simp only [packV, Bool.false_eq_true, if_false, e, Option.some.injEq] at hu
      exact hu.symm
    rw [hx, this]; rfl

theorem plainEq_agg {d : Nat} {t : TypeId} {ks : List CK} (h : plainEq P d t = some ks) : ∃ g, tagg P t = some g ∧ (g = false → ks.length = 1) := by
  cases d with
  | zero => simp [plainEq] at h
  | succ d =>
    simp only [plainEq] at h
    split at h
    · rename_i k hu; cases h; exact ⟨false, by simp [tagg, hu], fun _ => rfl⟩
    · rename_i hu; cases h; exact ⟨false, by simp [tagg, hu], fun _ => rfl⟩
    · rename_i hu; cases h; exact ⟨false, by simp [tagg, hu], fun _ => rfl⟩
    · rename_i fs hu; exact ⟨true, by simp [tagg, hu], fun h => by simp at h⟩
    · cases h

theorem packV_of {g : Bool} {xs : Array Value} {n : Nat} (hs : xs.size = n) (h1 : g = false → n = 1) : ∃ u, packV g xs = some u := by
  cases g with
  | true => exact ⟨_, rfl⟩
  | false =>
    have : xs.toList.length = 1 := by simp [hs, h1 rfl]
    obtain ⟨x, hx⟩ := List.length_eq_one_iff.1 this
    exact ⟨x, by simp [packV, hx]⟩

theorem Rs_extract {as : List AV} {xs : Array Value} (h : Rs σ as xs.toList) (o n : Nat) : Rs σ ((as.drop o).take n) (xs.extract o (o + n)).toList := by
  have := Rs_take (Rs_drop h o) n
  rwa [show (xs.extract o (o + n)).toList = (xs.toList.drop o).take n by simp [Array.toList_extract, List.extract]]

theorem equalIn_plain : ∀ (d D : Nat) (t : TypeId) (ks : List CK), plainEq P d t = some ks → d ≤ D → ∀ (g : Bool), tagg P t = some g → ∀ (as bs : List AV) (xs ys : Array Value) (r : Bool),
    Rs σ as xs.toList → Rs σ bs ys.toList → cellsEq ks as bs = some r → ∀ (u1 u2 : Value), packV g xs = some u1 → packV g ys = some u2 → ∀ w, (Op.equalIn D t u1 u2).run P w = .ok r w
  | 0, _, _, _, h, _, _, _, _, _, _, _, _, _, _, _, _, _, _, _, _ => by simp [plainEq] at h
  | d + 1, D, t, ks, h, hD, g, hg, as, bs, xs, ys, r, hx, hy, hc, u1, u2, hu1, hu2, w => by
    obtain ⟨D, rfl⟩ : ∃ m, D = m + 1 := ⟨D - 1, by omega⟩
    have one : ∀ k, ks = [k] → g = false → ∃ a b, cellEqK k a b = some r ∧ R σ a u1 ∧ R σ b u2 := by
      intro k hn hg0
      subst hn; subst hg0
      obtain ⟨hla, hlb⟩ := cellsEq_length _ _ _ hc
      obtain ⟨a, rfl⟩ := List.length_eq_one_iff.1 hla
      obtain ⟨b, rfl⟩ := List.length_eq_one_iff.1 hlb
      refine ⟨a, b, ?_, ?_, ?_⟩
      · simp only [cellsEq] at hc
        cases hq : cellEqK k a b with
        | none => rw [hq] at hc; cases hc
        | some q => rw [hq] at hc; cases q <;> simpa using hc
      · simp only [Rs] at hx
        obtain ⟨v, rest, h1, h2, rfl⟩ := hx
        simp only [packV, Bool.false_eq_true, if_false, h1, Option.some.injEq] at hu1
        exact hu1 ▸ h2
      · simp only [Rs] at hy
        obtain ⟨v, rest, h1, h2, rfl⟩ := hy
        simp only [packV, Bool.false_eq_true, if_false, h1, Option.some.injEq] at hu2
        exact hu2 ▸ h2
    simp only [plainEq] at h
    split at h
    · rename_i k hu
      cases h
      obtain ⟨a, b, h1, h2, h3⟩ := one _ rfl (by simpa [tagg, hu] using hg.symm)
      exact cellEqK_R h1 h2 h3 ⟨k, hu⟩
    · rename_i hu
      cases h
      obtain ⟨a, b, h1, h2, h3⟩ := one _ rfl (by simpa [tagg, hu] using hg.symm)
      exact cellEqK_R h1 h2 h3 hu
    · rename_i hu
      cases h
      obtain ⟨a, b, h1, h2, h3⟩ := one _ rfl (by simpa [tagg, hu] using hg.symm)
      exact cellEqK_R h1 h2 h3 hu
    · rename_i fs hu
      split at h
      · cases h
      · rename_i hst
        have hg1 : g = true := by simpa [tagg, hu] using hg.symm
        subst hg1
        simp only [packV, if_true, Option.some.injEq] at hu1 hu2
        subst hu1; subst hu2
        have hf : P.fieldsOf t = fs := by simp [Program.fieldsOf, hu]
        rw [run_equalIn_struct w D t xs ys (by rw [hf]; exact hu) (by simpa using hst), hf]
        have hlx := Rs_length _ _ hx
        have hly := Rs_length _ _ hy
        obtain ⟨hka, hkb⟩ := cellsEq_length _ _ _ hc
        simp at hlx hly
        -- the fields, one behind the other
        have key : ∀ (l : List Field) (off : Nat) (ls : List CK) (r : Bool), plainGo P (plainEq P d) l off = some ls → off + ls.length ≤ xs.size → off + ls.length ≤ ys.size →
            cellsEq ls ((as.drop off).take ls.length) ((bs.drop off).take ls.length) = some r → (Op.eqFields D xs ys l).run P w = .ok r w := by
          intro l
          induction l with
          | nil =>
            intro off ls r h1 _ _ h4
            simp only [plainGo, Option.some.injEq] at h1; subst h1
            simp [cellsEq] at h4; subst h4
            simp [Op.eqFields]
          | cons f l ih =>
            intro off ls r h1 h2 h3 h4
            simp only [plainGo] at h1
            split at h1
            · cases h1
            · rename_i hq
              simp only [not_or, ne_eq, Decidable.not_not] at hq
              simp only [Option.bind_eq_some_iff] at h1
              obtain ⟨k1, h5, h6⟩ := h1
              split at h6
              · rename_i hsz
                simp only [Option.map_eq_some_iff] at h6
                obtain ⟨k2, h7, rfl⟩ := h6
                simp only [List.length_append] at h2 h3 h4
                obtain ⟨g1, hg1, hg2⟩ := plainEq_agg h5
                have ea : (as.drop off).take (k1.length + k2.length) = (as.drop off).take k1.length ++ (as.drop (off + k1.length)).take k2.length := by
                  rw [List.take_add, List.drop_drop]
                have eb : (bs.drop off).take (k1.length + k2.length) = (bs.drop off).take k1.length ++ (bs.drop (off + k1.length)).take k2.length := by
                  rw [List.take_add, List.drop_drop]
                rw [ea, eb] at h4
                have la : ((as.drop off).take k1.length).length = k1.length := by simp; omega
                have lb : ((bs.drop off).take k1.length).length = k1.length := by simp; omega
                obtain ⟨v1, hv1⟩ := packV_of (g := g1) (xs := xs.extract off (off + k1.length)) (n := k1.length) (by simp; omega) hg2
                obtain ⟨v2, hv2⟩ := packV_of (g := g1) (xs := ys.extract off (off + k1.length)) (n := k1.length) (by simp; omega) hg2
                have p1 : (part f.type xs f.offset).run P w = .ok v1 w := by rw [hq.2]; exact run_part hg1 hsz xs off (by omega) hv1 hg2
                have p2 : (part f.type ys f.offset).run P w = .ok v2 w := by rw [hq.2]; exact run_part hg1 hsz ys off (by omega) hv2 hg2
                simp only [Op.eqFields, ne_eq, hq.1, not_false_eq_true, if_true, Sem.run_bind, p1, p2, Result.andThen_ok]
                rcases cellsEq_append k1 _ _ la lb h4 with ⟨h8, h9⟩ | ⟨h8, rfl⟩
                · rw [equalIn_plain d D f.type k1 h5 (by omega) g1 hg1 _ _ _ _ _ (Rs_extract hx off k1.length) (Rs_extract hy off k1.length) h8 v1 v2 hv1 hv2 w]
                  simp only [Result.andThen_ok, Bool.not_true, Bool.false_eq_true, if_false]
                  exact ih (off + k1.length) k2 r h7 (by omega) (by omega) h9
                · rw [equalIn_plain d D f.type k1 h5 (by omega) g1 hg1 _ _ _ _ _ (Rs_extract hx off k1.length) (Rs_extract hy off k1.length) h8 v1 v2 hv1 hv2 w]
                  simp
              · cases h6
        refine key fs.toList 0 ks r h (by omega) (by omega) ?_
        rw [List.drop_zero, List.drop_zero, List.take_of_length_le (by omega), List.take_of_length_le (by omega)]; exact hc
    · cases h
end
end Fw
