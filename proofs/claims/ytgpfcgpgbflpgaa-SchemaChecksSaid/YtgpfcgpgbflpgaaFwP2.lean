/- The operations that look at nothing but their operands, continued: aggregates, slices, indexes. -/
import Derived.Test.YtgpfcgpgbflpgaaFwP
import Derived.Laws.Tables
namespace Fw
open Go Go.RowKit

section
variable {P : Program} {cx : Cx} {σ : Gh} {ρ : Env} {a : Act} {w : World}

theorem fold_put (off : Nat) : ∀ (vs : List Value) (k : Nat) (cs : Array Value), off + k + vs.length ≤ cs.size →
    ((vs.zipIdx k).foldl (fun cs (p : Value × Nat) => cs.setIfInBounds (off + p.2) p.1) cs).toList = cs.toList.take (off + k) ++ vs ++ cs.toList.drop (off + k + vs.length)
  | [], k, cs, _ => by simp
  | v :: vs, k, cs, h => by
    simp only [List.length_cons] at h
    simp only [List.zipIdx_cons, List.foldl_cons]
    rw [fold_put off vs (k + 1) _ (by simp; omega)]
    simp only [Array.toList_setIfInBounds, List.length_cons]
    have hl : off + k < cs.toList.length := by simp; omega
    have e1 : (cs.toList.set (off + k) v).take (off + (k + 1)) = cs.toList.take (off + k) ++ [v] := by
      rw [show off + (k + 1) = (off + k) + 1 by omega, List.take_succ_eq_append_getElem (by simpa using hl)]
      simp [List.take_set_of_le]
    have e2 : (cs.toList.set (off + k) v).drop (off + (k + 1) + vs.length) = cs.toList.drop (off + k + (vs.length + 1)) := by
      rw [List.drop_set_of_lt (by omega)]
      congr 1; omega
    rw [e1, e2]; simp

theorem patch_R {cs vs ds : List AV} {xs us : List Value} {off : Nat} (h : Rs σ cs xs) (hv : Rs σ vs us) (hp : patch cs off vs = some ds) : Rs σ ds (xs.take off ++ us ++ xs.drop (off + us.length)) := by
  simp only [patch] at hp
  split at hp <;> cases hp
  have hl := Rs_length _ _ hv
  rw [hl]
  exact Rs_append (Rs_append (Rs_take h off) hv) (Rs_drop h _)

theorem fill_R (hG : Gls cx σ) (hE : EnvOk σ ρ a) (place : Nat → Option (Nat × Nat)) : ∀ (ps : List (Nat × Operand)) {ips : List (Nat × Nat × IX)} {cs ds : List AV} {xs : Array Value},
    cParts place ps = some ips → fillA cx ρ cs ips = some ds → Rs σ cs xs.toList → ∃ ys, Instr.fill place xs (ps.map fun p => (p.1, a.eval p.2)) = some ys ∧ Rs σ ds ys.toList
  | [], ips, cs, ds, xs, hc, hf, hx => by
    simp only [cParts, Option.some.injEq] at hc; subst hc
    simp only [fillA, Option.some.injEq] at hf; subst hf
    exact ⟨xs, rfl, hx⟩
  | (i, x) :: ps, ips, cs, ds, xs, hc, hf, hx => by
    simp only [cParts, Option.bind_eq_some_iff, Option.map_eq_some_iff] at hc
    obtain ⟨⟨off, n⟩, h1, ix, h2, ips', h3, rfl⟩ := hc
    simp only [fillA, Option.bind_eq_some_iff] at hf
    obtain ⟨v, h4, h5⟩ := hf
    split at h5
    · rename_i hn
      simp only [Option.bind_eq_some_iff] at h5
      obtain ⟨cs', h6, h7⟩ := h5
      have hv := R_cells (ev_R hG hE h2 h4)
      have hl := Rs_length _ _ hv
      have hxl := Rs_length _ _ hx
      have hp := patch_R hx hv h6
      have hb : off + v.cells.length ≤ cs.length := by
        simp only [patch] at h6; split at h6 <;> first | assumption | cases h6
      simp only [Array.length_toList] at hl hxl
      have e : ((a.eval x).cells.zipIdx.foldl (fun cs (p : Value × Nat) => cs.setIfInBounds (off + p.2) p.1) xs).toList = xs.toList.take off ++ (a.eval x).cells.toList ++ xs.toList.drop (off + (a.eval x).cells.toList.length) := by
        have := fold_put off (a.eval x).cells.toList 0 xs (by simp; omega)
        simp only [Nat.add_zero] at this
        rw [← this, ← Array.foldl_toList, Array.toList_zipIdx]
      rw [← e] at hp
      obtain ⟨ys, h8, h9⟩ := fill_R hG hE place ps h3 h7 hp
      refine ⟨ys, ?_, h9⟩
      simp only [List.map_cons, Instr.fill, h1]
      rw [if_neg (by simp; omega)]
      exact h8
    · cases h5

theorem map_parts (a : Act) (ps : Array (Nat × Operand)) : (ps.map fun (i, x) => (i, a.eval x)).toList = ps.toList.map fun p => (p.1, a.eval p.2) := by simp

theorem sub_R {cs ds : List AV} {xs : Array Value} {off n : Nat} (h : Rs σ cs xs.toList) (hs : sub cs off n = some ds) : Rs σ ds (xs.extract off (off + n)).toList ∧ off + n ≤ xs.size ∧ ds.length = n := by
  have hl := Rs_length _ _ h
  simp only [Array.length_toList] at hl
  simp only [sub] at hs
  split at hs <;> cases hs
  rename_i hq
  exact ⟨Rs_extract h off n, by omega, by simp; omega⟩

theorem ofCells_R {g : Bool} {cs : List AV} {v : AV} {xs : Array Value} (h : Rs σ cs xs.toList) (hs : ofCells g cs = some v) : ∃ u, packV g xs = some u ∧ R σ v u := by
  cases g with
  | true =>
    simp only [ofCells, if_true, Option.some.injEq] at hs; subst hs
    exact ⟨_, rfl, by simp only [R]; exact ⟨xs, rfl, h⟩⟩
  | false =>
    simp only [ofCells, Bool.false_eq_true, if_false] at hs
    split at hs <;> cases hs
    rename_i c
    simp only [Rs] at h
    obtain ⟨u, rest, h1, h2, rfl⟩ := h
    exact ⟨u, by simp [packV, h1], h2⟩

theorem bounds_R {isS : Bool} {n cap : Nat} {lo hi : Option AV} {vl vh : Option Value} {l h : Nat} (hb : bounds n lo hi = some (l, h)) (hc : n ≤ cap) (h1 : Ro σ lo vl) (h2 : Ro σ hi vh) :
    (Instr.sliceBounds isS n cap vl vh none).run P w = .ok (l, h, cap) w ∧ l ≤ h ∧ h ≤ n := by
  unfold bounds at hb
  have sb : ∀ (k : IntKind) (i : Int) (y : Nat) (code : BoundsCode), 0 ≤ i → i ≤ y → (Instr.sliceBound (.int k i) y code).run P w = .ok i.toNat w := fun k i y code h0 h1 => by
    simp [Instr.sliceBound, asIntOf, h0, h1]
  cases hi with
  | none =>
    cases vh with
    | some _ => simp [Ro] at h2
    | none =>
      cases lo with
      | none =>
        cases vl with
        | some _ => simp [Ro] at h1
        | none => simp at hb; obtain ⟨rfl, rfl⟩ := hb; simp [Instr.sliceBounds]
      | some x =>
        cases vl with
        | none => simp [Ro] at h1
        | some u =>
          dsimp only at hb
          split at hb
          · rename_i heq; cases heq
          · rename_i k i heq
            cases heq
            split at hb <;> cases hb
            rename_i hq
            simp only [Ro, R] at h1; subst h1
            refine ⟨by simp [Instr.sliceBounds, sb k i n _ hq.1 hq.2], by omega, Nat.le_refl _⟩
          · cases hb
  | some y =>
    cases vh with
    | none => simp [Ro] at h2
    | some u2 =>
      split at hb
      · rename_i heq; cases heq
      · rename_i k2 i2 heq
        cases heq
        split at hb
        · rename_i hq2
          simp only [Ro, R] at h2; subst h2
          cases lo with
          | none =>
            cases vl with
            | some _ => simp [Ro] at h1
            | none =>
              simp at hb; obtain ⟨rfl, rfl⟩ := hb
              refine ⟨?_, by omega, by omega⟩
              cases isS <;> simp [Instr.sliceBounds, sb k2 i2 cap _ hq2.1 (by omega)]
          | some x =>
            cases vl with
            | none => simp [Ro] at h1
            | some u =>
              split at hb
              · rename_i heq; cases heq
              · rename_i k i heq
                cases heq
                split at hb <;> cases hb
                rename_i hq
                simp only [Ro, R] at h1; subst h1
                refine ⟨?_, by omega, by omega⟩
                cases isS <;> simp [Instr.sliceBounds, sb k2 i2 cap _ hq2.1 (by omega), sb k i i2.toNat _ hq.1 (by omega)]
              · cases hb
        · cases hb
      · cases hb

theorem bounds3_R {n cap : Nat} {lo hi : Option AV} {vl vh : Option Value} {l h : Nat} {k : IntKind} {m : Int} (hb : bounds n lo hi = some (l, h)) (hc : n ≤ cap) (hi' : hi.isSome = true) (hm : m = h) (h1 : Ro σ lo vl) (h2 : Ro σ hi vh) :
    (Instr.sliceBounds true n cap vl vh (some (.int k m))).run P w = .ok (l, h, h) w ∧ l ≤ h ∧ h ≤ n := by
  unfold bounds at hb
  have sb : ∀ (k : IntKind) (i : Int) (y : Nat) (code : BoundsCode), 0 ≤ i → i ≤ y → (Instr.sliceBound (.int k i) y code).run P w = .ok i.toNat w := fun k i y code h0 h1 => by
    simp [Instr.sliceBound, asIntOf, h0, h1]
  cases hi with
  | none => simp at hi'
  | some y =>
    cases vh with
    | none => simp [Ro] at h2
    | some u2 =>
      split at hb
      · rename_i heq; cases heq
      · rename_i k2 i2 heq
        cases heq
        split at hb
        · rename_i hq2
          simp only [Ro, R] at h2; subst h2
          cases lo with
          | none =>
            cases vl with
            | some _ => simp [Ro] at h1
            | none =>
              simp at hb; obtain ⟨rfl, rfl⟩ := hb
              refine ⟨?_, by omega, by omega⟩
              simp [Instr.sliceBounds, sb k m cap _ (by omega) (by omega), sb k2 i2 m.toNat _ hq2.1 (by omega)]
              omega
          | some x =>
            cases vl with
            | none => simp [Ro] at h1
            | some u =>
              split at hb
              · rename_i heq; cases heq
              · rename_i k1 i heq
                cases heq
                split at hb <;> cases hb
                rename_i hq
                simp only [Ro, R] at h1; subst h1
                refine ⟨?_, by omega, by omega⟩
                simp [Instr.sliceBounds, sb k m cap _ (by omega) (by omega), sb k2 i2 m.toNat _ hq2.1 (by omega), sb k1 i i2.toNat _ hq.1 (by omega)]
                omega
              · cases hb
        · cases hb
      · cases hb

theorem add_off (b o n : Nat) : Addr.add ⟨b, o, none⟩ n = ⟨b, o + n, none⟩ := Addr.add_lit b o n

theorem mul_sub' (n l k : Nat) (h : l ≤ n) : l * k + (n - l) * k = n * k := by
  rw [← Nat.add_mul]; congr 1; omega

theorem slice_R {t e : TypeId} {k : Nat} {x v : AV} {lo hi m3 : Option AV} {u : Value} {vl vh vm : Option Value} (hu : P.underlying t = some (.slice e)) (hk : tsz P e = some k) (hs : sliceA k x lo hi m3 = some v)
    (hx : R σ x u) (h1 : Ro σ lo vl) (h2 : Ro σ hi vh) (h3 : Ro σ m3 vm) : ∃ u', (Instr.sliceAt t u vl vh vm).run P w = .ok u' w ∧ R σ v u' := by
  have e0 : (Instr.sliceAt t u vl vh vm).run P w = (Instr.slice t u vl vh vm).run P w := by simp [Instr.sliceAt, run_und hu]
  rw [e0]
  cases x <;> simp only [sliceA] at hs <;> try cases hs
  case nilslice =>
    simp only [R] at hx; subst hx
    split at hs
    · cases vm with
      | some _ => simp [Ro] at h3
      | none =>
        simp only [Option.map_eq_some_iff] at hs
        obtain ⟨⟨l, h⟩, hb, rfl⟩ := hs
        obtain ⟨hr, hlh, hn⟩ := bounds_R (P := P) (w := w) (isS := true) hb (Nat.le_refl 0) h1 h2
        have hl : l = 0 := by omega
        have hh : h = 0 := by omega
        subst hl; subst hh
        refine ⟨.slice none 0 0, ?_, by simp [R]⟩
        simp [Instr.slice, run_und hu, hr, run_tsz hk]
    · cases hs
  case slice cs n own =>
    simp only [R] at hx
    rcases hx with ⟨b, o, cap, rfl, hcap, hown, hcs⟩ | ⟨rfl, rfl, hown, a, rfl⟩
    case inr =>
      split at hs
      · simp only [Option.bind_eq_some_iff] at hs
        obtain ⟨⟨l, h⟩, hb, hs⟩ := hs
        split at hs
        · cases vm with
          | some _ => simp [Ro] at h3
          | none =>
            cases hs
            obtain ⟨hr, hlh, hn⟩ := bounds_R (P := P) (w := w) (isS := true) hb (Nat.le_refl 0) h1 h2
            have hl : l = 0 := by omega
            have hh : h = 0 := by omega
            subst hl; subst hh
            refine ⟨_, by simp [Instr.slice, run_und hu, hr, run_tsz hk]; rfl, ?_⟩
            simp only [R]
            exact .inr ⟨by simp, by simp, by simp, a, by simp⟩
        · rename_i kk m
          cases vm with
          | none => simp [Ro] at h3
          | some um =>
            simp only [Ro, R] at h3; subst h3
            split at hs <;> cases hs
            rename_i hq
            obtain ⟨hr, hlh, hn⟩ := bounds3_R (P := P) (w := w) (k := kk) hb (Nat.le_refl 0) hq.2 hq.1 h1 h2
            have hl : l = 0 := by omega
            have hh : h = 0 := by omega
            subst hl; subst hh
            refine ⟨_, by simp [Instr.slice, run_und hu, hr, run_tsz hk]; rfl, ?_⟩
            simp only [R]
            exact .inr ⟨by simp, by simp, by simp, a, by simp⟩
        · cases hs
      · cases hs
    split at hs
    · rename_i hlen
      simp only [Option.bind_eq_some_iff] at hs
      obtain ⟨⟨l, h⟩, hb, hs⟩ := hs
      split at hs
      · cases vm with
        | some _ => simp [Ro] at h3
        | none =>
          cases hs
          obtain ⟨hr, hlh, hn⟩ := bounds_R (P := P) (w := w) (isS := true) hb hcap h1 h2
          refine ⟨_, by simp [Instr.slice, run_und hu, hr, run_tsz hk]; rfl, ?_⟩
          simp only [R]
          by_cases hcl : cap = l
          · subst hcl
            have hh : h = cap := by omega
            subst hh
            rw [if_pos rfl]
            refine .inl ⟨b, o, _, rfl, by omega, ?_, ?_⟩
            · rw [if_neg (by omega)]; trivial
            · simp [RC]
          · rw [if_neg hcl]
            refine .inl ⟨b, o + l * k, cap - l, by rw [add_off], by omega, ?_, RC_sub hcs _ _⟩
            by_cases hq : h = n ∧ l < n
            · rw [if_pos hq]
              obtain ⟨rfl, hln⟩ := hq
              have hlen' : (List.take ((h - l) * k) (List.drop (l * k) cs)).length = (h - l) * k := by
                have := mul_sub' h l k (by omega)
                rw [List.length_take, List.length_drop]; omega
              have := mul_sub' h l k (by omega)
              cases own with
              | no => trivial
              | full => simp only [OwnOk] at hown ⊢; omega
              | tok t' e' =>
                simp only [OwnOk] at hown ⊢
                obtain ⟨slack, esz, h4, h5⟩ := hown
                refine ⟨slack, esz, ?_, ?_⟩
                · rw [h4, hlen', hlen, show o + l * k + (h - l) * k = o + h * k by omega]
                · omega
            · rw [if_neg hq]; trivial
      · rename_i kk m
        cases vm with
        | none => simp [Ro] at h3
        | some um =>
          simp only [Ro, R] at h3; subst h3
          split at hs <;> cases hs
          rename_i hq
          obtain ⟨hr, hlh, hn⟩ := bounds3_R (P := P) (w := w) (k := kk) hb hcap hq.2 hq.1 h1 h2
          refine ⟨_, by simp [Instr.slice, run_und hu, hr, run_tsz hk]; rfl, ?_⟩
          simp only [R]
          by_cases hcl : h = l
          · subst hcl
            rw [if_pos rfl]
            refine .inl ⟨b, o, _, rfl, by omega, by simp [OwnOk], by simp [RC]⟩
          · rw [if_neg hcl]
            exact .inl ⟨b, o + l * k, h - l, by rw [add_off], by omega, by simp [OwnOk], RC_sub hcs _ _⟩
      · cases hs
    · cases hs
  case mslice id off n cap =>
    simp only [R] at hx
    obtain ⟨c, rfl, hc, hcap⟩ := hx
    split at hs
    · cases vm with
      | some _ => simp [Ro] at h3
      | none =>
        simp only [Option.bind_eq_some_iff] at hs
        obtain ⟨⟨l, h⟩, hb, hs⟩ := hs
        obtain ⟨hr, hlh, hn⟩ := bounds_R (P := P) (w := w) (isS := true) hb hc h1 h2
        refine ⟨_, by simp [Instr.slice, run_und hu, hr, run_tsz hk]; rfl, ?_⟩
        split at hs
        · rename_i c'
          cases hs
          have := hcap c' rfl; subst this
          simp only [R]
          refine ⟨c - l, ?_, by omega, fun c'' h => by cases h; rfl⟩
          by_cases hcl : c = l
          · rw [if_pos hcl, if_pos hcl]
          · rw [if_neg hcl, if_neg hcl, add_off]
        · split at hs <;> cases hs
          rename_i hln
          simp only [R]
          refine ⟨c - l, ?_, by omega, fun c'' h => by cases h⟩
          rw [if_neg (by omega), add_off]
    · cases hs

theorem sliceStr_R {t : TypeId} {b : List UInt8} {l h : Nat} {lo hi : Option AV} {u : Value} {vl vh : Option Value} (hu : P.underlying t = some .string) (hb : bounds b.length lo hi = some (l, h))
    (hx : R σ (.str b) u) (h1 : Ro σ lo vl) (h2 : Ro σ hi vh) : ∃ u', (Instr.sliceAt t u vl vh none).run P w = .ok u' w ∧ R σ (.str ((b.drop l).take (h - l))) u' := by
  simp only [R] at hx; subst hx
  obtain ⟨hr, hlh, hn⟩ := bounds_R (P := P) (w := w) (isS := false) hb (Nat.le_refl _) h1 h2
  refine ⟨.string ((⟨b.toArray⟩ : ByteArray).extract l h), ?_, ?_⟩
  · have : ByteArray.size ⟨b.toArray⟩ = b.length := by simp [ByteArray.size]
    simp [Instr.sliceAt, Instr.slice, run_und hu, this, hr]
  · simp only [R, Value.string.injEq]
    apply ByteArray.ext
    simp [ByteArray.data_extract, List.extract]

theorem sliceArr_R {t e : TypeId} {n k : Nat} {x v : AV} {lo hi m3 : Option AV} {u : Value} {vl vh vm : Option Value} (hu : P.underlying t = some (.array n e) ∨ ∃ r, P.underlying t = some (.pointer r) ∧ P.underlying r = some (.array n e)) (hk : tsz P e = some k)
    (hs : sliceArr k n x lo hi m3 = some v) (hx : R σ x u) (h1 : Ro σ lo vl) (h2 : Ro σ hi vh) (h3 : Ro σ m3 vm) : ∃ u', (Instr.sliceAt t u vl vh vm).run P w = .ok u' w ∧ R σ v u' := by
  unfold sliceArr at hs
  split at hs
  · rename_i id off
    cases vm with
    | some _ => simp [Ro] at h3
    | none =>
      simp only [Option.map_eq_some_iff] at hs
      obtain ⟨⟨l, h⟩, hb, rfl⟩ := hs
      simp only [R] at hx; subst hx
      obtain ⟨hr, hlh, hn⟩ := bounds_R (P := P) (w := w) (isS := false) hb (Nat.le_refl _) h1 h2
      have key : (Instr.sliceAt t (.pointer (some ⟨σ.φ id, off, none⟩)) vl vh none).run P w = .ok (.slice (some (if n = l then ⟨σ.φ id, off, none⟩ else Addr.add ⟨σ.φ id, off, none⟩ (l * k))) (h - l) (n - l)) w := by
        rcases hu with hu | ⟨r, hu, hr'⟩
        · simp [Instr.sliceAt, run_und hu, Instr.sureAddr, hr, run_tsz hk]
        · simp [Instr.sliceAt, Instr.slice, run_und hu, run_und hr', asAddr, hr, run_tsz hk]
      refine ⟨_, key, ?_⟩
      simp only [R]
      refine ⟨n - l, ?_, by omega, fun c h => by cases h; rfl⟩
      by_cases hcl : n = l
      · rw [if_pos hcl, if_pos hcl]
      · rw [if_neg hcl, if_neg hcl, add_off]
  · rename_i cs off
    cases vm with
    | some _ => simp [Ro] at h3
    | none =>
      simp only [Option.bind_eq_some_iff] at hs
      obtain ⟨⟨l, h⟩, hb, hs⟩ := hs
      split at hs
      · rename_i hln
        simp only [Option.map_eq_some_iff] at hs
        obtain ⟨ds, hd, rfl⟩ := hs
        simp only [R] at hx
        obtain ⟨b, o, rfl, hcs⟩ := hx
        obtain ⟨hr, hlh, hn⟩ := bounds_R (P := P) (w := w) (isS := false) hb (Nat.le_refl _) h1 h2
        have key : (Instr.sliceAt t (.pointer (some ⟨b, o + off, none⟩)) vl vh none).run P w = .ok (.slice (some (if n = l then ⟨b, o + off, none⟩ else Addr.add ⟨b, o + off, none⟩ (l * k))) (h - l) (n - l)) w := by
          rcases hu with hu | ⟨r, hu, hr'⟩
          · simp [Instr.sliceAt, run_und hu, Instr.sureAddr, hr, run_tsz hk]
          · simp [Instr.sliceAt, Instr.slice, run_und hu, run_und hr', asAddr, hr, run_tsz hk]
        refine ⟨_, key, ?_⟩
        simp only [R]
        simp only [sub] at hd
        split at hd <;> cases hd
        rw [if_neg (by omega), add_off]
        refine .inl ⟨b, o + off + l * k, n - l, rfl, by omega, trivial, ?_⟩
        have := RC_sub hcs (off + l * k) ((h - l) * k)
        rwa [← Nat.add_assoc] at this
      · cases hs
  · cases hs
end
end Fw
