/- How the abstract machine's values and states stand to the model's: the relation, what it is kept by, and the invariant of the world. -/
import Derived.Test.YtgpfcgpgbflpgaaFwC
import Derived.Laws.World
import Derived.Laws.Sem
namespace Fw
open Go Go.RowKit

/-- The ghost: which cells never change and what they hold; where a block lies; where a token's row ends (block, end, spare elements, element size). -/
structure Gh where
  G : Nat → Nat → Value → Prop
  φ : Nat → Nat
  T : Nat → Nat → Option (Nat × Nat × Nat × Nat)

def OwnOk (σ : Gh) (own : Own) (b eo n cap : Nat) : Prop :=
  match own with
  | .no => True
  | .full => cap = n
  | .tok t e => ∃ slack esz, σ.T t e = some (b, eo, slack, esz) ∧ cap = n + slack

mutual
def R (σ : Gh) : AV → Value → Prop
  | .bool b, v => v = .bool b
  | .int k n, v => v = .int k n
  | .str s, v => v = .string ⟨s.toArray⟩
  | .nilptr, v => v = .pointer none
  | .ptr id off, v => v = .pointer (some ⟨σ.φ id, off, none⟩)
  | .vptr cs off, v => ∃ b o, v = .pointer (some ⟨b, o + off, none⟩) ∧ RC σ cs b o
  | .nilslice, v => v = .slice none 0 0
  | .slice cs n own, v => (∃ b o cap, v = .slice (some ⟨b, o, none⟩) n cap ∧ n ≤ cap ∧ OwnOk σ own b (o + cs.length) n cap ∧ RC σ cs b o) ∨ (cs = [] ∧ n = 0 ∧ (∀ t e, own ≠ .tok t e) ∧ ∃ a, v = .slice (some a) 0 0)
  | .mslice id off len cap, v => ∃ c, v = .slice (some ⟨σ.φ id, off, none⟩) len c ∧ len ≤ c ∧ (∀ c', cap = some c' → c = c')
  | .nilmap, v => v = .map none
  | .map id, v => v = .map (some (σ.φ id))
  | .nilfunc, v => v = .nilFunc
  | .func f a b, v => ∃ x y, v = .func (.func f) x y ∧ Rs σ a x.toList ∧ Rs σ b y.toList
  | .niliface, v => v = .nilIface
  | .iface t a, v => ∃ u, v = .iface t u ∧ R σ a u
  | .anyiface, v => ∃ t u, v = .iface t u
  | .agg cs, v => ∃ x, v = .agg x ∧ Rs σ cs x.toList
  | .tuple vs, v => ∃ x, v = .tuple x ∧ Rs σ vs x.toList
def Rs (σ : Gh) : List AV → List Value → Prop
  | [], vs => vs = []
  | a :: as, vs => ∃ v rest, vs = v :: rest ∧ R σ a v ∧ Rs σ as rest
def RC (σ : Gh) : List AV → Nat → Nat → Prop
  | [], _, _ => True
  | a :: as, b, o => (∃ v, σ.G b o v ∧ R σ a v) ∧ RC σ as b (o + 1)
end

/-- σ' knows all that σ knows, of the numbers that meet p. -/
structure Ext (p : Nat → Bool) (σ σ' : Gh) : Prop where
  G : ∀ b o v, σ.G b o v → σ'.G b o v
  φ : ∀ id, p id = true → σ'.φ id = σ.φ id
  T : ∀ t, p t = true → ∀ e x, σ.T t e = some x → σ'.T t e = some x

theorem Ext.refl (p : Nat → Bool) (σ : Gh) : Ext p σ σ := ⟨fun _ _ _ h => h, fun _ _ => rfl, fun _ _ _ _ h => h⟩
theorem Ext.trans {p q : Nat → Bool} {a b c : Gh} (h : Ext p a b) (k : Ext q b c) (hm : ∀ i, p i = true → q i = true) : Ext p a c :=
  ⟨fun _ _ _ x => k.G _ _ _ (h.G _ _ _ x), fun i hi => (k.φ i (hm i hi)).trans (h.φ i hi), fun t ht e x hx => k.T t (hm t ht) e x (h.T t ht e x hx)⟩
theorem Ext.mono {p q : Nat → Bool} {a b : Gh} (h : Ext p a b) (hm : ∀ i, q i = true → p i = true) : Ext q a b :=
  ⟨h.G, fun i hi => h.φ i (hm i hi), fun t ht => h.T t (hm t ht)⟩

theorem OwnOk.mono {n : Nat → Bool} {σ σ' : Gh} (h : Ext n σ σ') {own : Own} (hl : own.al n = true) {b eo k cap : Nat} (ho : OwnOk σ own b eo k cap) : OwnOk σ' own b eo k cap := by
  cases own with
  | no => trivial
  | full => exact ho
  | tok t e =>
    obtain ⟨slack, esz, h1, h2⟩ := ho
    exact ⟨slack, esz, h.T t (by simpa [Own.al] using hl) e _ h1, h2⟩

mutual
theorem R_mono {n : Nat → Bool} {σ σ' : Gh} (h : Ext n σ σ') : ∀ (a : AV) (v : Value), a.al n = true → R σ a v → R σ' a v
  | .bool _, _, _, hr => hr
  | .int _ _, _, _, hr => hr
  | .str _, _, _, hr => hr
  | .nilptr, _, _, hr => hr
  | .ptr id off, v, hl, hr => by
    simp only [AV.al, ] at hl
    simp only [R] at hr ⊢; rw [h.φ id hl]; exact hr
  | .vptr cs off, v, hl, hr => by
    simp only [AV.al] at hl
    simp only [R] at hr ⊢
    obtain ⟨b, o, h1, h2⟩ := hr
    exact ⟨b, o, h1, RC_mono h cs b o hl h2⟩
  | .nilslice, _, _, hr => hr
  | .slice cs k own, v, hl, hr => by
    simp only [AV.al, Bool.and_eq_true] at hl
    simp only [R] at hr ⊢
    rcases hr with ⟨b, o, cap, h1, h2, h3, h4⟩ | hr
    · exact .inl ⟨b, o, cap, h1, h2, h3.mono h hl.1, RC_mono h cs b o hl.2 h4⟩
    · exact .inr hr
  | .mslice id off len cap, v, hl, hr => by
    simp only [AV.al, ] at hl
    simp only [R] at hr ⊢; rw [h.φ id hl]; exact hr
  | .nilmap, _, _, hr => hr
  | .map id, v, hl, hr => by
    simp only [AV.al, ] at hl
    simp only [R] at hr ⊢; rw [h.φ id hl]; exact hr
  | .nilfunc, _, _, hr => hr
  | .func f a b, v, hl, hr => by
    simp only [AV.al, Bool.and_eq_true] at hl
    simp only [R] at hr ⊢
    obtain ⟨x, y, h1, h2, h3⟩ := hr
    exact ⟨x, y, h1, Rs_mono h a _ hl.1 h2, Rs_mono h b _ hl.2 h3⟩
  | .niliface, _, _, hr => hr
  | .iface t a, v, hl, hr => by
    simp only [AV.al] at hl
    simp only [R] at hr ⊢
    obtain ⟨u, h1, h2⟩ := hr
    exact ⟨u, h1, R_mono h a u hl h2⟩
  | .anyiface, _, _, hr => hr
  | .agg cs, v, hl, hr => by
    simp only [AV.al] at hl
    simp only [R] at hr ⊢
    obtain ⟨x, h1, h2⟩ := hr
    exact ⟨x, h1, Rs_mono h cs _ hl h2⟩
  | .tuple cs, v, hl, hr => by
    simp only [AV.al] at hl
    simp only [R] at hr ⊢
    obtain ⟨x, h1, h2⟩ := hr
    exact ⟨x, h1, Rs_mono h cs _ hl h2⟩
theorem Rs_mono {n : Nat → Bool} {σ σ' : Gh} (h : Ext n σ σ') : ∀ (as : List AV) (vs : List Value), alAll n as = true → Rs σ as vs → Rs σ' as vs
  | [], _, _, hr => hr
  | a :: as, vs, hl, hr => by
    simp only [alAll, Bool.and_eq_true] at hl
    simp only [Rs] at hr ⊢
    obtain ⟨v, rest, h1, h2, h3⟩ := hr
    exact ⟨v, rest, h1, R_mono h a v hl.1 h2, Rs_mono h as rest hl.2 h3⟩
theorem RC_mono {n : Nat → Bool} {σ σ' : Gh} (h : Ext n σ σ') : ∀ (as : List AV) (b o : Nat), alAll n as = true → RC σ as b o → RC σ' as b o
  | [], _, _, _, _ => by simp only [RC]
  | a :: as, b, o, hl, hr => by
    simp only [alAll, Bool.and_eq_true] at hl
    simp only [RC] at hr ⊢
    obtain ⟨⟨v, h1, h2⟩, h3⟩ := hr
    exact ⟨⟨v, h.G _ _ _ h1, R_mono h a v hl.1 h2⟩, RC_mono h as b (o + 1) hl.2 h3⟩
end

/- lists, by their places -/
theorem alAll_iff {n : Nat → Bool} : ∀ (as : List AV), alAll n as = true ↔ ∀ a ∈ as, a.al n = true
  | [] => by simp [alAll]
  | a :: as => by simp [alAll, alAll_iff as]

theorem Rs_length {σ : Gh} : ∀ (as : List AV) (vs : List Value), Rs σ as vs → vs.length = as.length
  | [], vs, h => by simp only [Rs] at h; simp [h]
  | a :: as, vs, h => by
    simp only [Rs] at h
    obtain ⟨v, rest, h1, _, h3⟩ := h
    simp [h1, Rs_length as rest h3]

theorem Rs_get {σ : Gh} : ∀ (as : List AV) (vs : List Value), Rs σ as vs → ∀ (j : Nat) (a : AV), as[j]? = some a → ∃ v, vs[j]? = some v ∧ R σ a v
  | [], _, _, j, a, ha => by simp at ha
  | a :: as, vs, h, j, x, hx => by
    simp only [Rs] at h
    obtain ⟨v, rest, h1, h2, h3⟩ := h
    cases j with
    | zero => simp at hx; subst hx; exact ⟨v, by simp [h1], h2⟩
    | succ j =>
      simp at hx
      obtain ⟨u, hu, hr⟩ := Rs_get as rest h3 j x hx
      exact ⟨u, by simp [h1, hu], hr⟩

theorem Rs_of {σ : Gh} : ∀ (as : List AV) (vs : List Value), vs.length = as.length → (∀ (j : Nat) (a : AV), as[j]? = some a → ∃ v, vs[j]? = some v ∧ R σ a v) → Rs σ as vs
  | [], vs, hl, _ => by simp only [Rs]; exact List.eq_nil_of_length_eq_zero hl
  | a :: as, vs, hl, h => by
    cases vs with
    | nil => simp at hl
    | cons v vs =>
      simp only [Rs]
      obtain ⟨u, hu, hr⟩ := h 0 a rfl
      simp at hu; subst hu
      exact ⟨v, vs, rfl, hr, Rs_of as vs (by simpa using hl) fun j x hx => by simpa using h (j + 1) x (by simpa using hx)⟩

theorem Rs_iff {σ : Gh} (as : List AV) (vs : List Value) : Rs σ as vs ↔ vs.length = as.length ∧ ∀ (j : Nat) (a : AV), as[j]? = some a → ∃ v, vs[j]? = some v ∧ R σ a v :=
  ⟨fun h => ⟨Rs_length as vs h, Rs_get as vs h⟩, fun h => Rs_of as vs h.1 h.2⟩

theorem RC_iff {σ : Gh} : ∀ (as : List AV) (b o : Nat), RC σ as b o ↔ ∀ (j : Nat) (a : AV), as[j]? = some a → ∃ v, σ.G b (o + j) v ∧ R σ a v
  | [], b, o => by simp [RC]
  | a :: as, b, o => by
    simp only [RC, RC_iff as b (o + 1)]
    constructor
    · rintro ⟨h1, h2⟩ j x hx
      cases j with
      | zero => simp at hx; subst hx; simpa using h1
      | succ j =>
        simp at hx
        have := h2 j x hx
        rwa [Nat.add_assoc, Nat.add_comm 1 j] at this
    · intro h
      refine ⟨by simpa using h 0 a rfl, fun j x hx => ?_⟩
      have := h (j + 1) x (by simpa using hx)
      rwa [Nat.add_assoc, Nat.add_comm 1 j]

theorem RC_sub {σ : Gh} {as : List AV} {b o : Nat} (h : RC σ as b o) (k n : Nat) : RC σ ((as.drop k).take n) b (o + k) := by
  rw [RC_iff] at h ⊢
  intro j a ha
  rw [List.getElem?_take] at ha
  split at ha
  · rw [List.getElem?_drop] at ha
    have := h (k + j) a ha
    rwa [← Nat.add_assoc] at this
  · cases ha

theorem RC_append {σ : Gh} {as bs : List AV} {b o : Nat} (h : RC σ as b o) (k : RC σ bs b (o + as.length)) : RC σ (as ++ bs) b o := by
  rw [RC_iff] at h k ⊢
  intro j a ha
  by_cases hj : j < as.length
  · rw [List.getElem?_append_left hj] at ha; exact h j a ha
  · rw [List.getElem?_append_right (by omega)] at ha
    have := k (j - as.length) a ha
    rwa [show o + as.length + (j - as.length) = o + j by omega] at this

theorem Rs_append {σ : Gh} {as bs : List AV} {vs us : List Value} (h : Rs σ as vs) (k : Rs σ bs us) : Rs σ (as ++ bs) (vs ++ us) := by
  induction as generalizing vs with
  | nil => simp only [Rs] at h; subst h; simpa using k
  | cons a as ih =>
    simp only [Rs] at h
    obtain ⟨v, rest, rfl, h2, h3⟩ := h
    simp only [List.cons_append, Rs]
    exact ⟨v, rest ++ us, rfl, h2, ih h3⟩

theorem Rs_drop {σ : Gh} {as : List AV} {vs : List Value} (h : Rs σ as vs) (k : Nat) : Rs σ (as.drop k) (vs.drop k) := by
  rw [Rs_iff] at h ⊢
  refine ⟨by simp [h.1], fun j a ha => ?_⟩
  rw [List.getElem?_drop] at ha ⊢
  exact h.2 _ _ ha

theorem Rs_take {σ : Gh} {as : List AV} {vs : List Value} (h : Rs σ as vs) (k : Nat) : Rs σ (as.take k) (vs.take k) := by
  rw [Rs_iff] at h ⊢
  refine ⟨by simp [h.1], fun j a ha => ?_⟩
  rw [List.getElem?_take] at ha ⊢
  split at ha
  · rename_i hj; rw [if_pos hj]; exact h.2 _ _ ha
  · cases ha

theorem alAll_append {n : Nat → Bool} {as bs : List AV} : alAll n (as ++ bs) = (alAll n as && alAll n bs) := by
  induction as with
  | nil => simp [alAll]
  | cons a as ih => simp [alAll, ih, Bool.and_assoc]
theorem alAll_drop {n : Nat → Bool} {as : List AV} (h : alAll n as = true) (k : Nat) : alAll n (as.drop k) = true := by
  rw [alAll_iff] at h ⊢; exact fun a ha => h a (List.mem_of_mem_drop ha)
theorem alAll_take {n : Nat → Bool} {as : List AV} (h : alAll n as = true) (k : Nat) : alAll n (as.take k) = true := by
  rw [alAll_iff] at h ⊢; exact fun a ha => h a (List.mem_of_mem_take ha)
theorem alAll_get {n : Nat → Bool} {as : List AV} (h : alAll n as = true) {j : Nat} {a : AV} (ha : as[j]? = some a) : a.al n = true :=
  (alAll_iff as).1 h a (List.mem_of_getElem? ha)

theorem Own.al_mono {n m : Nat → Bool} (h : ∀ i, n i = true → m i = true) {own : Own} (hl : own.al n = true) : own.al m = true := by
  cases own <;> simp [Own.al] at hl ⊢; exact h _ hl

mutual
theorem AV.al_mono {n m : Nat → Bool} (h : ∀ i, n i = true → m i = true) : ∀ (a : AV), a.al n = true → a.al m = true
  | .bool _, _ | .int _ _, _ | .str _, _ | .nilptr, _ | .nilslice, _ | .nilmap, _ | .nilfunc, _ | .niliface, _ | .anyiface, _ => by simp [AV.al]
  | .ptr _ _, hl | .mslice _ _ _ _, hl | .map _, hl => by simp only [AV.al] at hl ⊢; exact h _ hl
  | .vptr cs _, hl => by simp only [AV.al] at hl ⊢; exact alAll_mono h cs hl
  | .slice cs _ own, hl => by
    simp only [AV.al, Bool.and_eq_true] at hl ⊢; exact ⟨Own.al_mono h hl.1, alAll_mono h cs hl.2⟩
  | .func _ a b, hl => by simp only [AV.al, Bool.and_eq_true] at hl ⊢; exact ⟨alAll_mono h a hl.1, alAll_mono h b hl.2⟩
  | .iface _ a, hl => by simp only [AV.al] at hl ⊢; exact AV.al_mono h a hl
  | .agg cs, hl => by simp only [AV.al] at hl ⊢; exact alAll_mono h cs hl
  | .tuple cs, hl => by simp only [AV.al] at hl ⊢; exact alAll_mono h cs hl
theorem alAll_mono {n m : Nat → Bool} (h : ∀ i, n i = true → m i = true) : ∀ (as : List AV), alAll n as = true → alAll m as = true
  | [], _ => by simp [alAll]
  | a :: as, hl => by simp only [alAll, Bool.and_eq_true] at hl ⊢; exact ⟨AV.al_mono h a hl.1, alAll_mono h as hl.2⟩
end

theorem R_strip {σ : Gh} {a : AV} {v : Value} (h : R σ a v) : R σ a.strip v := by
  cases a <;> try exact h
  rename_i cs n own
  cases own <;> try exact h
  simp only [AV.strip, R] at h ⊢
  rcases h with ⟨b, o, cap, h1, h2, _, h4⟩ | ⟨h1, h2, h3, h4⟩
  · exact .inl ⟨b, o, cap, h1, h2, trivial, h4⟩
  · exact .inr ⟨h1, h2, fun t e => by simp, h4⟩
theorem al_strip {n : Nat → Bool} {a : AV} (h : a.al n = true) : a.strip.al n = true := by
  cases a <;> try exact h
  rename_i cs k own
  cases own <;> try exact h
  simp only [AV.strip, AV.al, Own.al, Bool.and_eq_true, Bool.true_and] at h ⊢
  exact h.2
theorem Rs_strip {σ : Gh} {as : List AV} {vs : List Value} (h : Rs σ as vs) : Rs σ (as.map AV.strip) vs := by
  rw [Rs_iff] at h ⊢
  refine ⟨by simp [h.1], fun j a ha => ?_⟩
  rw [List.getElem?_map] at ha
  cases hx : as[j]? with
  | none => simp [hx] at ha
  | some x =>
    simp [hx] at ha; subst ha
    obtain ⟨v, hv, hr⟩ := h.2 j x hx
    exact ⟨v, hv, R_strip hr⟩
theorem alAll_strip {n : Nat → Bool} {as : List AV} (h : alAll n as = true) : alAll n (as.map AV.strip) = true := by
  rw [alAll_iff] at h ⊢
  intro a ha
  obtain ⟨x, hx, rfl⟩ := List.mem_map.1 ha
  exact al_strip (h x hx)

theorem R_one {σ : Gh} {a : AV} {v : Value} (h : R σ a v) : v.oneCell' = a.one := by
  cases a <;> simp only [R] at h
  case bool | int | str | nilptr | ptr | nilslice | nilmap | map | nilfunc | niliface => subst h; rfl
  case vptr => obtain ⟨b, o, rfl, _⟩ := h; rfl
  case slice => rcases h with ⟨b, o, cap, rfl, _⟩ | ⟨_, _, _, a, rfl⟩ <;> rfl
  case mslice => obtain ⟨c, rfl, _⟩ := h; rfl
  case func => obtain ⟨x, y, rfl, _⟩ := h; rfl
  case iface => obtain ⟨u, rfl, _⟩ := h; rfl
  case anyiface => obtain ⟨t, u, rfl⟩ := h; rfl
  case agg => obtain ⟨x, rfl, _⟩ := h; rfl
  case tuple => obtain ⟨x, rfl, _⟩ := h; rfl

theorem R_cells {σ : Gh} {a : AV} {v : Value} (h : R σ a v) : Rs σ a.cells v.cells.toList := by
  cases a
  case agg cs =>
    simp only [R] at h
    obtain ⟨x, rfl, h2⟩ := h
    exact h2
  all_goals
    have h1 := R_one h
    simp only [AV.one] at h1
    simp only [AV.cells, Rs]
    refine ⟨v, [], ?_, h, rfl⟩
    cases v <;> simp [Value.oneCell', Value.cells] at h1 ⊢
  case tuple cs vs => simp only [R] at h; obtain ⟨x, hx, _⟩ := h; cases hx

theorem al_cells {n : Nat → Bool} {a : AV} (h : a.al n = true) : alAll n a.cells = true := by
  cases a <;> first | (simpa [AV.cells, AV.al] using h) | (simpa [AV.cells, alAll] using h)

theorem R_undef (σ : Gh) : R σ AV.undef undef := by simp [AV.undef, undef, R, Rs]

end Fw
