/- Typed arguments, opened. -/
import Derived.Test.YtgpfcgpgbflpgaaFwG2
namespace Fw
open Go Go.RowKit
section
variable {P : Program}
theorem Ty_string {t : TypeId} (h : P.underlying t = some .string) : ∀ {f : Nat} {as : List AV}, Ty P f t as → ∃ s, as = [.str s] ∧ s.length ≤ maxLen
  | 0, _, h0 => h0.elim
  | f + 1, as, h0 => by simpa only [Ty, h] using h0
theorem Ty_bool {t : TypeId} (h : P.underlying t = some .bool) : ∀ {f : Nat} {as : List AV}, Ty P f t as → ∃ b, as = [.bool b]
  | 0, _, h0 => h0.elim
  | f + 1, as, h0 => by simpa only [Ty, h] using h0
theorem Ty_int {t : TypeId} {k : IntKind} (h : P.underlying t = some (.int k)) : ∀ {f : Nat} {as : List AV}, Ty P f t as → ∃ n, as = [.int k n] ∧ (Lit.int k n).wf = true
  | 0, _, h0 => h0.elim
  | f + 1, as, h0 => by simpa only [Ty, h] using h0

/-- The cells of a struct, field by field. -/
def TyFields (P : Program) (f : Nat) : List Field → List AV → Prop
  | [], as => as = []
  | x :: xs, as => ∃ p rest, as = p ++ rest ∧ Ty P f x.type p ∧ p.length = P.cellsOf x.type ∧ TyFields P f xs rest

theorem TyFields_of {f : Nat} : ∀ (fs : List Field) (ps : List (List AV)), ps.length = fs.length → (∀ (j : Nat) (x : Field) (p : List AV), fs[j]? = some x → ps[j]? = some p → Ty P f x.type p ∧ p.length = P.cellsOf x.type) → TyFields P f fs ps.flatten
  | [], ps, hl, _ => by have : ps = [] := List.eq_nil_of_length_eq_zero hl; subst this; rfl
  | x :: xs, [], hl, _ => by simp at hl
  | x :: xs, p :: ps, hl, h => by
    have h0 := h 0 x p rfl rfl
    exact ⟨p, ps.flatten, rfl, h0.1, h0.2, TyFields_of xs ps (by simpa using hl) fun j y q hy hq => h (j + 1) y q (by simpa using hy) (by simpa using hq)⟩

theorem Ty_struct {t : TypeId} {fs : Array Field} (h : P.underlying t = some (.struct fs)) : ∀ {f : Nat} {as : List AV}, Ty P f t as → ∃ f', TyFields P f' fs.toList as
  | 0, _, h0 => h0.elim
  | f + 1, as, h0 => by
    simp only [Ty, h] at h0
    obtain ⟨ps, h1, h2, rfl⟩ := h0
    exact ⟨f, TyFields_of fs.toList ps (by simpa using h1) fun j x p hx hp => h2 j x p (by simpa using hx) hp⟩

theorem Ty_struct' {t : TypeId} {fs : Array Field} (h : P.underlying t = some (.struct fs)) : ∀ {f : Nat} {as : List AV}, Ty P f t as → ∃ f', f' < f ∧ TyFields P f' fs.toList as
  | 0, _, h0 => h0.elim
  | f + 1, as, h0 => by
    simp only [Ty, h] at h0
    obtain ⟨ps, h1, h2, rfl⟩ := h0
    exact ⟨f, Nat.lt_succ_self f, TyFields_of fs.toList ps (by simpa using h1) fun j x p hx hp => h2 j x p (by simpa using hx) hp⟩

theorem Ty_slice {t e : TypeId} (h : P.underlying t = some (.slice e)) : ∀ {f : Nat} {as : List AV}, Ty P f t as → as = [.nilslice] ∨ ∃ f', f' < f ∧ ∃ es : List (List AV), (∀ x ∈ es, Ty P f' e x ∧ x.length = P.cellsOf e) ∧ es.length ≤ maxLen ∧ as = [.slice es.flatten es.length .no]
  | 0, _, h0 => h0.elim
  | f + 1, as, h0 => by
    simp only [Ty, h] at h0
    rcases h0 with h0 | ⟨es, h1, h2, h3⟩
    · exact .inl h0
    · exact .inr ⟨f, Nat.lt_succ_self f, es, h1, h2, h3⟩

theorem TyArg_string {t : TypeId} (h : P.underlying t = some .string) {a : AV} (ha : TyArg P t a) : ∃ s, a = .str s ∧ s.length ≤ maxLen := by
  simp only [TyArg, h] at ha
  obtain ⟨f, ha⟩ := ha
  obtain ⟨s, h1, h2⟩ := Ty_string h ha
  exact ⟨s, by simpa using h1, h2⟩
theorem TyArg_bool {t : TypeId} (h : P.underlying t = some .bool) {a : AV} (ha : TyArg P t a) : ∃ b, a = .bool b := by
  simp only [TyArg, h] at ha
  obtain ⟨f, ha⟩ := ha
  obtain ⟨s, h1⟩ := Ty_bool h ha
  exact ⟨s, by simpa using h1⟩
theorem TyArg_int {t : TypeId} {k : IntKind} (h : P.underlying t = some (.int k)) {a : AV} (ha : TyArg P t a) : ∃ n, a = .int k n ∧ (Lit.int k n).wf = true := by
  simp only [TyArg, h] at ha
  obtain ⟨f, ha⟩ := ha
  obtain ⟨s, h1, h2⟩ := Ty_int h ha
  exact ⟨s, by simpa using h1, h2⟩
theorem TyArg_struct {t : TypeId} {fs : Array Field} (h : P.underlying t = some (.struct fs)) {a : AV} (ha : TyArg P t a) : ∃ f cs, a = .agg cs ∧ TyFields P f fs.toList cs := by
  simp only [TyArg, h] at ha
  obtain ⟨f, cs, h1, h2⟩ := ha
  obtain ⟨f', h3⟩ := Ty_struct h h2
  exact ⟨f', cs, h1, h3⟩
theorem TyArg_slice {t e : TypeId} (h : P.underlying t = some (.slice e)) {a : AV} (ha : TyArg P t a) : a = .nilslice ∨ ∃ f, ∃ es : List (List AV), (∀ x ∈ es, Ty P f e x ∧ x.length = P.cellsOf e) ∧ es.length ≤ maxLen ∧ a = .slice es.flatten es.length .no := by
  simp only [TyArg, h] at ha
  obtain ⟨f, ha⟩ := ha
  rcases Ty_slice h ha with h1 | ⟨f', _, es, h1, h2, h3⟩
  · exact .inl (by simpa using h1)
  · exact .inr ⟨f', es, h1, h2, by simpa using h3⟩
end
end Fw
