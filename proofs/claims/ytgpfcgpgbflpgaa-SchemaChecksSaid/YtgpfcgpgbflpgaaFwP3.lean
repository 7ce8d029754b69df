/- Each plain operation of the compiled form gives what the model's operation gives. -/
import Derived.Test.YtgpfcgpgbflpgaaFwP2
import Derived.Laws.Build
namespace Fw
open Go Go.RowKit

section
variable {P : Program} {cx : Cx} {σ : Gh} {ρ : Env} {a : Act} {w : World}

set_option maxHeartbeats 1000000 in
theorem eq_R {neg : Bool} {q : EqK} {op : BinOp} {t : TypeId} {ox oy : Operand} {x y : AV} {r : Bool} {u1 u2 : Value} (hop : op = if neg then .neq else .eql)
    (hq : match q with
      | .scal => P.underlying t = some .bool
      | .agg ks => P.eqGuardType P.depth t = false ∧ plainEq P 20 t = some ks ∧ tagg P t = some true
      | .ptr => ∃ e, P.underlying t = some (.pointer e)
      | .slice => ∃ e, P.underlying t = some (.slice e)
      | .map => ∃ k e, P.underlying t = some (.map k e)
      | .func => ∃ p r b, P.underlying t = some (.func p r b)
      | .iface => (∃ m, P.underlying t = some (.interface m)) ∧ ((∃ c, ox = .const c) ∨ ∃ c, oy = .const c))
    (he : evEq q x y = some r) (h1 : R σ x u1) (h2 : R σ y u2) :
    (do eqGuard op t ox oy u1 u2; binOp op t u1 u2 : Sem Value).run P w = .ok (.bool (if neg then !r else r)) w := by
  subst hop
  have fin : ∀ (hg : (eqGuard (if neg then .neq else .eql) t ox oy u1 u2).run P w = .ok () w) (he' : ∀ d, 20 ≤ d → (Op.equalIn (d + 1) t u1 u2).run P w = .ok r w) (hb : binOp .eql t u1 u2 = (do pure (.bool (← Op.equal t u1 u2))) ∧ binOp .neq t u1 u2 = (do pure (.bool (!(← Op.equal t u1 u2))))),
      (do eqGuard (if neg then .neq else .eql) t ox oy u1 u2; binOp (if neg then .neq else .eql) t u1 u2 : Sem Value).run P w = .ok (.bool (if neg then !r else r)) w := by
    intro hg he' hb
    have he : (Op.equal t u1 u2).run P w = .ok r w := he' 9999 (by decide)
    rw [Sem.run_bind, hg, Result.andThen_ok]
    cases neg
    · simp only [Bool.false_eq_true, if_false, hb.1, Sem.run_bind, he, Result.andThen_ok, Sem.run_pure]
    · simp only [if_true, hb.2, Sem.run_bind, he, Result.andThen_ok, Sem.run_pure]
  unfold evEq at he
  split at he
  case h_1 =>
    cases he; simp only [R] at h1 h2; subst h1; subst h2
    exact fin (by cases neg <;> rfl) (fun d _ => by rw [run_equalIn_bool' w d t _ _ hq]) ⟨rfl, rfl⟩
  case h_2 ks _ _ =>
    simp only [R] at h1 h2
    obtain ⟨xs, rfl, h1⟩ := h1
    obtain ⟨ys, rfl, h2⟩ := h2
    exact fin (run_eqGuard_agg w _ _ _ _ _ _ hq.1) (fun d hd => equalIn_plain 20 (d + 1) t ks hq.2.1 (by omega) true hq.2.2 _ _ xs ys r h1 h2 he _ _ rfl rfl w) ⟨rfl, rfl⟩
  case h_24 => cases he
  case h_19 =>
    cases he; simp only [R] at h1 h2; subst h1; subst h2
    obtain ⟨⟨m, hq⟩, hc⟩ := hq
    refine fin ?_ (fun d _ => by simp [Op.equalIn, run_und hq]) ⟨rfl, rfl⟩
    rcases hc with ⟨c, rfl⟩ | ⟨c, rfl⟩
    · cases neg <;> simp [eqGuard_nil_constL]
    · cases neg <;> simp [eqGuard_nil_constR]
  case h_20 =>
    cases he; simp only [R] at h1 h2; subst h1; obtain ⟨u, rfl, _⟩ := h2
    obtain ⟨⟨m, hq⟩, _⟩ := hq
    exact fin (by cases neg <;> rfl) (fun d _ => by simp [Op.equalIn, run_und hq]) ⟨rfl, rfl⟩
  case h_21 =>
    cases he; simp only [R] at h1 h2; subst h2; obtain ⟨u, rfl, _⟩ := h1
    obtain ⟨⟨m, hq⟩, _⟩ := hq
    exact fin (by cases neg <;> rfl) (fun d _ => by simp [Op.equalIn, run_und hq]) ⟨rfl, rfl⟩
  case h_22 =>
    cases he; simp only [R] at h1 h2; subst h1; obtain ⟨tt, u, rfl⟩ := h2
    obtain ⟨⟨m, hq⟩, _⟩ := hq
    exact fin (by cases neg <;> rfl) (fun d _ => by simp [Op.equalIn, run_und hq]) ⟨rfl, rfl⟩
  case h_23 =>
    cases he; simp only [R] at h1 h2; subst h2; obtain ⟨tt, u, rfl⟩ := h1
    obtain ⟨⟨m, hq⟩, _⟩ := hq
    exact fin (by cases neg <;> rfl) (fun d _ => by simp [Op.equalIn, run_und hq]) ⟨rfl, rfl⟩
  case h_3 =>
    cases he; simp only [R] at h1 h2; subst h1; subst h2; obtain ⟨e1, hq⟩ := hq
    exact fin (by cases neg <;> rfl) (fun d _ => by simp [Op.equalIn, run_und hq]) ⟨rfl, rfl⟩
  case h_4 =>
    cases he; simp only [R] at h1 h2; subst h1; subst h2; obtain ⟨e1, hq⟩ := hq
    exact fin (by cases neg <;> rfl) (fun d _ => by simp [Op.equalIn, run_und hq]) ⟨rfl, rfl⟩
  case h_5 =>
    cases he; simp only [R] at h1 h2; subst h1; subst h2; obtain ⟨e1, hq⟩ := hq
    exact fin (by cases neg <;> rfl) (fun d _ => by simp [Op.equalIn, run_und hq]) ⟨rfl, rfl⟩
  case h_6 =>
    cases he; simp only [R] at h1 h2; subst h1; obtain ⟨_, _, rfl, _⟩ := h2; obtain ⟨e1, hq⟩ := hq
    exact fin (by cases neg <;> rfl) (fun d _ => by simp [Op.equalIn, run_und hq]) ⟨rfl, rfl⟩
  case h_7 =>
    cases he; simp only [R] at h1 h2; subst h2; obtain ⟨_, _, rfl, _⟩ := h1; obtain ⟨e1, hq⟩ := hq
    exact fin (by cases neg <;> rfl) (fun d _ => by simp [Op.equalIn, run_und hq]) ⟨rfl, rfl⟩
  case h_8 =>
    cases he; simp only [R] at h1 h2; subst h1; subst h2; obtain ⟨e1, hq⟩ := hq
    exact fin (by cases neg <;> rfl) (fun d _ => by simp [Op.equalIn, run_und hq]) ⟨rfl, rfl⟩
  case h_9 =>
    cases he; simp only [R] at h1 h2; subst h1; obtain ⟨e1, hq⟩ := hq
    rcases h2 with ⟨_, _, _, rfl, _⟩ | ⟨_, _, _, _, rfl⟩ <;>
    exact fin (by cases neg <;> rfl) (fun d _ => by simp [Op.equalIn, run_und hq]) ⟨rfl, rfl⟩
  case h_10 =>
    cases he; simp only [R] at h1 h2; subst h2; obtain ⟨e1, hq⟩ := hq
    rcases h1 with ⟨_, _, _, rfl, _⟩ | ⟨_, _, _, _, rfl⟩ <;>
    exact fin (by cases neg <;> rfl) (fun d _ => by simp [Op.equalIn, run_und hq]) ⟨rfl, rfl⟩
  case h_11 =>
    cases he; simp only [R] at h1 h2; subst h1; obtain ⟨_, rfl, _⟩ := h2; obtain ⟨e1, hq⟩ := hq
    exact fin (by cases neg <;> rfl) (fun d _ => by simp [Op.equalIn, run_und hq]) ⟨rfl, rfl⟩
  case h_12 =>
    cases he; simp only [R] at h1 h2; subst h2; obtain ⟨_, rfl, _⟩ := h1; obtain ⟨e1, hq⟩ := hq
    exact fin (by cases neg <;> rfl) (fun d _ => by simp [Op.equalIn, run_und hq]) ⟨rfl, rfl⟩
  case h_13 =>
    cases he; simp only [R] at h1 h2; subst h1; subst h2; obtain ⟨e1, e2, hq⟩ := hq
    exact fin (by cases neg <;> rfl) (fun d _ => by simp [Op.equalIn, run_und hq]) ⟨rfl, rfl⟩
  case h_14 =>
    cases he; simp only [R] at h1 h2; subst h1; subst h2; obtain ⟨e1, e2, hq⟩ := hq
    exact fin (by cases neg <;> rfl) (fun d _ => by simp [Op.equalIn, run_und hq]) ⟨rfl, rfl⟩
  case h_15 =>
    cases he; simp only [R] at h1 h2; subst h1; subst h2; obtain ⟨e1, e2, hq⟩ := hq
    exact fin (by cases neg <;> rfl) (fun d _ => by simp [Op.equalIn, run_und hq]) ⟨rfl, rfl⟩
  case h_16 =>
    cases he; simp only [R] at h1 h2; subst h1; subst h2; obtain ⟨e1, e2, e3, hq⟩ := hq
    exact fin (by cases neg <;> rfl) (fun d _ => by simp [Op.equalIn, run_und hq]) ⟨rfl, rfl⟩
  case h_17 =>
    cases he; simp only [R] at h1 h2; subst h1; obtain ⟨_, _, rfl, _⟩ := h2; obtain ⟨e1, e2, e3, hq⟩ := hq
    exact fin (by cases neg <;> rfl) (fun d _ => by simp [Op.equalIn, run_und hq]) ⟨rfl, rfl⟩
  case h_18 =>
    cases he; simp only [R] at h1 h2; subst h2; obtain ⟨_, _, rfl, _⟩ := h1; obtain ⟨e1, e2, e3, hq⟩ := hq
    exact fin (by cases neg <;> rfl) (fun d _ => by simp [Op.equalIn, run_und hq]) ⟨rfl, rfl⟩

theorem un_R {op : UnOp} {x v : AV} {u : Value} (he : evUn op x = some v) (hx : R σ x u) : ∃ u', (Op.unary op u).run P w = .ok u' w ∧ R σ v u' := by
  unfold evUn at he
  split at he <;> cases he <;> simp only [R] at hx <;> subst hx
  · exact ⟨_, by simp [unary_neg, Op.intArith]; rfl, by simp [R]⟩
  · exact ⟨_, by simp [unary_xor, Op.intBits]; rfl, by simp [R]⟩
  · exact ⟨_, by simp [unary_not]; rfl, by simp [R]⟩

theorem fold_min {vs : List AV} : ∀ {x v : AV} {u : Value} {us : List Value}, fold2 min2 x vs = some v → R σ x u → Rs σ vs us → ∃ u', (us.foldlM Builtin.min2 u).run P w = .ok u' w ∧ R σ v u' := by
  induction vs with
  | nil =>
    intro x v u us h hx hr
    simp only [Rs] at hr; subst hr
    simp only [fold2, Option.some.injEq] at h; subst h
    exact ⟨u, by simp, hx⟩
  | cons y vs ih =>
    intro x v u us h hx hr
    simp only [Rs] at hr
    obtain ⟨u1, rest, rfl, h1, h2⟩ := hr
    simp only [fold2, Option.bind_eq_some_iff] at h
    obtain ⟨c, h3, h4⟩ := h
    unfold min2 at h3
    split at h3 <;> cases h3
    simp only [R] at hx h1; subst hx; subst h1
    obtain ⟨u', h5, h6⟩ := ih h4 (u := .int _ _) (by simp only [R]; rfl) h2
    exact ⟨u', by simp [List.foldlM_cons, Builtin.min2, h5], h6⟩

theorem fold_max {vs : List AV} : ∀ {x v : AV} {u : Value} {us : List Value}, fold2 max2 x vs = some v → R σ x u → Rs σ vs us → ∃ u', (us.foldlM Builtin.max2 u).run P w = .ok u' w ∧ R σ v u' := by
  induction vs with
  | nil =>
    intro x v u us h hx hr
    simp only [Rs] at hr; subst hr
    simp only [fold2, Option.some.injEq] at h; subst h
    exact ⟨u, by simp, hx⟩
  | cons y vs ih =>
    intro x v u us h hx hr
    simp only [Rs] at hr
    obtain ⟨u1, rest, rfl, h1, h2⟩ := hr
    simp only [fold2, Option.bind_eq_some_iff] at h
    obtain ⟨c, h3, h4⟩ := h
    unfold max2 at h3
    split at h3 <;> cases h3
    simp only [R] at hx h1; subst hx; subst h1
    obtain ⟨u', h5, h6⟩ := ih h4 (u := .int _ _) (by simp only [R]; rfl) h2
    exact ⟨u', by simp [List.foldlM_cons, Builtin.max2, h5], h6⟩

end
end Fw
