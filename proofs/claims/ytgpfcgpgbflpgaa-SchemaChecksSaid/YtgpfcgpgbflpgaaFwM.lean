/- More fuel changes no answer. -/
import Derived.Test.YtgpfcgpgbflpgaaFwC
namespace Fw
open Go

def CLe (c c' : Callee) : Prop := ∀ f args s r, c f args s = some r → c' f args s = some r
def XLe (e e' : Ex) : Prop := ∀ c ρ s r, e c ρ s = some r → e' c ρ s = some r

section
variable {cx : Cx} {c c' : Callee}

theorem evOp_le (h : CLe c c') {ρ : Env} {s : St} {o : IOp} {r : AV × St} (he : evOp cx c ρ s o = some r) : evOp cx c' ρ s o = some r := by
  cases o
  case call f xs =>
    simp only [evOp] at he ⊢
    split at he
    · rename_i g a b hf
      simp only [Option.bind_eq_some_iff] at he ⊢
      obtain ⟨vs, h1, h2⟩ := he
      exact ⟨vs, h1, h _ _ _ _ h2⟩
    · cases he
  all_goals exact he

theorem evOper_le (h : CLe c c') {ρ : Env} {s : St} {o : IOper} {r : Env × St} (he : evOper cx c o ρ s = some r) : evOper cx c' o ρ s = some r := by
  unfold evOper at he ⊢
  split
  · rename_i hq
    rw [if_pos hq] at he
    simp only [Option.map_eq_some_iff] at he ⊢
    obtain ⟨x, h1, h2⟩ := he
    exact ⟨x, evOp_le h h1, h2⟩
  · rename_i hq
    rw [if_neg hq] at he; exact he

theorem evOps_le (h : CLe c c') : ∀ {os : List IOper} {ρ : Env} {s : St} {r : Env × St}, evOps cx c os ρ s = some r → evOps cx c' os ρ s = some r
  | [], _, _, _, he => he
  | o :: os, ρ, s, r, he => by
    simp only [evOps, Option.bind_eq_some_iff] at he ⊢
    obtain ⟨x, h1, h2⟩ := he
    exact ⟨x, evOper_le h h1, evOps_le h h2⟩

theorem map_le {α β : Type} {x y : Option α} {f : α → β} (h : ∀ r, x = some r → y = some r) {r : β} (he : x.map f = some r) : y.map f = some r := by
  simp only [Option.map_eq_some_iff] at he ⊢
  obtain ⟨z, h1, h2⟩ := he
  exact ⟨z, h _ h1, h2⟩

theorem evDeed_le (h : CLe c c') {ρ : Env} {s : St} {o : IOp} {r : AV × St × Option Deed} (he : evDeed cx c ρ s o = some r) : evDeed cx c' ρ s o = some r := by
  unfold evDeed at he ⊢
  split
  · rename_i hq; rw [if_pos hq] at he; exact map_le (fun _ => evOp_le h) he
  · rename_i hq
    rw [if_neg hq] at he
    split
    · rename_i hl; rw [if_pos hl] at he; exact map_le (fun _ => evOp_le h) he
    · rename_i hl
      rw [if_neg hl] at he
      cases o <;> exact map_le (fun _ => evOp_le h) he

theorem evDraw_le (h : CLe c c') : ∀ {os : List (IOper × Nat)} {i : Nat} {ds : List (Nat × Deed)} {ρ : Env} {s : St} {r : Env × St}, evDraw cx c os i ds ρ s = some r → evDraw cx c' os i ds ρ s = some r
  | [], _, _, _, _, _, he => he
  | (o, m) :: os, i, ds, ρ, s, r, he => by
    simp only [evDraw] at he ⊢
    split
    · rename_i hq
      rw [if_pos hq] at he
      simp only [Option.bind_eq_some_iff] at he ⊢
      obtain ⟨⟨v, s1, d⟩, h1, h2⟩ := he
      refine ⟨⟨v, s1, d⟩, evDeed_le h h1, ?_⟩
      dsimp only at h2 ⊢
      split
      · exact evDraw_le h h2
      · rename_i d0
        dsimp only at h2
        split
        · rename_i hf; rw [if_pos hf] at h2; exact evDraw_le h h2
        · rename_i hf; rw [if_neg hf] at h2; cases h2
    · rename_i hq
      rw [if_neg hq] at he; exact evDraw_le h he

theorem callWith_le {e e' : Ex} (h : XLe e e') : CLe (callWith cx e) (callWith cx e') := by
  intro f args s r he
  unfold callWith at he ⊢
  split
  · rename_i g hg; rw [hg] at he; exact he
  · rename_i hg
    rw [hg] at he
    simp only [Option.bind_eq_some_iff] at he ⊢
    obtain ⟨fn, h1, x, h2, h3⟩ := he
    exact ⟨fn, h1, x, h _ _ _ _ h2, h3⟩

theorem exec_le : ∀ k, XLe (exec cx k) (exec cx (k + 1))
  | 0 => fun _ _ _ _ h => by simp [exec] at h
  | k + 1 => by
    intro c ρ s r h
    have ih := exec_le k
    have hc := callWith_le (cx := cx) ih
    unfold exec at h
    unfold exec
    cases c <;> dsimp only at h ⊢
    case skip => exact h
    case region ops => exact map_le (fun _ => evOps_le hc) h
    case dregion ops => exact map_le (fun _ => evDraw_le hc) h
    case seq a b =>
      simp only [Option.bind_eq_some_iff] at h ⊢
      obtain ⟨⟨g, ρ1, s1⟩, h1, h2⟩ := h
      refine ⟨_, ih _ _ _ _ h1, ?_⟩
      cases g <;> dsimp only at h2 ⊢ <;> first | exact ih _ _ _ _ h2 | exact h2
    case cond x a b =>
      split at h
      · exact ih _ _ _ _ h
      · cases h
    case block id b => exact map_le (fun _ => ih _ _ _ _) h
    case loop b =>
      simp only [Option.bind_eq_some_iff] at h ⊢
      obtain ⟨⟨g, ρ1, s1⟩, h1, h2⟩ := h
      refine ⟨_, ih _ _ _ _ h1, ?_⟩
      cases g <;> dsimp only at h2 ⊢ <;> first | exact ih _ _ _ _ h2 | exact h2
    case exit id => exact h
    case scope b => exact ih _ _ _ _ h
    case ret => exact h
end
end Fw
