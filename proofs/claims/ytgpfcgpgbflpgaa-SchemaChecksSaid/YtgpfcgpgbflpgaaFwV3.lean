/- Regions that draw their order: one operation, whatever has been done already. -/
import Derived.Test.YtgpfcgpgbflpgaaFwV2
namespace Fw
open Go Go.RowKit

def clsI : IOp → Nat
  | .bslice .. => 1
  | .load .. => 2
  | .store .. => 3
  | .alloc .. => 4
  | .box .. => 5
  | _ => 0
def clsO : Op → Nat
  | .buildSlice .. => 1
  | .load .. => 2
  | .store .. => 3
  | .alloc .. => 4
  | .box .. => 5
  | _ => 0

theorem cls_eq {P : Program} {o : Op} {io : IOp} (hcO : cOp P o = some io) : clsI io = clsO o := by
  cases o
  case makeFunc fn first cap =>
    cases fn <;> simp only [cOp] at hcO <;> try (cases hcO; done)
    simp only [Option.bind_eq_some_iff, Option.map_eq_some_iff] at hcO; obtain ⟨x, h1, y, h2, rfl⟩ := hcO
    rfl
  case makeMap t r => cases r <;> simp only [cOp] at hcO <;> cases hcO; rfl
  case convert src dst x =>
    simp only [cOp, cConv, Option.bind_eq_some_iff] at hcO; obtain ⟨ix, h1, h2⟩ := hcO
    split at h2 <;> first | (cases h2; done) | (cases h2; rfl) | (split at h2 <;> first | (cases h2; done) | (cases h2; rfl))
  case call c =>
    simp only [cOp] at hcO
    split at hcO
    · simp only [Option.bind_eq_some_iff, Option.map_eq_some_iff] at hcO; obtain ⟨fx, h1, xs, h2, rfl⟩ := hcO; rfl
    · simp only [cBuiltin, Option.bind_eq_some_iff] at hcO; obtain ⟨xs, h1, h2⟩ := hcO
      split at h2
      · split at h2 <;> cases h2 <;> rfl
      · cases h2; rfl
      · cases h2; rfl
      · split at h2
        · split at h2
          · cases h2
          · simp only [Option.bind_eq_some_iff] at h2; obtain ⟨n, h3, k, h4, z, h5, h6⟩ := h2
            split at h6 <;> cases h6; rfl
        · cases h2
      · split at h2
        · simp only [Option.map_eq_some_iff] at h2; obtain ⟨n, h3, rfl⟩ := h2; rfl
        · cases h2
      · cases h2
    · cases hcO
  all_goals simp only [cOp] at hcO
  all_goals try (cases hcO; done)
  case alloc t => simp only [Option.map_eq_some_iff] at hcO; obtain ⟨_, _, rfl⟩ := hcO; rfl
  case box t x => simp only [Option.map_eq_some_iff] at hcO; obtain ⟨_, _, rfl⟩ := hcO; rfl
  case load t x => simp only [Option.bind_eq_some_iff, Option.map_eq_some_iff] at hcO; obtain ⟨_, _, _, _, _, _, rfl⟩ := hcO; rfl
  case store t x y => simp only [Option.bind_eq_some_iff, Option.map_eq_some_iff] at hcO; obtain ⟨_, _, _, _, _, _, rfl⟩ := hcO; rfl
  case buildSlice t n ps =>
    split at hcO
    · simp only [Option.bind_eq_some_iff] at hcO; obtain ⟨n, h1, z, h2, h3⟩ := hcO
      split at h3
      · cases h3
      · simp only [Option.map_eq_some_iff] at h3; obtain ⟨_, _, rfl⟩ := h3; rfl
    · cases hcO
  case lookup t m k ok =>
    split at hcO
    · simp only [Option.bind_eq_some_iff, Option.map_eq_some_iff] at hcO; obtain ⟨_, _, _, _, _, _, _, _, rfl⟩ := hcO; rfl
    · cases hcO
  case mapUpdate t m k x =>
    split at hcO
    · simp only [Option.bind_eq_some_iff, Option.map_eq_some_iff] at hcO; obtain ⟨_, _, _, _, _, _, _, _, rfl⟩ := hcO; rfl
    · cases hcO
  case insert t m k x =>
    split at hcO
    · simp only [Option.bind_eq_some_iff, Option.map_eq_some_iff] at hcO; obtain ⟨_, _, _, _, _, _, _, _, rfl⟩ := hcO; rfl
    · cases hcO
  case makeSlice t l c =>
    split at hcO
    · simp only [Option.bind_eq_some_iff] at hcO; obtain ⟨z, h1, n, h2, by', h3, h4⟩ := hcO
      split at h4
      · cases h4
      · simp only [Option.bind_eq_some_iff, Option.map_eq_some_iff] at h4; obtain ⟨_, _, _, _, rfl⟩ := h4; rfl
    · cases hcO
  case move x => simp only [Option.map_eq_some_iff] at hcO; obtain ⟨_, _, rfl⟩ := hcO; rfl
  case assign x => simp only [Option.map_eq_some_iff] at hcO; obtain ⟨_, _, rfl⟩ := hcO; rfl
  case nilCheck x => simp only [Option.map_eq_some_iff] at hcO; obtain ⟨_, _, rfl⟩ := hcO; rfl
  case unOp x => simp only [Option.map_eq_some_iff] at hcO; obtain ⟨_, _, rfl⟩ := hcO; rfl
  case extract x => simp only [Option.map_eq_some_iff] at hcO; obtain ⟨_, _, rfl⟩ := hcO; rfl
  case pick x => simp only [Option.bind_eq_some_iff, Option.map_eq_some_iff] at hcO; obtain ⟨_, _, _, _, _, _, rfl⟩ := hcO; rfl
  case build x =>
    simp only [Option.bind_eq_some_iff] at hcO; obtain ⟨_, _, h2⟩ := hcO
    split at h2
    · simp only [Option.bind_eq_some_iff, Option.map_eq_some_iff] at h2; obtain ⟨_, _, _, _, rfl⟩ := h2; rfl
    · simp only [Option.bind_eq_some_iff, Option.map_eq_some_iff] at h2; obtain ⟨_, _, _, _, rfl⟩ := h2; rfl
    · cases h2
  case binOp op t x y z =>
    simp only [cBin, Option.bind_eq_some_iff] at hcO; obtain ⟨_, _, _, _, h2⟩ := hcO
    split at h2
    · split at h2
      all_goals first
        | (cases h2; done)
        | (cases h2; rfl; done)
        | (split at h2 <;> first | (cases h2; done) | (cases h2; rfl; done) | (simp only [Option.map_eq_some_iff] at h2; obtain ⟨_, _, rfl⟩ := h2; rfl; done))
    · cases h2; rfl
  case slice t x lo hi m3 =>
    simp only [cSlice, Option.bind_eq_some_iff] at hcO; obtain ⟨_, _, _, _, _, _, _, _, h2⟩ := hcO
    split at h2
    · split at h2 <;> cases h2; rfl
    · simp only [Option.map_eq_some_iff] at h2; obtain ⟨_, _, rfl⟩ := h2; rfl
    · simp only [Option.map_eq_some_iff] at h2; obtain ⟨_, _, rfl⟩ := h2; rfl
    · split at h2
      · simp only [Option.map_eq_some_iff] at h2; obtain ⟨_, _, rfl⟩ := h2; rfl
      · cases h2
    · cases h2
  case fieldAddr t x i =>
    split at hcO
    · simp only [Option.bind_eq_some_iff] at hcO; obtain ⟨_, _, _, _, h2⟩ := hcO
      split at h2
      · cases h2
      · simp only [Option.map_eq_some_iff] at h2; obtain ⟨_, _, rfl⟩ := h2; rfl
    · cases hcO
  case field t x i =>
    split at hcO
    · simp only [Option.bind_eq_some_iff, Option.map_eq_some_iff] at hcO; obtain ⟨_, _, _, _, _, _, _, _, rfl⟩ := hcO; rfl
    · cases hcO
  case indexAddr t x i =>
    simp only [Option.bind_eq_some_iff] at hcO; obtain ⟨_, _, _, _, h2⟩ := hcO
    split at h2
    · simp only [Option.map_eq_some_iff] at h2; obtain ⟨_, _, rfl⟩ := h2; rfl
    · simp only [Option.map_eq_some_iff] at h2; obtain ⟨_, _, rfl⟩ := h2; rfl
    · cases h2
  case index t x i =>
    simp only [Option.bind_eq_some_iff] at hcO; obtain ⟨_, _, _, _, h2⟩ := hcO
    split at h2
    · simp only [Option.bind_eq_some_iff, Option.map_eq_some_iff] at h2; obtain ⟨_, _, _, _, rfl⟩ := h2; rfl
    · cases h2; rfl
    · cases h2
  case makeInterface t x =>
    split at hcO
    · cases hcO
    · simp only [Option.map_eq_some_iff] at hcO; obtain ⟨_, _, rfl⟩ := hcO; rfl
    · cases hcO
end Fw
