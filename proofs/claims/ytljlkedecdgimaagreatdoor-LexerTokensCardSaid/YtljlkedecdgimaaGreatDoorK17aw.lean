/- Parts of the proof, one behind the other. -/
import Derived.Test.YtljlkedecdgimaaGreatDoorK17d
set_option linter.unusedSimpArgs false
set_option linter.unusedVariables false
/- The examples of the chapter, from a state without an object. -/
namespace T17
open Go Fw Go.Proofs
theorem awake_run1 (h : List (Nat × AObj)) (l : Nat) : callF cx 1000 6 [] { heap := h, next := 1, low := l } = some (.bool true, { heap := h, next := 1, low := l }) := by kernel_rfl
end T17
