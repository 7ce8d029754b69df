/- The examples of the chapter: the program answers them, as a run in the kernel shows. -/
import Derived.Test.YtgpfcgpgbflpgaaK10c
namespace T10
open Go Fw Go.Proofs
theorem awake_run (h : List (Nat × AObj)) (l : Nat) : callF cx 1000 9 [] { heap := h, next := 1, low := l } = some (.bool true, { heap := h, next := 1, low := l }) := by kernel_rfl
end T10
