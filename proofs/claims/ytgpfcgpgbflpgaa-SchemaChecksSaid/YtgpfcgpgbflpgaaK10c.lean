/- The machine's context of this program, and that it is the program's. -/
import Derived.Test.YtgpfcgpgbflpgaaK10d
import Derived.Test.YtgpfcgpgbflpgaaK10x
import Derived.Test.YtgpfcgpgbflpgaaFwX2
namespace T10
open Go Fw Go.Proofs
def exts : Nat → Option (List AV → St → Option (AV × St))
  | 91 => some xIndexByte
  | 72 => some (xCopyCheck 74)
  | 45 => some (xString 74 5)
  | _ => none
def cx : Cx := { fns := fun i => (tbl[i]?).join, gl := fun _ => none, ext := exts }
theorem hext (f : Nat) (g : List AV → St → Option (AV × St)) (h : cx.ext f = some g) : ExtOk Try.prog f g := by
  change exts f = some g at h
  unfold exts at h
  split at h <;> cases h
  · exact xIndexByte_ok Try.func91 (by kernel_rfl) (by kernel_rfl) (by kernel_rfl) (by kernel_rfl)
  · exact xCopyCheck_ok Try.func72 (by intro h; exact absurd h (by decide)) (by kernel_rfl) copyCheck_used copyCheck_fresh
  · exact xString_ok Try.func45 (by intro h; exact absurd h (by decide)) (by kernel_rfl) string_none string_some
theorem cxp (X : Bs) (hX : X.gl = cx.gl) : CxP Try.prog X cx := cxp_of tbl_shut tbl_ok rfl hext (fun _ _ h => by cases h) mixed X hX
end T10
