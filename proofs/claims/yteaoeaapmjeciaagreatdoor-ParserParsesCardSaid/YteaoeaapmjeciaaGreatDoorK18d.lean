/- Parts of the proof, one behind the other. -/
import Derived.Test.YteaoeaapmjeciaaGreatDoorK18
import Derived.Test.YteaoeaapmjeciaaGreatDoorFwX
import Derived.Test.YteaoeaapmjeciaaGreatDoorFwL
set_option linter.unusedSimpArgs false
set_option linter.unusedVariables false
/- The compiled form is that of the program's own functions, one by one. -/
namespace T18
open Go Fw Go.Proofs
theorem tbl_shut : (tbl.all fun o => match o with | some ir => ir.body.shut | none => true) = true := by kernel_rfl
theorem tbl_ok : tbl = (List.range tbl.length).map fun i => (Tryz.prog.funcs[i]?).bind (cFunc Tryz.prog) := by kernel_rfl
theorem tbl_dst : (tbl.all fun o => match o with | some ir => dstOk ir.ntmps ir.body | none => true) = true := by kernel_rfl
end T18

/- The machine's context of this program, and that it is the program's. -/
namespace T18
open Go Fw Go.Proofs Go.RowKit
set_option maxRecDepth 100000
def exts : Nat → Option (List AV → St → Option (AV × St))
  | 65 => some xCount
  | 67 => some xIndexByte
  | _ => none
def cx : Cx := { fns := fun i => (tbl[i]?).join, gl := fun _ => none, ext := exts }
theorem mixed : Tryz.prog.follows .mixedOrders = true := by kernel_rfl
theorem hext (f : Nat) (g : List AV → St → Option (AV × St)) (h : cx.ext f = some g) : ExtOk Tryz.prog f g := by
  change exts f = some g at h
  unfold exts at h
  split at h <;> cases h
  · exact xCount_ok Tryz.func65 (by kernel_rfl) (by kernel_rfl) (by kernel_rfl) (by kernel_rfl)
  · exact xIndexByte_ok Tryz.func67 (by kernel_rfl) (by kernel_rfl) (by kernel_rfl) (by kernel_rfl)
theorem glok : cx.GlOk := by
  intro g cs h
  cases h
theorem cxp (X : Bs) (hX : X.gl = cx.gl) : CxP Tryz.prog X cx := cxp_of tbl_shut tbl_ok rfl hext glok mixed X hX
theorem hgl {L : List (String × DataW Unit)} : ∀ W, laidMetH Tryz.prog L W → ∀ n cs, cx.gl n = some cs → alAll (fun _ => false) cs = true ∧ RC (firstGh W) cs n 0 := by
  intro W h n cs hn
  cases hn
end T18

/- The seat's machine. -/

/- Nothing is read of what the rows list. -/
