/- Parts of the proof, one behind the other. -/
import Derived.Test.YtljlkedecdgimaaGreatDoorK17
import Derived.Test.YtljlkedecdgimaaGreatDoorFwX
import Derived.Test.YtljlkedecdgimaaGreatDoorFwL
set_option linter.unusedSimpArgs false
set_option linter.unusedVariables false
/- The compiled form is that of the program's own functions, one by one. -/
namespace T17
open Go Fw Go.Proofs
theorem tbl_shut : (tbl.all fun o => match o with | some ir => ir.body.shut | none => true) = true := by kernel_rfl
theorem tbl_ok : tbl = (List.range tbl.length).map fun i => (Tryz.prog.funcs[i]?).bind (cFunc Tryz.prog) := by kernel_rfl
theorem tbl_dst : (tbl.all fun o => match o with | some ir => dstOk ir.ntmps ir.body | none => true) = true := by kernel_rfl
end T17

/- The machine's context of this program, and that it is the program's. -/
namespace T17
open Go Fw Go.Proofs Go.RowKit
set_option maxRecDepth 100000
def pows : List Int := [1, 10, 100, 1000, 10000, 100000, 1000000, 10000000, 100000000, 1000000000, 10000000000, 100000000000, 1000000000000, 10000000000000, 100000000000000, 1000000000000000, 10000000000000000, 100000000000000000, 1000000000000000000, 10000000000000000000]
def exts : Nat → Option (List AV → St → Option (AV × St))
  | 118 => some xCount
  | 73 => some xIndexByte
  | _ => none
def gls : Nat → Option (List AV)
  | 1 => some (pows.map (AV.int .u64))
  | _ => none
def cx : Cx := { fns := fun i => (tbl[i]?).join, gl := gls, ext := exts }
theorem mixed : Tryz.prog.follows .mixedOrders = true := by kernel_rfl
theorem hext (f : Nat) (g : List AV → St → Option (AV × St)) (h : cx.ext f = some g) : ExtOk Tryz.prog f g := by
  change exts f = some g at h
  unfold exts at h
  split at h <;> cases h
  · exact xCount_ok Tryz.func118 (by kernel_rfl) (by kernel_rfl) (by kernel_rfl) (by kernel_rfl)
  · exact xIndexByte_ok Tryz.func73 (by kernel_rfl) (by kernel_rfl) (by kernel_rfl) (by kernel_rfl)
theorem glok : cx.GlOk := by
  intro g cs h
  change gls g = some cs at h
  unfold gls at h
  split at h <;> cases h
  rfl
theorem cxp (X : Bs) (hX : X.gl = cx.gl) : CxP Tryz.prog X cx := cxp_of tbl_shut tbl_ok rfl hext glok mixed X hX
end T17

/- The seat's machine. -/
