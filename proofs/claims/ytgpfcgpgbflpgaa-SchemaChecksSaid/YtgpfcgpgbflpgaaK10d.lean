/- The compiled form is that of the program's own functions, one by one. -/
import Derived.Test.YtgpfcgpgbflpgaaK10
import Derived.Test.YtgpfcgpgbflpgaaFwW2
namespace T10
open Go Fw Go.Proofs
theorem tbl_shut : (tbl.all fun o => match o with | some ir => ir.body.shut | none => true) = true := by kernel_rfl
theorem tbl_ok : tbl = (List.range tbl.length).map fun i => (Try.prog.funcs[i]?).bind (cFunc Try.prog) := by kernel_rfl
theorem tbl_dst : (tbl.all fun o => match o with | some ir => dstOk ir.ntmps ir.body | none => true) = true := by kernel_rfl
end T10
