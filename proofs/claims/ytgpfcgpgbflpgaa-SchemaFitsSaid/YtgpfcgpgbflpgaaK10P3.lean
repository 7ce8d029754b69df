/- SchemaFits returns true for every input. -/
import Derived.Test.YtgpfcgpgbflpgaaK10L3
import Derived.Test.YtgpfcgpgbflpgaaRows
import Derived.ProofKit
namespace Go.Proofs.Ytgpfcgpgbflpgaa
open Go Fw Go.RowKit Go.ChangeShapes Go.WideShapes Go.ChangeAt
theorem Try.own : ownKnob Try.prog.godebug = none := by kernel_rfl
theorem Try.laidOut : laidOutB Try.prog = true := by kernel_rfl
set_option maxRecDepth 100000 in
theorem schemaFits_lifted (os : Os) (started : os.Started) (H : Type) (enc : TypeId × Value → H) :
    ReturnsInHanded {} Try.checked os 3 .any (Rows.schemaFitsSpec.pre6 enc Try.prog Try.f3 Rows.schemaFitsRow.domain false) (Rows.schemaFitsSpec.post enc Try.prog Try.f3 false true false false) := by
  refine law_lifted (C := Try.checked) (S := [3, 9, 2, 23]) (tb := 4) Try.own started (by kernel_rfl) Try.func3
    (ChangeSpec.witness6 (enc := enc) (C := Try.checked) false ⟨#[], #[.string .empty, .agg #[.int .i64 0, .string .empty, .int .i64 0, .int .i64 0]], []⟩ 8 (by kernel_rfl) (by kernel_rfl) (by kernel_rfl) (by kernel_rfl)) Try.laidOut T10.cxp (fun _ => rfl) rfl (by kernel_rfl) ?_ rfl rfl ?_ ?_ T10.hlaw
  · intro t ht
    rw [show Try.f3.params.toList = [9, 23] from rfl] at ht
    simp only [List.mem_cons, List.not_mem_nil, or_false] at ht
    rcases ht with rfl | rfl
    · exact ⟨by simp, by kernel_rfl, of_decide_eq_true (by kernel_rfl)⟩
    · exact ⟨by simp, by kernel_rfl, of_decide_eq_true (by kernel_rfl)⟩
  · exact Try.underlying4
  · intro ds hds
    match ds, hds with
    | [d1, d2], _ => rfl
theorem schemaFits_holds : Rows.SchemaFitsSaid :=
  OpenClaim.holds_of_wide 3 Try.f3 rfl rfl rfl rfl rfl rfl rfl ⟨rfl, rfl, rfl, rfl, rfl⟩ rfl rfl rfl rfl rfl (by kernel_rfl) Try.func3 (by kernel_rfl)
    (of_decide_eq_true (by kernel_rfl)) (by unfold Func.isWrapper; first | (rw [if_pos (by decide +kernel)]; kernel_rfl) | (rw [if_neg (by decide +kernel)]; exact ⟨rfl, rfl⟩))
    (fun os started H enc _ => schemaFits_lifted os started H enc)
#print axioms schemaFits_holds
end Go.Proofs.Ytgpfcgpgbflpgaa
