/- Parts of the proof, one behind the other. -/
import Derived.Test.YtgpfcgpgbflpgaaK10xf
import Derived.Test.YtgpfcgpgbflpgaaRows
import Derived.ProofKit
/- SchemaExamples returns true for every input. -/
namespace Go.Proofs.Ytgpfcgpgbflpgaa
open Go Fw Go.RowKit Go.ChangeShapes Go.WideShapes Go.ChangeAt
theorem Try.own4 : ownKnob Try.prog.godebug = none := by kernel_rfl
theorem Try.laidOut4 : laidOutB Try.prog = true := by kernel_rfl
set_option maxRecDepth 100000 in
theorem schemaExamples_lifted (os : Os) (started : os.Started) (H : Type) (enc : TypeId × Value → H) :
    ReturnsInHanded {} Try.checked os 4 .any (Rows.schemaExamplesSpec.pre6 enc Try.prog Try.f4 Rows.schemaExamplesRow.domain false) (Rows.schemaExamplesSpec.post enc Try.prog Try.f4 false true false false) := by
  refine law_lifted (C := Try.checked) (S := [26, 55, 9, 53, 3]) (tb := 4) Try.own4 started (by kernel_rfl) Try.func4
    (ChangeSpec.witness6 (enc := enc) (C := Try.checked) false ⟨#[], #[.slice none 0 0, .int .i64 0], []⟩ 8 (by kernel_rfl) (by kernel_rfl) (by kernel_rfl) (by kernel_rfl)) Try.laidOut4 T10.cxp (fun _ => rfl) rfl (by kernel_rfl) ?_ rfl rfl ?_ ?_ T10.hlaw4
  · intro t ht
    rw [show Try.f4.params.toList = [26, 3] from rfl] at ht
    simp only [List.mem_cons, List.not_mem_nil, or_false] at ht
    rcases ht with rfl | rfl
    · exact ⟨by simp, by kernel_rfl, of_decide_eq_true (by kernel_rfl)⟩
    · exact ⟨by simp, by kernel_rfl, of_decide_eq_true (by kernel_rfl)⟩
  · exact Try.underlying4
  · intro ds hds
    match ds, hds with
    | [d1, d2], _ => rfl
theorem schemaExamples_holds : Rows.SchemaExamplesSaid :=
  OpenClaim.holds_of_wide 4 Try.f4 rfl rfl rfl rfl rfl rfl rfl ⟨rfl, rfl, rfl, rfl, rfl⟩ rfl rfl rfl rfl rfl (by kernel_rfl) Try.func4 (by kernel_rfl)
    (of_decide_eq_true (by kernel_rfl)) (by unfold Func.isWrapper; first | (rw [if_pos (by decide +kernel)]; kernel_rfl) | (rw [if_neg (by decide +kernel)]; exact ⟨rfl, rfl⟩))
    (fun os started H enc _ => schemaExamples_lifted os started H enc)
end Go.Proofs.Ytgpfcgpgbflpgaa
