/- Parts of the proof, one behind the other. -/
import Derived.Test.YtgpfcgpgbflpgaaK10w2
import Derived.Test.YtgpfcgpgbflpgaaRows
import Derived.ProofKit
/- SchemaLess returns true for every input. -/
namespace Go.Proofs.Ytgpfcgpgbflpgaa
open Go Fw Go.RowKit Go.ChangeShapes Go.WideShapes Go.ChangeAt
theorem Try.own8 : ownKnob Try.prog.godebug = none := by kernel_rfl
theorem Try.laidOut8 : laidOutB Try.prog = true := by kernel_rfl
set_option maxRecDepth 100000 in
theorem schemaLess_lifted (os : Os) (started : os.Started) (H : Type) (enc : TypeId × Value → H) :
    ReturnsInHanded {} Try.checked os 8 .any (Rows.schemaLessSpec.pre6 enc Try.prog Try.f8 Rows.schemaLessRow.domain false) (Rows.schemaLessSpec.post enc Try.prog Try.f8 false true false false) := by
  refine law_lifted (C := Try.checked) (S := [26, 55, 9, 53, 3, 30, 49, 47, 4, 23, 2]) (tb := 4) Try.own8 started (by kernel_rfl) Try.func8
    (ChangeSpec.witness6 (enc := enc) (C := Try.checked) false ⟨#[], #[.slice none 0 0, .slice none 0 0, .int .i64 0], []⟩ 8 (by kernel_rfl) (by kernel_rfl) (by kernel_rfl) (by kernel_rfl)) Try.laidOut8 T10.cxp (fun _ => rfl) rfl (by kernel_rfl) ?_ rfl rfl ?_ ?_ T10.hlaw8
  · intro t ht
    rw [show Try.f8.params.toList = [26, 30, 3] from rfl] at ht
    simp only [List.mem_cons, List.not_mem_nil, or_false] at ht
    rcases ht with rfl | rfl | rfl
    · exact ⟨by simp, by kernel_rfl, of_decide_eq_true (by kernel_rfl)⟩
    · exact ⟨by simp, by kernel_rfl, of_decide_eq_true (by kernel_rfl)⟩
    · exact ⟨by simp, by kernel_rfl, of_decide_eq_true (by kernel_rfl)⟩
  · exact Try.underlying4
  · intro ds hds
    match ds, hds with
    | [d1, d2, d3], _ => rfl
theorem schemaLess_holds : Rows.SchemaLessSaid :=
  OpenClaim.holds_of_wide 8 Try.f8 rfl rfl rfl rfl rfl rfl rfl ⟨rfl, rfl, rfl, rfl, rfl⟩ rfl rfl rfl rfl rfl (by kernel_rfl) Try.func8 (by kernel_rfl)
    (of_decide_eq_true (by kernel_rfl)) (by unfold Func.isWrapper; first | (rw [if_pos (by decide +kernel)]; kernel_rfl) | (rw [if_neg (by decide +kernel)]; exact ⟨rfl, rfl⟩))
    (fun os started H enc _ => schemaLess_lifted os started H enc)
end Go.Proofs.Ytgpfcgpgbflpgaa
