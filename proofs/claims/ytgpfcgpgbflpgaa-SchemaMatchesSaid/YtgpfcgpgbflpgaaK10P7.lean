/- Parts of the proof, one behind the other. -/
import Derived.Test.YtgpfcgpgbflpgaaK10zc
import Derived.Test.YtgpfcgpgbflpgaaRows
import Derived.ProofKit
/- SchemaMatches returns true for every input. -/
namespace Go.Proofs.Ytgpfcgpgbflpgaa
open Go Fw Go.RowKit Go.ChangeShapes Go.WideShapes Go.ChangeAt
theorem Try.own7 : ownKnob Try.prog.godebug = none := by kernel_rfl
theorem Try.laidOut7 : laidOutB Try.prog = true := by kernel_rfl
set_option maxRecDepth 100000 in
theorem schemaMatches_lifted (os : Os) (started : os.Started) (H : Type) (enc : TypeId × Value → H) :
    ReturnsInHanded {} Try.checked os 7 .any (Rows.schemaMatchesSpec.pre6 enc Try.prog Try.f7 Rows.schemaMatchesRow.domain false) (Rows.schemaMatchesSpec.post enc Try.prog Try.f7 false true false false) := by
  refine law_lifted (C := Try.checked) (S := [26, 55, 9, 53, 3, 30, 49, 47, 4, 23, 2]) (tb := 4) Try.own7 started (by kernel_rfl) Try.func7
    (ChangeSpec.witness6 (enc := enc) (C := Try.checked) false ⟨#[], #[.slice none 0 0, .slice none 0 0], []⟩ 8 (by kernel_rfl) (by kernel_rfl) (by kernel_rfl) (by kernel_rfl)) Try.laidOut7 T10.cxp (fun _ => rfl) rfl (by kernel_rfl) ?_ rfl rfl ?_ ?_ T10.hlaw7
  · intro t ht
    rw [show Try.f7.params.toList = [26, 30] from rfl] at ht
    simp only [List.mem_cons, List.not_mem_nil, or_false] at ht
    rcases ht with rfl | rfl
    · exact ⟨by simp, by kernel_rfl, of_decide_eq_true (by kernel_rfl)⟩
    · exact ⟨by simp, by kernel_rfl, of_decide_eq_true (by kernel_rfl)⟩
  · exact Try.underlying4
  · intro ds hds
    match ds, hds with
    | [d1, d2], _ => rfl
theorem schemaMatches_holds : Rows.SchemaMatchesSaid :=
  OpenClaim.holds_of_wide 7 Try.f7 rfl rfl rfl rfl rfl rfl rfl ⟨rfl, rfl, rfl, rfl, rfl⟩ rfl rfl rfl rfl rfl (by kernel_rfl) Try.func7 (by kernel_rfl)
    (of_decide_eq_true (by kernel_rfl)) (by unfold Func.isWrapper; first | (rw [if_pos (by decide +kernel)]; kernel_rfl) | (rw [if_neg (by decide +kernel)]; exact ⟨rfl, rfl⟩))
    (fun os started H enc _ => schemaMatches_lifted os started H enc)
end Go.Proofs.Ytgpfcgpgbflpgaa
