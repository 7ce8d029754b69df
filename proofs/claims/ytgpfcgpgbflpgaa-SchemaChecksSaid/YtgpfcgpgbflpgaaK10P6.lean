/- SchemaChecks returns true for every input. -/
import Derived.Test.YtgpfcgpgbflpgaaK10n
import Derived.Test.YtgpfcgpgbflpgaaRows
import Derived.ProofKit
namespace Go.Proofs.Ytgpfcgpgbflpgaa
open Go Fw Go.RowKit Go.ChangeShapes Go.WideShapes Go.ChangeAt
theorem Try.own6 : ownKnob Try.prog.godebug = none := by kernel_rfl
theorem Try.laidOut6 : laidOutB Try.prog = true := by kernel_rfl
set_option maxRecDepth 100000 in
theorem schemaChecks_lifted (os : Os) (started : os.Started) (H : Type) (enc : TypeId × Value → H) :
    ReturnsInHanded {} Try.checked os 6 .any (Rows.schemaChecksSpec.pre6 enc Try.prog Try.f6 Rows.schemaChecksRow.domain false) (Rows.schemaChecksSpec.post enc Try.prog Try.f6 false true false false) := by
  refine law_lifted (C := Try.checked) (S := [26, 55, 9, 53, 3]) (tb := 4) Try.own6 started (by kernel_rfl) Try.func6
    (ChangeSpec.witness6 (enc := enc) (C := Try.checked) false ⟨#[], #[.slice none 0 0], []⟩ 8 (by kernel_rfl) (by kernel_rfl) (by kernel_rfl) (by kernel_rfl)) Try.laidOut6 T10.cxp (fun _ => rfl) rfl (by kernel_rfl) ?_ rfl rfl ?_ ?_ T10.hlaw6
  · intro t ht
    rw [show Try.f6.params.toList = [26] from rfl] at ht
    simp only [List.mem_cons, List.not_mem_nil, or_false] at ht
    subst ht
    · exact ⟨by simp, by kernel_rfl, of_decide_eq_true (by kernel_rfl)⟩
  · exact Try.underlying4
  · intro ds hds
    match ds, hds with
    | [d1], _ => rfl
theorem schemaChecks_holds : Rows.SchemaChecksSaid :=
  OpenClaim.holds_of_wide 6 Try.f6 rfl rfl rfl rfl rfl rfl rfl ⟨rfl, rfl, rfl, rfl, rfl⟩ rfl rfl rfl rfl rfl (by kernel_rfl) Try.func6 (by kernel_rfl)
    (of_decide_eq_true (by kernel_rfl)) (by unfold Func.isWrapper; first | (rw [if_pos (by decide +kernel)]; kernel_rfl) | (rw [if_neg (by decide +kernel)]; exact ⟨rfl, rfl⟩))
    (fun os started H enc _ => schemaChecks_lifted os started H enc)
end Go.Proofs.Ytgpfcgpgbflpgaa
