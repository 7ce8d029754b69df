/- Parts of the proof, one behind the other. -/
import Derived.Test.YtljlkedecdgimaaDoorK07t
import Derived.Test.YtljlkedecdgimaaDoorCards
import Derived.Test.YtljlkedecdgimaaDoorTie
import Derived.ProofKit
import Derived.Lay
import Derived.SevenTiedAt
set_option linter.unusedSimpArgs false
set_option linter.unusedVariables false
/- LexerComments returns true for every input; its card, with what it lists tied to the program's text. -/
namespace Go.Proofs.YtljlkedecdgimaaDoor
open Go Fw Go.RowKit Go.ChangeShapes Go.WideShapes Go.ChangeAt
set_option maxRecDepth 100000
theorem Tryd.own5 : ownKnob Tryd.prog.godebug = none := by kernel_rfl
theorem Tryd.laidOut5 : laidOutB Tryd.prog = true := by kernel_rfl
theorem lexerComments_lifted (os : Os) (started : os.Started) (H : Type) (enc : TypeId × Value → H) :
    ReturnsInHanded {} Tryd.checked os 5 .any (fun w args => (Rows.lexerCommentsSpec.pre enc Tryd.prog Tryd.f5 Rows.lexerCommentsRow.domain false w args ∧ laidMetH Tryd.prog Rows.lexerCommentsRow.laid w) ∧ sizedMet enc Tryd.prog Tryd.f5 (OpenSpec.ofChange Rows.lexerCommentsSpec) false w args) (Rows.lexerCommentsSpec.post enc Tryd.prog Tryd.f5 false true false false) := by
  refine law_lifted_laid (C := Tryd.checked) (L := Rows.lexerCommentsRow.laid) (S := [9, 3]) (tb := 4) Tryd.own5 started (by kernel_rfl) Tryd.func5
    (ChangeSpec.witness_shaped (enc := enc) (C := Tryd.checked) (os := os) (X := fun w _ => laidMetH Tryd.prog Rows.lexerCommentsRow.laid w) false (World.laidAll Tryd.prog os Rows.lexerCommentsRow.laid) #[.string ⟨#[]⟩, .string ⟨#[]⟩, .int .i64 0] 8 (World.laidAll_os _ _ _)
      (World.shaped_of_ZipB (by kernel_rfl) (by kernel_rfl)) (by kernel_rfl) (by kernel_rfl) (by kernel_rfl)
      (by rw [MakeChecks.laidMetH_plain _ _ _ (by kernel_rfl)]; exact laidMet_laidAll _ (by kernel_rfl) (by kernel_rfl))) Tryd.laidOut5 T07.cxp T07.hgl rfl (by kernel_rfl) ?_ rfl rfl ?_ ?_ T07.hlaw5
  · intro t ht
    rw [show Tryd.f5.params.toList = [9, 9, 3] from rfl] at ht
    simp only [List.mem_cons, List.not_mem_nil, or_false, or_self_left, or_self] at ht
    rcases ht with rfl | rfl
    · exact ⟨by simp, by kernel_rfl, of_decide_eq_true (by kernel_rfl)⟩
    · exact ⟨by simp, by kernel_rfl, of_decide_eq_true (by kernel_rfl)⟩
  · exact Tryd.underlying4
  · intro ds hds
    match ds, hds with
    | [d1, d2, d3], _ => rfl
theorem lexerComments_holds : Rows.LexerCommentsSaid :=
  OpenClaim.holds_of_wide 5 Tryd.f5 rfl rfl rfl rfl rfl rfl rfl ⟨rfl, rfl, rfl, rfl, rfl⟩ rfl rfl rfl rfl rfl (by kernel_rfl) Tryd.func5 (by kernel_rfl)
    (of_decide_eq_true (by kernel_rfl)) (by unfold Func.isWrapper; first | (rw [if_pos (by decide +kernel)]; kernel_rfl) | (rw [if_neg (by decide +kernel)]; exact ⟨rfl, rfl⟩))
    (fun os started H enc _ => lexerComments_lifted os started H enc)
theorem lexerComments_card : Rows.LexerCommentsCardSaid :=
  Claim7.holds_tied_plain_at .later [] [.data, .data, .data, .data, .sentinel, .sentinel, .pinned] true (true, "891b6c0a8d96f652c173ebf1d5bf13caeb06b7d0c70ebaa3239b4e899a7227b4") true
    lexerComments_holds (fun _ h => by cases h) (by kernel_rfl) (fun _ h => by cases h) lexerComments_row_tie rfl ⟨rfl, rfl⟩ (by kernel_rfl) rfl
    (fun f fn hf hfn => by
      obtain rfl : f = 5 := Option.some.inj ((show Tryd.prog.funcNamed "plenum/plenumlaw07.LexerComments" = some 5 by kernel_rfl).symm.trans hf) |>.symm
      obtain rfl : fn = Tryd.f5 := (Option.some.inj (Tryd.func5.symm.trans hfn)).symm
      exact ⟨by kernel_rfl, fun j t ht => by
        rw [show Tryd.f5.params = #[9, 9, 3] from rfl] at ht
        have hm : t ∈ [9, 9, 3] := by simpa using Array.mem_of_getElem? ht
        have hall : ([9, 9, 3].all fun u => !Tryd.prog.wantsStandIn u) = true := by kernel_rfl
        exact (show Tryd.prog.wantsStandIn t = false by simpa using List.all_eq_true.1 hall t hm)⟩)
    (by kernel_rfl)
end Go.Proofs.YtljlkedecdgimaaDoor
