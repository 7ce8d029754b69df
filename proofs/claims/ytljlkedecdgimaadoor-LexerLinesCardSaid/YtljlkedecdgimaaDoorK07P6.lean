/- Parts of the proof, one behind the other. -/
import Derived.Test.YtljlkedecdgimaaDoorK07l
import Derived.Test.YtljlkedecdgimaaDoorK07d
import Derived.Test.YtljlkedecdgimaaDoorCards
import Derived.Test.YtljlkedecdgimaaDoorTie
import Derived.ProofKit
import Derived.Lay
import Derived.SevenTiedAt
set_option linter.unusedSimpArgs false
set_option linter.unusedVariables false
/- LexerLines returns true for every input; its card, with what it lists tied to the program's text. -/
namespace Go.Proofs.YtljlkedecdgimaaDoor
open Go Fw Go.RowKit Go.ChangeShapes Go.WideShapes Go.ChangeAt
set_option maxRecDepth 100000
theorem Tryd.own6 : ownKnob Tryd.prog.godebug = none := by kernel_rfl
theorem Tryd.laidOut6 : laidOutB Tryd.prog = true := by kernel_rfl
theorem lexerLines_lifted (os : Os) (started : os.Started) (H : Type) (enc : TypeId × Value → H) :
    ReturnsInHanded {} Tryd.checked os 6 .any (fun w args => (Rows.lexerLinesSpec.pre enc Tryd.prog Tryd.f6 Rows.lexerLinesRow.domain false w args ∧ laidMetH Tryd.prog Rows.lexerLinesRow.laid w) ∧ sizedMet enc Tryd.prog Tryd.f6 (OpenSpec.ofChange Rows.lexerLinesSpec) false w args) (Rows.lexerLinesSpec.post enc Tryd.prog Tryd.f6 false true false false) := by
  refine law_lifted_laid (C := Tryd.checked) (L := Rows.lexerLinesRow.laid) (S := [9]) (tb := 4) Tryd.own6 started (by kernel_rfl) Tryd.func6
    (ChangeSpec.witness_shaped (enc := enc) (C := Tryd.checked) (os := os) (X := fun w _ => laidMetH Tryd.prog Rows.lexerLinesRow.laid w) false (World.laidAll Tryd.prog os Rows.lexerLinesRow.laid) #[.string ⟨#[]⟩] 8 (World.laidAll_os _ _ _)
      (World.shaped_of_ZipB (by kernel_rfl) (by kernel_rfl)) (by kernel_rfl) (by kernel_rfl) (by kernel_rfl)
      (by rw [MakeChecks.laidMetH_plain _ _ _ (by kernel_rfl)]; exact laidMet_laidAll _ (by kernel_rfl) (by kernel_rfl))) Tryd.laidOut6 T07.cxp T07.hgl rfl (by kernel_rfl) ?_ rfl rfl ?_ ?_ T07.hlaw6
  · intro t ht
    rw [show Tryd.f6.params.toList = [9] from rfl] at ht
    simp only [List.mem_cons, List.not_mem_nil, or_false] at ht
    subst ht
    · exact ⟨by simp, by kernel_rfl, of_decide_eq_true (by kernel_rfl)⟩
  · exact Tryd.underlying4
  · intro ds hds
    match ds, hds with
    | [d1], _ => rfl
theorem lexerLines_holds : Rows.LexerLinesSaid :=
  OpenClaim.holds_of_wide 6 Tryd.f6 rfl rfl rfl rfl rfl rfl rfl ⟨rfl, rfl, rfl, rfl, rfl⟩ rfl rfl rfl rfl rfl (by kernel_rfl) Tryd.func6 (by kernel_rfl)
    (of_decide_eq_true (by kernel_rfl)) (by unfold Func.isWrapper; first | (rw [if_pos (by decide +kernel)]; kernel_rfl) | (rw [if_neg (by decide +kernel)]; exact ⟨rfl, rfl⟩))
    (fun os started H enc _ => lexerLines_lifted os started H enc)
theorem lexerLines_card : Rows.LexerLinesCardSaid :=
  Claim7.holds_tied_plain_at .later [] [.data, .data, .data, .data, .sentinel, .sentinel, .pinned] true (true, "891b6c0a8d96f652c173ebf1d5bf13caeb06b7d0c70ebaa3239b4e899a7227b4") true
    lexerLines_holds (fun _ h => by cases h) (by kernel_rfl) (fun _ h => by cases h) lexerLines_row_tie rfl ⟨rfl, rfl⟩ (by kernel_rfl) rfl
    (fun f fn hf hfn => by
      obtain rfl : f = 6 := Option.some.inj ((show Tryd.prog.funcNamed "plenum/plenumlaw07.LexerLines" = some 6 by kernel_rfl).symm.trans hf) |>.symm
      obtain rfl : fn = Tryd.f6 := (Option.some.inj (Tryd.func6.symm.trans hfn)).symm
      exact ⟨by kernel_rfl, fun j t ht => by
        rw [show Tryd.f6.params = #[9] from rfl] at ht
        have hm : t ∈ [9] := by simpa using Array.mem_of_getElem? ht
        have hall : ([9].all fun u => !Tryd.prog.wantsStandIn u) = true := by kernel_rfl
        exact (show Tryd.prog.wantsStandIn t = false by simpa using List.all_eq_true.1 hall t hm)⟩)
    (by kernel_rfl)
end Go.Proofs.YtljlkedecdgimaaDoor
