/- Parts of the proof, one behind the other. -/
import Derived.Test.YteaoeaapmjeciaaDoorK28l
import Derived.Test.YteaoeaapmjeciaaDoorK08d
import Derived.Test.YteaoeaapmjeciaaDoorCards
import Derived.Test.YteaoeaapmjeciaaDoorTie
import Derived.ProofKit
import Derived.Lay
import Derived.SevenTiedAt
set_option linter.unusedSimpArgs false
set_option linter.unusedVariables false
/- ParserLines returns true for every input; its card, with what it lists tied to the program's text. -/
namespace Go.Proofs.YteaoeaapmjeciaaDoor
open Go Fw Go.RowKit Go.ChangeShapes Go.WideShapes Go.ChangeAt
set_option maxRecDepth 100000
theorem Tryd.own5 : ownKnob Tryd.prog.godebug = none := by kernel_rfl
theorem Tryd.laidOut5 : laidOutB Tryd.prog = true := by kernel_rfl
theorem parserLines_lifted (os : Os) (started : os.Started) (H : Type) (enc : TypeId × Value → H) :
    ReturnsInHanded {} Tryd.checked os 5 .any (fun w args => (Rows.parserLinesSpec.pre enc Tryd.prog Tryd.f5 Rows.parserLinesRow.domain false w args ∧ laidMetH Tryd.prog Rows.parserLinesRow.laid w) ∧ sizedMet enc Tryd.prog Tryd.f5 (OpenSpec.ofChange Rows.parserLinesSpec) false w args) (Rows.parserLinesSpec.post enc Tryd.prog Tryd.f5 false true false false) := by
  refine law_lifted_laid (C := Tryd.checked) (L := Rows.parserLinesRow.laid) (S := [9]) (tb := 4) Tryd.own5 started (by kernel_rfl) Tryd.func5
    (ChangeSpec.witness_shaped (enc := enc) (C := Tryd.checked) (os := os) (X := fun w _ => laidMetH Tryd.prog Rows.parserLinesRow.laid w) false (World.laidAll Tryd.prog os Rows.parserLinesRow.laid) #[.string ⟨#[]⟩] 8 (World.laidAll_os _ _ _)
      (World.shaped_of_ZipB (by kernel_rfl) (by kernel_rfl)) (by kernel_rfl) (by kernel_rfl) (by kernel_rfl)
      (by rw [MakeChecks.laidMetH_plain _ _ _ (by kernel_rfl)]; exact laidMet_laidAll _ (by kernel_rfl) (by kernel_rfl))) Tryd.laidOut5 T08.cxp T08.hgl rfl (by kernel_rfl) ?_ rfl rfl ?_ ?_ T08.hlaw5
  · intro t ht
    rw [show Tryd.f5.params.toList = [9] from rfl] at ht
    simp only [List.mem_cons, List.not_mem_nil, or_false] at ht
    subst ht
    · exact ⟨by simp, by kernel_rfl, of_decide_eq_true (by kernel_rfl)⟩
  · exact Tryd.underlying4
  · intro ds hds
    match ds, hds with
    | [d1], _ => rfl
theorem parserLines_holds : Rows.ParserLinesSaid :=
  OpenClaim.holds_of_wide 5 Tryd.f5 rfl rfl rfl rfl rfl rfl rfl ⟨rfl, rfl, rfl, rfl, rfl⟩ rfl rfl rfl rfl rfl (by kernel_rfl) Tryd.func5 (by kernel_rfl)
    (of_decide_eq_true (by kernel_rfl)) (by unfold Func.isWrapper; first | (rw [if_pos (by decide +kernel)]; kernel_rfl) | (rw [if_neg (by decide +kernel)]; exact ⟨rfl, rfl⟩))
    (fun os started H enc _ => parserLines_lifted os started H enc)
theorem parserLines_card : Rows.ParserLinesCardSaid :=
  Claim7.holds_tied_plain_at .later [] [.data, .data, .data, .data, .sentinel, .sentinel, .pinned] true (true, "89e1147c7b3f1eaba5187808da0750baef7459daabfb3ac609fca8eef5a419bf") true
    parserLines_holds (fun _ h => by cases h) (by kernel_rfl) (fun _ h => by cases h) parserLines_row_tie rfl ⟨rfl, rfl⟩ (by kernel_rfl) rfl
    (fun f fn hf hfn => by
      obtain rfl : f = 5 := Option.some.inj ((show Tryd.prog.funcNamed "plenum/plenumlaw08.ParserLines" = some 5 by kernel_rfl).symm.trans hf) |>.symm
      obtain rfl : fn = Tryd.f5 := (Option.some.inj (Tryd.func5.symm.trans hfn)).symm
      exact ⟨by kernel_rfl, fun j t ht => by
        rw [show Tryd.f5.params = #[9] from rfl] at ht
        have hm : t ∈ [9] := by simpa using Array.mem_of_getElem? ht
        have hall : ([9].all fun u => !Tryd.prog.wantsStandIn u) = true := by kernel_rfl
        exact (show Tryd.prog.wantsStandIn t = false by simpa using List.all_eq_true.1 hall t hm)⟩)
    (by kernel_rfl)
end Go.Proofs.YteaoeaapmjeciaaDoor
