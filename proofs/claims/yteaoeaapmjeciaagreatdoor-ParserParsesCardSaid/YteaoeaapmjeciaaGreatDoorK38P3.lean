/- Parts of the proof, one behind the other. -/
import Derived.Test.YteaoeaapmjeciaaGreatDoorK38w
import Derived.Test.YteaoeaapmjeciaaGreatDoorK18d
import Derived.Test.YteaoeaapmjeciaaGreatDoorCards
import Derived.Test.YteaoeaapmjeciaaGreatDoorTie
import Derived.ProofKit
import Derived.Lay
import Derived.SevenTiedAt
set_option linter.unusedSimpArgs false
set_option linter.unusedVariables false
/- ParserParses returns true for every input; its card, with what it lists tied to the program's text. -/
namespace Go.Proofs.YteaoeaapmjeciaaGreatDoor
open Go Fw Go.RowKit Go.ChangeShapes Go.WideShapes Go.ChangeAt
set_option maxRecDepth 100000
theorem Tryz.own3 : ownKnob Tryz.prog.godebug = none := by kernel_rfl
theorem Tryz.laidOut3 : laidOutB Tryz.prog = true := by kernel_rfl
theorem parserParses_lifted (os : Os) (started : os.Started) (H : Type) (enc : TypeId × Value → H) :
    ReturnsInHanded {} Tryz.checked os 3 .any (fun w args => (Rows.parserParsesSpec.pre enc Tryz.prog Tryz.f3 Rows.parserParsesRow.domain false w args ∧ laidMetH Tryz.prog Rows.parserParsesRow.laid w) ∧ sizedMet enc Tryz.prog Tryz.f3 (OpenSpec.ofChange Rows.parserParsesSpec) false w args) (Rows.parserParsesSpec.post enc Tryz.prog Tryz.f3 false true false false) := by
  refine law_lifted_laid (C := Tryz.checked) (L := Rows.parserParsesRow.laid) (S := [9]) (tb := 4) Tryz.own3 started (by kernel_rfl) Tryz.func3
    (ChangeSpec.witness_shaped (enc := enc) (C := Tryz.checked) (os := os) (X := fun w _ => laidMetH Tryz.prog Rows.parserParsesRow.laid w) false (World.laidAll Tryz.prog os Rows.parserParsesRow.laid) #[.string ⟨#[]⟩] 8 (World.laidAll_os _ _ _)
      (World.shaped_of_ZipB (by kernel_rfl) (by kernel_rfl)) (by kernel_rfl) (by kernel_rfl) (by kernel_rfl)
      (by rw [MakeChecks.laidMetH_plain _ _ _ (by kernel_rfl)]; exact laidMet_laidAll _ (by kernel_rfl) (by kernel_rfl))) Tryz.laidOut3 T18.cxp T18.hgl rfl (by kernel_rfl) ?_ rfl rfl ?_ ?_ T18.hlaw3
  · intro t ht
    rw [show Tryz.f3.params.toList = [9] from rfl] at ht
    simp only [List.mem_cons, List.not_mem_nil, or_false] at ht
    subst ht
    · exact ⟨by simp, by kernel_rfl, of_decide_eq_true (by kernel_rfl)⟩
  · exact Tryz.underlying4
  · intro ds hds
    match ds, hds with
    | [d1], _ => rfl
theorem parserParses_holds : Rows.ParserParsesSaid :=
  OpenClaim.holds_of_wide 3 Tryz.f3 rfl rfl rfl rfl rfl rfl rfl ⟨rfl, rfl, rfl, rfl, rfl⟩ rfl rfl rfl rfl rfl (by kernel_rfl) Tryz.func3 (by kernel_rfl)
    (of_decide_eq_true (by kernel_rfl)) (by unfold Func.isWrapper; first | (rw [if_pos (by decide +kernel)]; kernel_rfl) | (rw [if_neg (by decide +kernel)]; exact ⟨rfl, rfl⟩))
    (fun os started H enc _ => parserParses_lifted os started H enc)
theorem parserParses_card : Rows.ParserParsesCardSaid :=
  Claim7.holds_tied_plain_at .later [] [.data, .data, .data, .data, .sentinel, .sentinel, .pinned] true (true, "52372131be61bbb7b8b368a6cb55de3e62631574638ee729b31b3832da6fc6de") true
    parserParses_holds (fun _ h => by cases h) (by kernel_rfl) (fun _ h => by cases h) parserParses_row_tie rfl ⟨rfl, rfl⟩ (by kernel_rfl) rfl
    (fun f fn hf hfn => by
      obtain rfl : f = 3 := Option.some.inj ((show Tryz.prog.funcNamed "plenum/plenumlaw08.ParserParses" = some 3 by kernel_rfl).symm.trans hf) |>.symm
      obtain rfl : fn = Tryz.f3 := (Option.some.inj (Tryz.func3.symm.trans hfn)).symm
      exact ⟨by kernel_rfl, fun j t ht => by
        rw [show Tryz.f3.params = #[9] from rfl] at ht
        have hm : t ∈ [9] := by simpa using Array.mem_of_getElem? ht
        have hall : ([9].all fun u => !Tryz.prog.wantsStandIn u) = true := by kernel_rfl
        exact (show Tryz.prog.wantsStandIn t = false by simpa using List.all_eq_true.1 hall t hm)⟩)
    (by kernel_rfl)
end Go.Proofs.YteaoeaapmjeciaaGreatDoor
