/- Parts of the proof, one behind the other. -/
import Derived.Test.YteaoeaapmjeciaaDoorK08e
import Derived.Test.YteaoeaapmjeciaaDoorCards
import Derived.Test.YteaoeaapmjeciaaDoorTie
import Derived.ProofKit
import Derived.Lay
import Derived.SevenTiedAt
set_option linter.unusedSimpArgs false
set_option linter.unusedVariables false
/- ParserFlattens returns true for every input; its card, with what it lists tied to the program's text. -/
namespace Go.Proofs.YteaoeaapmjeciaaDoor
open Go Fw Go.RowKit Go.ChangeShapes Go.WideShapes Go.ChangeAt
set_option maxRecDepth 100000
theorem Tryd.own3 : ownKnob Tryd.prog.godebug = none := by kernel_rfl
theorem Tryd.laidOut3 : laidOutB Tryd.prog = true := by kernel_rfl
theorem parserFlattens_lifted (os : Os) (started : os.Started) (H : Type) (enc : TypeId × Value → H) :
    ReturnsInHanded {} Tryd.checked os 3 .any (fun w args => (Rows.parserFlattensSpec.pre enc Tryd.prog Tryd.f3 Rows.parserFlattensRow.domain false w args ∧ laidMetH Tryd.prog Rows.parserFlattensRow.laid w) ∧ sizedMet enc Tryd.prog Tryd.f3 (OpenSpec.ofChange Rows.parserFlattensSpec) false w args) (Rows.parserFlattensSpec.post enc Tryd.prog Tryd.f3 false true false false) := by
  refine law_lifted_laid (C := Tryd.checked) (L := Rows.parserFlattensRow.laid) (S := [22, 50, 44, 63, 9, 3, 2, 4]) (tb := 4) Tryd.own3 started (by kernel_rfl) Tryd.func3
    (ChangeSpec.witness_shaped (enc := enc) (C := Tryd.checked) (os := os) (X := fun w _ => laidMetH Tryd.prog Rows.parserFlattensRow.laid w) false (World.laidAll Tryd.prog os Rows.parserFlattensRow.laid) #[.slice none 0 0] 8 (World.laidAll_os _ _ _)
      (World.shaped_of_ZipB (by kernel_rfl) (by kernel_rfl)) (by kernel_rfl) (by kernel_rfl) (by kernel_rfl)
      (by rw [MakeChecks.laidMetH_plain _ _ _ (by kernel_rfl)]; exact laidMet_laidAll _ (by kernel_rfl) (by kernel_rfl))) Tryd.laidOut3 T08.cxp T08.hgl rfl (by kernel_rfl) ?_ rfl rfl ?_ ?_ T08.hlaw3
  · intro t ht
    rw [show Tryd.f3.params.toList = [22] from rfl] at ht
    simp only [List.mem_cons, List.not_mem_nil, or_false] at ht
    subst ht
    · exact ⟨by simp, by kernel_rfl, of_decide_eq_true (by kernel_rfl)⟩
  · exact Tryd.underlying4
  · intro ds hds
    match ds, hds with
    | [d1], _ => rfl
theorem parserFlattens_holds : Rows.ParserFlattensSaid :=
  OpenClaim.holds_of_wide 3 Tryd.f3 rfl rfl rfl rfl rfl rfl rfl ⟨rfl, rfl, rfl, rfl, rfl⟩ rfl rfl rfl rfl rfl (by kernel_rfl) Tryd.func3 (by kernel_rfl)
    (of_decide_eq_true (by kernel_rfl)) (by unfold Func.isWrapper; first | (rw [if_pos (by decide +kernel)]; kernel_rfl) | (rw [if_neg (by decide +kernel)]; exact ⟨rfl, rfl⟩))
    (fun os started H enc _ => parserFlattens_lifted os started H enc)
theorem parserFlattens_card : Rows.ParserFlattensCardSaid :=
  Claim7.holds_tied_plain_at .later [] [.data, .data, .data, .data, .sentinel, .sentinel, .pinned] true (true, "89e1147c7b3f1eaba5187808da0750baef7459daabfb3ac609fca8eef5a419bf") true
    parserFlattens_holds (fun _ h => by cases h) (by kernel_rfl) (fun _ h => by cases h) parserFlattens_row_tie rfl ⟨rfl, rfl⟩ (by kernel_rfl) rfl
    (fun f fn hf hfn => by
      obtain rfl : f = 3 := Option.some.inj ((show Tryd.prog.funcNamed "plenum/plenumlaw08.ParserFlattens" = some 3 by kernel_rfl).symm.trans hf) |>.symm
      obtain rfl : fn = Tryd.f3 := (Option.some.inj (Tryd.func3.symm.trans hfn)).symm
      exact ⟨by kernel_rfl, fun j t ht => by
        rw [show Tryd.f3.params = #[22] from rfl] at ht
        have hm : t ∈ [22] := by simpa using Array.mem_of_getElem? ht
        have hall : ([22].all fun u => !Tryd.prog.wantsStandIn u) = true := by kernel_rfl
        exact (show Tryd.prog.wantsStandIn t = false by simpa using List.all_eq_true.1 hall t hm)⟩)
    (by kernel_rfl)
end Go.Proofs.YteaoeaapmjeciaaDoor
