/- Parts of the proof, one behind the other. -/
import Derived.Test.YteaoeaapmjeciaaDoorK28n
import Derived.Test.YteaoeaapmjeciaaDoorK08d
import Derived.Test.YteaoeaapmjeciaaDoorCards
import Derived.Test.YteaoeaapmjeciaaDoorTie
import Derived.ProofKit
import Derived.Lay
import Derived.SevenTiedAt
set_option linter.unusedSimpArgs false
set_option linter.unusedVariables false
/- ParserUndoes returns true for every input; its card, with what it lists tied to the program's text. -/
namespace Go.Proofs.YteaoeaapmjeciaaDoor
open Go Fw Go.RowKit Go.ChangeShapes Go.WideShapes Go.ChangeAt
set_option maxRecDepth 100000
theorem Tryd.own7 : ownKnob Tryd.prog.godebug = none := by kernel_rfl
theorem Tryd.laidOut7 : laidOutB Tryd.prog = true := by kernel_rfl
theorem parserUndoes_lifted (os : Os) (started : os.Started) (H : Type) (enc : TypeId × Value → H) :
    ReturnsInHanded {} Tryd.checked os 7 .any (fun w args => (Rows.parserUndoesSpec.pre enc Tryd.prog Tryd.f7 Rows.parserUndoesRow.domain false w args ∧ laidMetH Tryd.prog Rows.parserUndoesRow.laid w) ∧ sizedMet enc Tryd.prog Tryd.f7 (OpenSpec.ofChange Rows.parserUndoesSpec) false w args) (Rows.parserUndoesSpec.post enc Tryd.prog Tryd.f7 false true false false) := by
  refine law_lifted_laid (C := Tryd.checked) (L := Rows.parserUndoesRow.laid) (S := [9]) (tb := 4) Tryd.own7 started (by kernel_rfl) Tryd.func7
    (ChangeSpec.witness_shaped (enc := enc) (C := Tryd.checked) (os := os) (X := fun w _ => laidMetH Tryd.prog Rows.parserUndoesRow.laid w) false (World.laidAll Tryd.prog os Rows.parserUndoesRow.laid) #[.string ⟨#[]⟩] 8 (World.laidAll_os _ _ _)
      (World.shaped_of_ZipB (by kernel_rfl) (by kernel_rfl)) (by kernel_rfl) (by kernel_rfl) (by kernel_rfl)
      (by rw [MakeChecks.laidMetH_plain _ _ _ (by kernel_rfl)]; exact laidMet_laidAll _ (by kernel_rfl) (by kernel_rfl))) Tryd.laidOut7 T08.cxp T08.hgl rfl (by kernel_rfl) ?_ rfl rfl ?_ ?_ T08.hlaw7
  · intro t ht
    rw [show Tryd.f7.params.toList = [9] from rfl] at ht
    simp only [List.mem_cons, List.not_mem_nil, or_false] at ht
    subst ht
    · exact ⟨by simp, by kernel_rfl, of_decide_eq_true (by kernel_rfl)⟩
  · exact Tryd.underlying4
  · intro ds hds
    match ds, hds with
    | [d1], _ => rfl
theorem parserUndoes_holds : Rows.ParserUndoesSaid :=
  OpenClaim.holds_of_wide 7 Tryd.f7 rfl rfl rfl rfl rfl rfl rfl ⟨rfl, rfl, rfl, rfl, rfl⟩ rfl rfl rfl rfl rfl (by kernel_rfl) Tryd.func7 (by kernel_rfl)
    (of_decide_eq_true (by kernel_rfl)) (by unfold Func.isWrapper; first | (rw [if_pos (by decide +kernel)]; kernel_rfl) | (rw [if_neg (by decide +kernel)]; exact ⟨rfl, rfl⟩))
    (fun os started H enc _ => parserUndoes_lifted os started H enc)
theorem parserUndoes_card : Rows.ParserUndoesCardSaid :=
  Claim7.holds_tied_plain_at .later [] [.data, .data, .data, .data, .sentinel, .sentinel, .pinned] true (true, "89e1147c7b3f1eaba5187808da0750baef7459daabfb3ac609fca8eef5a419bf") true
    parserUndoes_holds (fun _ h => by cases h) (by kernel_rfl) (fun _ h => by cases h) parserUndoes_row_tie rfl ⟨rfl, rfl⟩ (by kernel_rfl) rfl
    (fun f fn hf hfn => by
      obtain rfl : f = 7 := Option.some.inj ((show Tryd.prog.funcNamed "plenum/plenumlaw08.ParserUndoes" = some 7 by kernel_rfl).symm.trans hf) |>.symm
      obtain rfl : fn = Tryd.f7 := (Option.some.inj (Tryd.func7.symm.trans hfn)).symm
      exact ⟨by kernel_rfl, fun j t ht => by
        rw [show Tryd.f7.params = #[9] from rfl] at ht
        have hm : t ∈ [9] := by simpa using Array.mem_of_getElem? ht
        have hall : ([9].all fun u => !Tryd.prog.wantsStandIn u) = true := by kernel_rfl
        exact (show Tryd.prog.wantsStandIn t = false by simpa using List.all_eq_true.1 hall t hm)⟩)
    (by kernel_rfl)
end Go.Proofs.YteaoeaapmjeciaaDoor
