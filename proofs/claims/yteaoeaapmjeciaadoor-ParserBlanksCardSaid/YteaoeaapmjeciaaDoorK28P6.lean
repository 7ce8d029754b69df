/- Parts of the proof, one behind the other. -/
import Derived.Test.YteaoeaapmjeciaaDoorK28n
import Derived.Test.YteaoeaapmjeciaaDoorK08d
import Derived.Test.YteaoeaapmjeciaaDoorCards
import Derived.Test.YteaoeaapmjeciaaDoorTie
import Derived.ProofKit
import Derived.Lay
import Derived.SevenTiedAt
set_option linter.unusedSimpArgs false
set_option linter.unusedVariables false
/- ParserBlanks returns true for every input; its card, with what it lists tied to the program's text. -/
namespace Go.Proofs.YteaoeaapmjeciaaDoor
open Go Fw Go.RowKit Go.ChangeShapes Go.WideShapes Go.ChangeAt
set_option maxRecDepth 100000
theorem Tryd.own6 : ownKnob Tryd.prog.godebug = none := by kernel_rfl
theorem Tryd.laidOut6 : laidOutB Tryd.prog = true := by kernel_rfl
theorem parserBlanks_lifted (os : Os) (started : os.Started) (H : Type) (enc : TypeId × Value → H) :
    ReturnsInHanded {} Tryd.checked os 6 .any (fun w args => (Rows.parserBlanksSpec.pre enc Tryd.prog Tryd.f6 Rows.parserBlanksRow.domain false w args ∧ laidMetH Tryd.prog Rows.parserBlanksRow.laid w) ∧ sizedMet enc Tryd.prog Tryd.f6 (OpenSpec.ofChange Rows.parserBlanksSpec) false w args) (Rows.parserBlanksSpec.post enc Tryd.prog Tryd.f6 false true false false) := by
  refine law_lifted_laid (C := Tryd.checked) (L := Rows.parserBlanksRow.laid) (S := [9, 3]) (tb := 4) Tryd.own6 started (by kernel_rfl) Tryd.func6
    (ChangeSpec.witness_shaped (enc := enc) (C := Tryd.checked) (os := os) (X := fun w _ => laidMetH Tryd.prog Rows.parserBlanksRow.laid w) false (World.laidAll Tryd.prog os Rows.parserBlanksRow.laid) #[.string ⟨#[]⟩, .int .i64 0, .string ⟨#[]⟩] 8 (World.laidAll_os _ _ _)
      (World.shaped_of_ZipB (by kernel_rfl) (by kernel_rfl)) (by kernel_rfl) (by kernel_rfl) (by kernel_rfl)
      (by rw [MakeChecks.laidMetH_plain _ _ _ (by kernel_rfl)]; exact laidMet_laidAll _ (by kernel_rfl) (by kernel_rfl))) Tryd.laidOut6 T08.cxp T08.hgl rfl (by kernel_rfl) ?_ rfl rfl ?_ ?_ T08.hlaw6
  · intro t ht
    rw [show Tryd.f6.params.toList = [9, 3, 9] from rfl] at ht
    simp only [List.mem_cons, List.not_mem_nil, or_false] at ht
    rcases ht with rfl | rfl | rfl
    · exact ⟨by simp, by kernel_rfl, of_decide_eq_true (by kernel_rfl)⟩
    · exact ⟨by simp, by kernel_rfl, of_decide_eq_true (by kernel_rfl)⟩
    · exact ⟨by simp, by kernel_rfl, of_decide_eq_true (by kernel_rfl)⟩
  · exact Tryd.underlying4
  · intro ds hds
    match ds, hds with
    | [d1, d2, d3], _ => rfl
theorem parserBlanks_holds : Rows.ParserBlanksSaid :=
  OpenClaim.holds_of_wide 6 Tryd.f6 rfl rfl rfl rfl rfl rfl rfl ⟨rfl, rfl, rfl, rfl, rfl⟩ rfl rfl rfl rfl rfl (by kernel_rfl) Tryd.func6 (by kernel_rfl)
    (of_decide_eq_true (by kernel_rfl)) (by unfold Func.isWrapper; first | (rw [if_pos (by decide +kernel)]; kernel_rfl) | (rw [if_neg (by decide +kernel)]; exact ⟨rfl, rfl⟩))
    (fun os started H enc _ => parserBlanks_lifted os started H enc)
theorem parserBlanks_card : Rows.ParserBlanksCardSaid :=
  Claim7.holds_tied_plain_at .later [] [.data, .data, .data, .data, .sentinel, .sentinel, .pinned] true (true, "89e1147c7b3f1eaba5187808da0750baef7459daabfb3ac609fca8eef5a419bf") true
    parserBlanks_holds (fun _ h => by cases h) (by kernel_rfl) (fun _ h => by cases h) parserBlanks_row_tie rfl ⟨rfl, rfl⟩ (by kernel_rfl) rfl
    (fun f fn hf hfn => by
      obtain rfl : f = 6 := Option.some.inj ((show Tryd.prog.funcNamed "plenum/plenumlaw08.ParserBlanks" = some 6 by kernel_rfl).symm.trans hf) |>.symm
      obtain rfl : fn = Tryd.f6 := (Option.some.inj (Tryd.func6.symm.trans hfn)).symm
      exact ⟨by kernel_rfl, fun j t ht => by
        rw [show Tryd.f6.params = #[9, 3, 9] from rfl] at ht
        have hm : t ∈ [9, 3, 9] := by simpa using Array.mem_of_getElem? ht
        have hall : ([9, 3, 9].all fun u => !Tryd.prog.wantsStandIn u) = true := by kernel_rfl
        exact (show Tryd.prog.wantsStandIn t = false by simpa using List.all_eq_true.1 hall t hm)⟩)
    (by kernel_rfl)
end Go.Proofs.YteaoeaapmjeciaaDoor
