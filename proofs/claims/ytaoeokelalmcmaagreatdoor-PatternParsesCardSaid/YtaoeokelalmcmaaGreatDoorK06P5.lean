/- Parts of the proof, one behind the other. -/
import Derived.Test.YtaoeokelalmcmaaGreatDoorKD
import Derived.Test.YtaoeokelalmcmaaGreatDoorFwL
import Derived.Test.YtaoeokelalmcmaaGreatDoorCards
import Derived.Test.YtaoeokelalmcmaaGreatDoorTie
import Derived.ProofKit
import Derived.Lay
import Derived.SevenTiedAt
set_option linter.unusedSimpArgs false
set_option linter.unusedVariables false
set_option linter.unusedSectionVars false
namespace Go.Proofs.YtaoeokelalmcmaaGreatDoor
open Go Fw Go.RowKit Go.ChangeShapes Go.WideShapes Go.ChangeAt
set_option maxRecDepth 100000
theorem Tryz.own5 : ownKnob Tryz.prog.godebug = none := by kernel_rfl
theorem Tryz.laidOut5 : laidOutB Tryz.prog = true := by kernel_rfl
theorem patternParses_lifted (os : Os) (started : os.Started) (H : Type) (enc : TypeId × Value → H) :
    ReturnsInHanded {} Tryz.checked os 5 .any (fun w args => (Rows.patternParsesSpec.pre enc Tryz.prog Tryz.f5 Rows.patternParsesRow.domain false w args ∧ laidMetH Tryz.prog Rows.patternParsesRow.laid w) ∧ sizedMet enc Tryz.prog Tryz.f5 (OpenSpec.ofChange Rows.patternParsesSpec) false w args) (Rows.patternParsesSpec.post enc Tryz.prog Tryz.f5 false true false false) := by
  refine law_lifted_shaped (C := Tryz.checked) (L := Rows.patternParsesRow.laid) (gM := 2) (cxm := fun m => @T06.cx ⟨m⟩) (S := [9]) (tb := 4) Tryz.own5 started (by kernel_rfl) Tryz.func5
    (ChangeSpec.witness_shaped (enc := enc) (C := Tryz.checked) (os := os) (X := fun w _ => laidMetH Tryz.prog Rows.patternParsesRow.laid w) false (World.laidAll Tryz.prog os Rows.patternParsesRow.laid) #[.string ⟨#[]⟩] 8 (World.laidAll_os _ _ _)
      (World.shaped_of_ZipB (by kernel_rfl) (by kernel_rfl)) (by kernel_rfl) (by kernel_rfl) (by kernel_rfl)
      (by rw [MakeChecks.laidMetH_plain _ _ _ (by kernel_rfl)]; exact laidMet_laidAll _ (by kernel_rfl) (by kernel_rfl))) Tryz.laidOut5 T06.hcell (fun m X hX => @T06.cxp ⟨m⟩ X hX) (fun m W h hm => T06.hgl0 (by simp [Rows.patternParsesRow]) (by simp [Rows.patternParsesRow]) (by simp [Rows.patternParsesRow]) m W h hm) (fun _ => rfl) (by kernel_rfl) ?_ rfl rfl ?_ ?_ (fun m as0 h => @T06.hlaw5 ⟨m⟩ as0 h)
  · intro t ht
    rw [show Tryz.f5.params.toList = [9] from rfl] at ht
    simp only [List.mem_cons, List.not_mem_nil, or_false] at ht
    subst ht
    · exact ⟨by simp, by kernel_rfl, of_decide_eq_true (by kernel_rfl)⟩
  · exact Tryz.underlying4
  · intro ds hds
    match ds, hds with
    | [d1], _ => rfl
theorem patternParses_holds : Rows.PatternParsesSaid :=
  OpenClaim.holds_of_wide 5 Tryz.f5 rfl rfl rfl rfl rfl rfl rfl ⟨rfl, rfl, rfl, rfl, rfl⟩ rfl rfl rfl rfl rfl (by kernel_rfl) Tryz.func5 (by kernel_rfl)
    (of_decide_eq_true (by kernel_rfl)) (by unfold Func.isWrapper; first | (rw [if_pos (by decide +kernel)]; kernel_rfl) | (rw [if_neg (by decide +kernel)]; exact ⟨rfl, rfl⟩))
    (fun os started H enc _ => patternParses_lifted os started H enc)
theorem patternParses_card : Rows.PatternParsesCardSaid :=
  Claim7.holds_tied_plain_at .later [] [.data, .data, .data, .data, .data, .sentinel, .sentinel, .data, .pinned] true (true, "500ff883caa5eeac56294f00e875028f97c60237f3f52a663d4b8ea116a54b8e") true
    patternParses_holds (fun _ h => by cases h) (by kernel_rfl) (fun _ h => by cases h) patternParses_row_tie rfl ⟨rfl, rfl⟩ (by kernel_rfl) rfl
    (fun f fn hf hfn => by
      obtain rfl : f = 5 := Option.some.inj ((show Tryz.prog.funcNamed "plenum/plenumlaw06.PatternParses" = some 5 by kernel_rfl).symm.trans hf) |>.symm
      obtain rfl : fn = Tryz.f5 := (Option.some.inj (Tryz.func5.symm.trans hfn)).symm
      exact ⟨by kernel_rfl, fun j t ht => by
        rw [show Tryz.f5.params = #[9] from rfl] at ht
        have hm : t ∈ [9] := by simpa using Array.mem_of_getElem? ht
        have hall : ([9].all fun u => !Tryz.prog.wantsStandIn u) = true := by kernel_rfl
        exact (show Tryz.prog.wantsStandIn t = false by simpa using List.all_eq_true.1 hall t hm)⟩)
    (by kernel_rfl)
end Go.Proofs.YtaoeokelalmcmaaGreatDoor
