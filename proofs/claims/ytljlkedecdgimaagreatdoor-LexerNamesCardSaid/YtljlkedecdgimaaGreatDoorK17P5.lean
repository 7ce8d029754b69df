/- Parts of the proof, one behind the other. -/
import Derived.Test.YtljlkedecdgimaaGreatDoorK17n
import Derived.Test.YtljlkedecdgimaaGreatDoorCards
import Derived.Test.YtljlkedecdgimaaGreatDoorTie
import Derived.ProofKit
import Derived.Lay
import Derived.SevenTiedAt
set_option linter.unusedSimpArgs false
set_option linter.unusedVariables false
/- LexerNames returns true for every input; its card, with what it lists tied to the program's text. -/
namespace Go.Proofs.YtljlkedecdgimaaGreatDoor
open Go Fw Go.RowKit Go.ChangeShapes Go.WideShapes Go.ChangeAt
set_option maxRecDepth 100000
theorem Tryz.own5 : ownKnob Tryz.prog.godebug = none := by kernel_rfl
theorem Tryz.laidOut5 : laidOutB Tryz.prog = true := by kernel_rfl
theorem lexerNames_lifted (os : Os) (started : os.Started) (H : Type) (enc : TypeId × Value → H) :
    ReturnsInHanded {} Tryz.checked os 5 .any (fun w args => (Rows.lexerNamesSpec.pre enc Tryz.prog Tryz.f5 Rows.lexerNamesRow.domain false w args ∧ laidMetH Tryz.prog Rows.lexerNamesRow.laid w) ∧ sizedMet enc Tryz.prog Tryz.f5 (OpenSpec.ofChange Rows.lexerNamesSpec) false w args) (Rows.lexerNamesSpec.post enc Tryz.prog Tryz.f5 false true false false) := by
  refine law_lifted_laid (C := Tryz.checked) (L := Rows.lexerNamesRow.laid) (S := [9]) (tb := 4) Tryz.own5 started (by kernel_rfl) Tryz.func5
    (ChangeSpec.witness_shaped (enc := enc) (C := Tryz.checked) (os := os) (X := fun w _ => laidMetH Tryz.prog Rows.lexerNamesRow.laid w) false (World.laidAll Tryz.prog os Rows.lexerNamesRow.laid) #[.string ⟨#[]⟩] 8 (World.laidAll_os _ _ _)
      (World.shaped_of_ZipB (by kernel_rfl) (by kernel_rfl)) (by kernel_rfl) (by kernel_rfl) (by kernel_rfl)
      (by rw [MakeChecks.laidMetH_plain _ _ _ (by kernel_rfl)]; exact laidMet_laidAll _ (by kernel_rfl) (by kernel_rfl))) Tryz.laidOut5 T17.cxp T17.hgl rfl (by kernel_rfl) ?_ rfl rfl ?_ ?_ T17.hlaw5
  · intro t ht
    rw [show Tryz.f5.params.toList = [9] from rfl] at ht
    simp only [List.mem_cons, List.not_mem_nil, or_false] at ht
    subst ht
    · exact ⟨by simp, by kernel_rfl, of_decide_eq_true (by kernel_rfl)⟩
  · exact Tryz.underlying4
  · intro ds hds
    match ds, hds with
    | [d1], _ => rfl
theorem lexerNames_holds : Rows.LexerNamesSaid :=
  OpenClaim.holds_of_wide 5 Tryz.f5 rfl rfl rfl rfl rfl rfl rfl ⟨rfl, rfl, rfl, rfl, rfl⟩ rfl rfl rfl rfl rfl (by kernel_rfl) Tryz.func5 (by kernel_rfl)
    (of_decide_eq_true (by kernel_rfl)) (by unfold Func.isWrapper; first | (rw [if_pos (by decide +kernel)]; kernel_rfl) | (rw [if_neg (by decide +kernel)]; exact ⟨rfl, rfl⟩))
    (fun os started H enc _ => lexerNames_lifted os started H enc)
theorem lexerNames_card : Rows.LexerNamesCardSaid :=
  Claim7.holds_tied_plain_at .later [] [.data, .data, .data, .data, .sentinel, .sentinel, .pinned] true (true, "1e70c83041a98dad5e06691caf76c5f5239a1eacaad80bc67ef82c83c61c3ea9") true
    lexerNames_holds (fun _ h => by cases h) (by kernel_rfl) (fun _ h => by cases h) lexerNames_row_tie rfl ⟨rfl, rfl⟩ (by kernel_rfl) rfl
    (fun f fn hf hfn => by
      obtain rfl : f = 5 := Option.some.inj ((show Tryz.prog.funcNamed "plenum/plenumlaw07.LexerNames" = some 5 by kernel_rfl).symm.trans hf) |>.symm
      obtain rfl : fn = Tryz.f5 := (Option.some.inj (Tryz.func5.symm.trans hfn)).symm
      exact ⟨by kernel_rfl, fun j t ht => by
        rw [show Tryz.f5.params = #[9] from rfl] at ht
        have hm : t ∈ [9] := by simpa using Array.mem_of_getElem? ht
        have hall : ([9].all fun u => !Tryz.prog.wantsStandIn u) = true := by kernel_rfl
        exact (show Tryz.prog.wantsStandIn t = false by simpa using List.all_eq_true.1 hall t hm)⟩)
    (by kernel_rfl)
end Go.Proofs.YtljlkedecdgimaaGreatDoor
