/- Parts of the proof, one behind the other. -/
import Derived.Test.YtljlkedecdgimaaGreatDoorK17w
import Derived.Test.YtljlkedecdgimaaGreatDoorCards
import Derived.Test.YtljlkedecdgimaaGreatDoorTie
import Derived.ProofKit
import Derived.Lay
import Derived.SevenTiedAt
set_option linter.unusedSimpArgs false
set_option linter.unusedVariables false
/- LexerTokens returns true for every input; its card, with what it lists tied to the program's text. -/
namespace Go.Proofs.YtljlkedecdgimaaGreatDoor
open Go Fw Go.RowKit Go.ChangeShapes Go.WideShapes Go.ChangeAt
set_option maxRecDepth 100000
theorem Tryz.own4 : ownKnob Tryz.prog.godebug = none := by kernel_rfl
theorem Tryz.laidOut4 : laidOutB Tryz.prog = true := by kernel_rfl
theorem lexerTokens_lifted (os : Os) (started : os.Started) (H : Type) (enc : TypeId × Value → H) :
    ReturnsInHanded {} Tryz.checked os 4 .any (fun w args => (Rows.lexerTokensSpec.pre enc Tryz.prog Tryz.f4 Rows.lexerTokensRow.domain false w args ∧ laidMetH Tryz.prog Rows.lexerTokensRow.laid w) ∧ sizedMet enc Tryz.prog Tryz.f4 (OpenSpec.ofChange Rows.lexerTokensSpec) false w args) (Rows.lexerTokensSpec.post enc Tryz.prog Tryz.f4 false true false false) := by
  refine law_lifted_laid (C := Tryz.checked) (L := Rows.lexerTokensRow.laid) (S := [37, 9, 3, 2]) (tb := 4) Tryz.own4 started (by kernel_rfl) Tryz.func4
    (ChangeSpec.witness_shaped (enc := enc) (C := Tryz.checked) (os := os) (X := fun w _ => laidMetH Tryz.prog Rows.lexerTokensRow.laid w) false (World.laidAll Tryz.prog os Rows.lexerTokensRow.laid) #[.agg #[.int .i64 0, .string .empty, .int .i64 0, .int .i64 0]] 8 (World.laidAll_os _ _ _)
      (World.shaped_of_ZipB (by kernel_rfl) (by kernel_rfl)) (by kernel_rfl) (by kernel_rfl) (by kernel_rfl)
      (by rw [MakeChecks.laidMetH_plain _ _ _ (by kernel_rfl)]; exact laidMet_laidAll _ (by kernel_rfl) (by kernel_rfl))) Tryz.laidOut4 T17.cxp T17.hgl rfl (by kernel_rfl) ?_ rfl rfl ?_ ?_ T17.hlaw4
  · intro t ht
    rw [show Tryz.f4.params.toList = [37] from rfl] at ht
    simp only [List.mem_cons, List.not_mem_nil, or_false] at ht
    subst ht
    · exact ⟨by simp, by kernel_rfl, of_decide_eq_true (by kernel_rfl)⟩
  · exact Tryz.underlying4
  · intro ds hds
    match ds, hds with
    | [d1], _ => rfl
theorem lexerTokens_holds : Rows.LexerTokensSaid :=
  OpenClaim.holds_of_wide 4 Tryz.f4 rfl rfl rfl rfl rfl rfl rfl ⟨rfl, rfl, rfl, rfl, rfl⟩ rfl rfl rfl rfl rfl (by kernel_rfl) Tryz.func4 (by kernel_rfl)
    (of_decide_eq_true (by kernel_rfl)) (by unfold Func.isWrapper; first | (rw [if_pos (by decide +kernel)]; kernel_rfl) | (rw [if_neg (by decide +kernel)]; exact ⟨rfl, rfl⟩))
    (fun os started H enc _ => lexerTokens_lifted os started H enc)
theorem lexerTokens_card : Rows.LexerTokensCardSaid :=
  Claim7.holds_tied_plain_at .later [] [.data, .data, .data, .data, .sentinel, .sentinel, .pinned] true (true, "1e70c83041a98dad5e06691caf76c5f5239a1eacaad80bc67ef82c83c61c3ea9") true
    lexerTokens_holds (fun _ h => by cases h) (by kernel_rfl) (fun _ h => by cases h) lexerTokens_row_tie rfl ⟨rfl, rfl⟩ (by kernel_rfl) rfl
    (fun f fn hf hfn => by
      obtain rfl : f = 4 := Option.some.inj ((show Tryz.prog.funcNamed "plenum/plenumlaw07.LexerTokens" = some 4 by kernel_rfl).symm.trans hf) |>.symm
      obtain rfl : fn = Tryz.f4 := (Option.some.inj (Tryz.func4.symm.trans hfn)).symm
      exact ⟨by kernel_rfl, fun j t ht => by
        rw [show Tryz.f4.params = #[37] from rfl] at ht
        have hm : t ∈ [37] := by simpa using Array.mem_of_getElem? ht
        have hall : ([37].all fun u => !Tryz.prog.wantsStandIn u) = true := by kernel_rfl
        exact (show Tryz.prog.wantsStandIn t = false by simpa using List.all_eq_true.1 hall t hm)⟩)
    (by kernel_rfl)
end Go.Proofs.YtljlkedecdgimaaGreatDoor
