/- Parts of the proof, one behind the other. -/
import Derived.Test.YtfhommjochpkbaaDoorKC
import Derived.Test.YtfhommjochpkbaaDoorCards
import Derived.Test.YtfhommjochpkbaaDoorTie
import Derived.ProofKit
import Derived.Lay
import Derived.Test.YtfhommjochpkbaaDoorFwL
import Derived.SevenTiedAt
set_option linter.unusedSimpArgs false
set_option linter.unusedVariables false
set_option linter.unusedSectionVars false
/- JournalRoom returns true for every input; its card, with what it lists tied to the program's text. -/
namespace Go.Proofs.YtfhommjochpkbaaDoor
open Go Fw Go.RowKit Go.ChangeShapes Go.WideShapes Go.ChangeAt
set_option maxRecDepth 100000
theorem Tryd.own8 : ownKnob Tryd.prog.godebug = none := by kernel_rfl
theorem Tryd.laidOut8 : laidOutB Tryd.prog = true := by kernel_rfl
theorem journalRoom_lifted (os : Os) (started : os.Started) (H : Type) (enc : TypeId × Value → H) :
    ReturnsInHanded {} Tryd.checked os 8 .any (fun w args => (Rows.journalRoomSpec.pre enc Tryd.prog Tryd.f8 Rows.journalRoomRow.domain false w args ∧ laidMetH Tryd.prog Rows.journalRoomRow.laid w) ∧ sizedMet enc Tryd.prog Tryd.f8 (OpenSpec.ofChange Rows.journalRoomSpec) false w args) (Rows.journalRoomSpec.post enc Tryd.prog Tryd.f8 false true false false) := by
  refine law_lifted_sized (C := Tryd.checked) (L := Rows.journalRoomRow.laid) (S := [3,9,42]) (tb := 4) Tryd.own8 started (by kernel_rfl) Tryd.func8
    (ChangeSpec.witness_shaped (enc := enc) (C := Tryd.checked) (os := os) (X := fun w _ => laidMetH Tryd.prog Rows.journalRoomRow.laid w) false (World.laidAll Tryd.prog os Rows.journalRoomRow.laid) #[.int .i64 0, .slice none 0 0] 8 (World.laidAll_os _ _ _)
      (World.shaped_of_ZipB (by kernel_rfl) (by kernel_rfl)) (by kernel_rfl) (by kernel_rfl) (by kernel_rfl)
      (by rw [MakeChecks.laidMetH_plain _ _ _ (by kernel_rfl)]; exact laidMet_laidAll _ (by kernel_rfl) (by kernel_rfl))) Tryd.laidOut8 T43.cxp T43.hgl rfl (by kernel_rfl) ?_ rfl rfl ?_ ?_ T43.hlaw8
  · intro t ht
    rw [show Tryd.f8.params.toList = [3, 42] from rfl] at ht
    simp only [List.mem_cons, List.not_mem_nil, or_false] at ht
    rcases ht with rfl | rfl
    · exact ⟨by simp, by kernel_rfl, of_decide_eq_true (by kernel_rfl)⟩
    · exact ⟨by simp, by kernel_rfl, of_decide_eq_true (by kernel_rfl)⟩
  · exact Tryd.underlying4
  · intro ds hds
    match ds, hds with
    | [d1, d2], _ => rfl
theorem journalRoom_holds : Rows.JournalRoomSaid :=
  OpenClaim.holds_of_wide 8 Tryd.f8 rfl rfl rfl rfl rfl rfl rfl ⟨rfl, rfl, rfl, rfl, rfl⟩ rfl rfl rfl rfl rfl (by kernel_rfl) Tryd.func8 (by kernel_rfl)
    (of_decide_eq_true (by kernel_rfl)) (by unfold Func.isWrapper; first | (rw [if_pos (by decide +kernel)]; kernel_rfl) | (rw [if_neg (by decide +kernel)]; exact ⟨rfl, rfl⟩))
    (fun os started H enc _ => journalRoom_lifted os started H enc)
theorem journalRoom_card : Rows.JournalRoomCardSaid :=
  Claim7.holds_tied_plain_at .later [] [.data, .data, .data, .data, .sentinel, .sentinel, .pinned] true (true, "a5389c4a9389830c2b90bc3c51eca887938b8a0da1374acfba0fec33a422f41b") true
    journalRoom_holds (fun _ h => by cases h) (by kernel_rfl) (fun _ h => by cases h) journalRoom_row_tie rfl ⟨rfl, rfl⟩ (by kernel_rfl) rfl
    (fun f fn hf hfn => by
      obtain rfl : f = 8 := Option.some.inj ((show Tryd.prog.funcNamed "plenum/plenumlaw43.JournalRoom" = some 8 by kernel_rfl).symm.trans hf) |>.symm
      obtain rfl : fn = Tryd.f8 := (Option.some.inj (Tryd.func8.symm.trans hfn)).symm
      exact ⟨by kernel_rfl, fun j t ht => by
        rw [show Tryd.f8.params = #[3, 42] from rfl] at ht
        have hm : t ∈ [3, 42] := by simpa using Array.mem_of_getElem? ht
        have hall : ([3, 42].all fun u => !Tryd.prog.wantsStandIn u) = true := by kernel_rfl
        exact (show Tryd.prog.wantsStandIn t = false by simpa using List.all_eq_true.1 hall t hm)⟩)
    (by kernel_rfl)
end Go.Proofs.YtfhommjochpkbaaDoor
