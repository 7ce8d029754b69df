/-
  DERIVED. GIVEN WITH THE SEED: THE CARDS: each row of YtfhommjochpkbaaDoorRows.lean that lists a variable, with what it lists TIED to the program's text (the seventh form; the later family's looks); each row that meets fmt, with fmt's text TOLD by the authors' own Lean function (tested against real Go, not proved from fmt's source: count such statements apart). THE CARD IS WHAT COUNTS. Prove the row's statement (the work); the ties are given (YtfhommjochpkbaaDoorTie.lean); close each card by the builder's one call (the guide's Derived/Test/ToyasCard.lean, 'card_holds'). Laid BY PROGRAM, IN A SANDBOX (cutbox-door.mjs). By AI agents, Wed Nov 11 2026. No macro, syntax, notation, axiom, sorry.
-/
import Derived.Test.YtfhommjochpkbaaDoorRows
import GoSem.ClaimSeven
namespace Go.Proofs.YtfhommjochpkbaaDoor
namespace Rows

/-- THE TIED CARD OF 'plenumlaw43.JournalDisk'. -/
def journalDiskCard : Claim7 := { stood := { row := journalDiskRow, standIns := [], harness := (true, "a5389c4a9389830c2b90bc3c51eca887938b8a0da1374acfba0fec33a422f41b"), looks := true }, kinds := [], alts := [], laidByText := true, laidKinds := [.data, .data, .data, .data, .sentinel, .sentinel, .pinned], laidTests := true, laidLooks := .later }
def JournalDiskCardSaid : Prop := Claim7.holds Tryd.pinned (.plain (OpenSpec.ofChange journalDiskSpec)) journalDiskCard

/-- THE TIED CARD OF 'plenumlaw43.JournalFrames'. -/
def journalFramesCard : Claim7 := { stood := { row := journalFramesRow, standIns := [], harness := (true, "a5389c4a9389830c2b90bc3c51eca887938b8a0da1374acfba0fec33a422f41b"), looks := true }, kinds := [], alts := [], laidByText := true, laidKinds := [.data, .data, .data, .data, .sentinel, .sentinel, .pinned], laidTests := true, laidLooks := .later }
def JournalFramesCardSaid : Prop := Claim7.holds Tryd.pinned (.plain (OpenSpec.ofChange journalFramesSpec)) journalFramesCard

/-- THE TIED CARD OF 'plenumlaw43.JournalBack'. -/
def journalBackCard : Claim7 := { stood := { row := journalBackRow, standIns := [], harness := (true, "a5389c4a9389830c2b90bc3c51eca887938b8a0da1374acfba0fec33a422f41b"), looks := true }, kinds := [], alts := [], laidByText := true, laidKinds := [.data, .data, .data, .data, .sentinel, .sentinel, .pinned], laidTests := true, laidLooks := .later }
def JournalBackCardSaid : Prop := Claim7.holds Tryd.pinned (.plain (OpenSpec.ofChange journalBackSpec)) journalBackCard

/-- THE TIED CARD OF 'plenumlaw43.JournalRecovers'. -/
def journalRecoversCard : Claim7 := { stood := { row := journalRecoversRow, standIns := [], harness := (true, "a5389c4a9389830c2b90bc3c51eca887938b8a0da1374acfba0fec33a422f41b"), looks := true }, kinds := [], alts := [], laidByText := true, laidKinds := [.data, .data, .data, .data, .sentinel, .sentinel, .pinned], laidTests := true, laidLooks := .later }
def JournalRecoversCardSaid : Prop := Claim7.holds Tryd.pinned (.plain (OpenSpec.ofChange journalRecoversSpec)) journalRecoversCard

/-- THE TIED CARD OF 'plenumlaw43.JournalExtremes'. -/
def journalExtremesCard : Claim7 := { stood := { row := journalExtremesRow, standIns := [], harness := (true, "a5389c4a9389830c2b90bc3c51eca887938b8a0da1374acfba0fec33a422f41b"), looks := true }, kinds := [], alts := [], laidByText := true, laidKinds := [.data, .data, .data, .data, .sentinel, .sentinel, .pinned], laidTests := true, laidLooks := .later }
def JournalExtremesCardSaid : Prop := Claim7.holds Tryd.pinned (.plain (OpenSpec.ofChange journalExtremesSpec)) journalExtremesCard

/-- THE TIED CARD OF 'plenumlaw43.JournalRoom'. -/
def journalRoomCard : Claim7 := { stood := { row := journalRoomRow, standIns := [], harness := (true, "a5389c4a9389830c2b90bc3c51eca887938b8a0da1374acfba0fec33a422f41b"), looks := true }, kinds := [], alts := [], laidByText := true, laidKinds := [.data, .data, .data, .data, .sentinel, .sentinel, .pinned], laidTests := true, laidLooks := .later }
def JournalRoomCardSaid : Prop := Claim7.holds Tryd.pinned (.plain (OpenSpec.ofChange journalRoomSpec)) journalRoomCard

/-- THE SECOND FORM's CARD OF 'plenumlaw43.JournalDisk'. -/
def journalDiskUptoCard : Claim7 := { stood := { row := journalDiskUptoRow, standIns := [], harness := (true, "a5389c4a9389830c2b90bc3c51eca887938b8a0da1374acfba0fec33a422f41b"), looks := true }, kinds := [], alts := [], laidByText := true, laidKinds := [.data, .data, .data, .data, .sentinel, .sentinel, .pinned], laidTests := true, laidLooks := .later }
def JournalDiskUptoCardSaid : Prop := Claim7.holds Tryd.pinned (.plain (OpenSpec.upto journalDiskSpec)) journalDiskUptoCard

/-- THE SECOND FORM's CARD OF 'plenumlaw43.JournalFrames'. -/
def journalFramesUptoCard : Claim7 := { stood := { row := journalFramesUptoRow, standIns := [], harness := (true, "a5389c4a9389830c2b90bc3c51eca887938b8a0da1374acfba0fec33a422f41b"), looks := true }, kinds := [], alts := [], laidByText := true, laidKinds := [.data, .data, .data, .data, .sentinel, .sentinel, .pinned], laidTests := true, laidLooks := .later }
def JournalFramesUptoCardSaid : Prop := Claim7.holds Tryd.pinned (.plain (OpenSpec.upto journalFramesSpec)) journalFramesUptoCard

/-- THE SECOND FORM's CARD OF 'plenumlaw43.JournalBack'. -/
def journalBackUptoCard : Claim7 := { stood := { row := journalBackUptoRow, standIns := [], harness := (true, "a5389c4a9389830c2b90bc3c51eca887938b8a0da1374acfba0fec33a422f41b"), looks := true }, kinds := [], alts := [], laidByText := true, laidKinds := [.data, .data, .data, .data, .sentinel, .sentinel, .pinned], laidTests := true, laidLooks := .later }
def JournalBackUptoCardSaid : Prop := Claim7.holds Tryd.pinned (.plain (OpenSpec.upto journalBackSpec)) journalBackUptoCard

/-- THE SECOND FORM's CARD OF 'plenumlaw43.JournalRecovers'. -/
def journalRecoversUptoCard : Claim7 := { stood := { row := journalRecoversUptoRow, standIns := [], harness := (true, "a5389c4a9389830c2b90bc3c51eca887938b8a0da1374acfba0fec33a422f41b"), looks := true }, kinds := [], alts := [], laidByText := true, laidKinds := [.data, .data, .data, .data, .sentinel, .sentinel, .pinned], laidTests := true, laidLooks := .later }
def JournalRecoversUptoCardSaid : Prop := Claim7.holds Tryd.pinned (.plain (OpenSpec.upto journalRecoversSpec)) journalRecoversUptoCard

/-- THE SECOND FORM's CARD OF 'plenumlaw43.JournalExtremes'. -/
def journalExtremesUptoCard : Claim7 := { stood := { row := journalExtremesUptoRow, standIns := [], harness := (true, "a5389c4a9389830c2b90bc3c51eca887938b8a0da1374acfba0fec33a422f41b"), looks := true }, kinds := [], alts := [], laidByText := true, laidKinds := [.data, .data, .data, .data, .sentinel, .sentinel, .pinned], laidTests := true, laidLooks := .later }
def JournalExtremesUptoCardSaid : Prop := Claim7.holds Tryd.pinned (.plain (OpenSpec.upto journalExtremesSpec)) journalExtremesUptoCard

/-- THE SECOND FORM's CARD OF 'plenumlaw43.JournalRoom'. -/
def journalRoomUptoCard : Claim7 := { stood := { row := journalRoomUptoRow, standIns := [], harness := (true, "a5389c4a9389830c2b90bc3c51eca887938b8a0da1374acfba0fec33a422f41b"), looks := true }, kinds := [], alts := [], laidByText := true, laidKinds := [.data, .data, .data, .data, .sentinel, .sentinel, .pinned], laidTests := true, laidLooks := .later }
def JournalRoomUptoCardSaid : Prop := Claim7.holds Tryd.pinned (.plain (OpenSpec.upto journalRoomSpec)) journalRoomUptoCard
end Rows
end Go.Proofs.YtfhommjochpkbaaDoor
