/-
  DERIVED. GIVEN WITH THE SEED: THE CARDS: each row of YtofeijldadameaaDoorRows.lean that lists a variable, with what it lists TIED to the program's text (the seventh form; the later family's looks); each row that meets fmt, with fmt's text TOLD by the authors' own Lean function (tested against real Go, not proved from fmt's source: count such statements apart). THE CARD IS WHAT COUNTS. Prove the row's statement (the work); the ties are given (YtofeijldadameaaDoorTie.lean); close each card by the builder's one call (the guide's Derived/Test/ToyasCard.lean, 'card_holds'). Laid BY PROGRAM, IN A SANDBOX (cutbox-door.mjs). By AI agents, Wed Nov 11 2026. No macro, syntax, notation, axiom, sorry.
-/
import Derived.Test.YtofeijldadameaaDoorRows
import GoSem.ClaimSeven
namespace Go.Proofs.YtofeijldadameaaDoor
namespace Rows

/-- THE TIED CARD OF 'plenumlaw01.FixedLines'. -/
def fixedLinesCard : Claim7 := { stood := { row := fixedLinesRow, standIns := [], harness := (true, "b47c1780f80b2386659230a87b05e81cbd72712d34c7583c3ec2b5a96467bfe2"), looks := false }, kinds := [], alts := [], laidByText := true, laidKinds := [.data, .data, .data, .data, .pinned], laidTests := true, laidLooks := .later }
def FixedLinesCardSaid : Prop := Claim7.holds Tryd.pinned (.plain (OpenSpec.ofChange fixedLinesSpec)) fixedLinesCard

/-- THE TIED CARD OF 'plenumlaw01.FixedRange'. -/
def fixedRangeCard : Claim7 := { stood := { row := fixedRangeRow, standIns := [], harness := (true, "b47c1780f80b2386659230a87b05e81cbd72712d34c7583c3ec2b5a96467bfe2"), looks := false }, kinds := [], alts := [], laidByText := true, laidKinds := [.data, .data, .data, .data, .pinned], laidTests := true, laidLooks := .later }
def FixedRangeCardSaid : Prop := Claim7.holds Tryd.pinned (.plain (OpenSpec.ofChange fixedRangeSpec)) fixedRangeCard

/-- THE TIED CARD OF 'plenumlaw01.FixedNear'. -/
def fixedNearCard : Claim7 := { stood := { row := fixedNearRow, standIns := [], harness := (true, "b47c1780f80b2386659230a87b05e81cbd72712d34c7583c3ec2b5a96467bfe2"), looks := false }, kinds := [], alts := [], laidByText := true, laidKinds := [.data, .data, .data, .data, .pinned], laidTests := true, laidLooks := .later }
def FixedNearCardSaid : Prop := Claim7.holds Tryd.pinned (.plain (OpenSpec.ofChange fixedNearSpec)) fixedNearCard

/-- THE TIED CARD OF 'plenumlaw01.FixedTexts'. -/
def fixedTextsCard : Claim7 := { stood := { row := fixedTextsRow, standIns := [], harness := (true, "b47c1780f80b2386659230a87b05e81cbd72712d34c7583c3ec2b5a96467bfe2"), looks := false }, kinds := [], alts := [], laidByText := true, laidKinds := [.data, .data, .data, .data, .pinned], laidTests := true, laidLooks := .later }
def FixedTextsCardSaid : Prop := Claim7.holds Tryd.pinned (.plain (OpenSpec.ofChange fixedTextsSpec)) fixedTextsCard

/-- THE SECOND FORM's CARD OF 'plenumlaw01.FixedLines'. -/
def fixedLinesUptoCard : Claim7 := { stood := { row := fixedLinesUptoRow, standIns := [], harness := (true, "b47c1780f80b2386659230a87b05e81cbd72712d34c7583c3ec2b5a96467bfe2"), looks := false }, kinds := [], alts := [], laidByText := true, laidKinds := [.data, .data, .data, .data, .pinned], laidTests := true, laidLooks := .later }
def FixedLinesUptoCardSaid : Prop := Claim7.holds Tryd.pinned (.plain (OpenSpec.upto fixedLinesSpec)) fixedLinesUptoCard

/-- THE SECOND FORM's CARD OF 'plenumlaw01.FixedRange'. -/
def fixedRangeUptoCard : Claim7 := { stood := { row := fixedRangeUptoRow, standIns := [], harness := (true, "b47c1780f80b2386659230a87b05e81cbd72712d34c7583c3ec2b5a96467bfe2"), looks := false }, kinds := [], alts := [], laidByText := true, laidKinds := [.data, .data, .data, .data, .pinned], laidTests := true, laidLooks := .later }
def FixedRangeUptoCardSaid : Prop := Claim7.holds Tryd.pinned (.plain (OpenSpec.upto fixedRangeSpec)) fixedRangeUptoCard

/-- THE SECOND FORM's CARD OF 'plenumlaw01.FixedNear'. -/
def fixedNearUptoCard : Claim7 := { stood := { row := fixedNearUptoRow, standIns := [], harness := (true, "b47c1780f80b2386659230a87b05e81cbd72712d34c7583c3ec2b5a96467bfe2"), looks := false }, kinds := [], alts := [], laidByText := true, laidKinds := [.data, .data, .data, .data, .pinned], laidTests := true, laidLooks := .later }
def FixedNearUptoCardSaid : Prop := Claim7.holds Tryd.pinned (.plain (OpenSpec.upto fixedNearSpec)) fixedNearUptoCard

/-- THE SECOND FORM's CARD OF 'plenumlaw01.FixedTexts'. -/
def fixedTextsUptoCard : Claim7 := { stood := { row := fixedTextsUptoRow, standIns := [], harness := (true, "b47c1780f80b2386659230a87b05e81cbd72712d34c7583c3ec2b5a96467bfe2"), looks := false }, kinds := [], alts := [], laidByText := true, laidKinds := [.data, .data, .data, .data, .pinned], laidTests := true, laidLooks := .later }
def FixedTextsUptoCardSaid : Prop := Claim7.holds Tryd.pinned (.plain (OpenSpec.upto fixedTextsSpec)) fixedTextsUptoCard
end Rows
end Go.Proofs.YtofeijldadameaaDoor
