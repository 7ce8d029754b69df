/-
  DERIVED. GIVEN WITH THE SEED: THE CARDS: each row of YteaoeaapmjeciaaDoorRows.lean that lists a variable, with what it lists TIED to the program's text (the seventh form; the later family's looks); each row that meets fmt, with fmt's text TOLD by the authors' own Lean function (tested against real Go, not proved from fmt's source: count such statements apart). THE CARD IS WHAT COUNTS. Prove the row's statement (the work); the ties are given (YteaoeaapmjeciaaDoorTie.lean); close each card by the builder's one call (the guide's Derived/Test/ToyasCard.lean, 'card_holds'). Laid BY PROGRAM, IN A SANDBOX (cutbox-door.mjs). By AI agents, Wed Nov 11 2026. No macro, syntax, notation, axiom, sorry.
-/
import Derived.Test.YteaoeaapmjeciaaDoorRows
import GoSem.ClaimSeven
namespace Go.Proofs.YteaoeaapmjeciaaDoor
namespace Rows

/-- THE TIED CARD OF 'plenumlaw08.ParserFlattens'. -/
def parserFlattensCard : Claim7 := { stood := { row := parserFlattensRow, standIns := [], harness := (true, "89e1147c7b3f1eaba5187808da0750baef7459daabfb3ac609fca8eef5a419bf"), looks := true }, kinds := [], alts := [], laidByText := true, laidKinds := [.data, .data, .data, .data, .sentinel, .sentinel, .pinned], laidTests := true, laidLooks := .later }
def ParserFlattensCardSaid : Prop := Claim7.holds Tryd.pinned (.plain (OpenSpec.ofChange parserFlattensSpec)) parserFlattensCard

/-- THE TIED CARD OF 'plenumlaw08.ParserLocates'. -/
def parserLocatesCard : Claim7 := { stood := { row := parserLocatesRow, standIns := [], harness := (true, "89e1147c7b3f1eaba5187808da0750baef7459daabfb3ac609fca8eef5a419bf"), looks := true }, kinds := [], alts := [], laidByText := true, laidKinds := [.data, .data, .data, .data, .sentinel, .sentinel, .pinned], laidTests := true, laidLooks := .later }
def ParserLocatesCardSaid : Prop := Claim7.holds Tryd.pinned (.plain (OpenSpec.ofChange parserLocatesSpec)) parserLocatesCard

/-- THE TIED CARD OF 'plenumlaw08.ParserLines'. -/
def parserLinesCard : Claim7 := { stood := { row := parserLinesRow, standIns := [], harness := (true, "89e1147c7b3f1eaba5187808da0750baef7459daabfb3ac609fca8eef5a419bf"), looks := true }, kinds := [], alts := [], laidByText := true, laidKinds := [.data, .data, .data, .data, .sentinel, .sentinel, .pinned], laidTests := true, laidLooks := .later }
def ParserLinesCardSaid : Prop := Claim7.holds Tryd.pinned (.plain (OpenSpec.ofChange parserLinesSpec)) parserLinesCard

/-- THE TIED CARD OF 'plenumlaw08.ParserBlanks'. -/
def parserBlanksCard : Claim7 := { stood := { row := parserBlanksRow, standIns := [], harness := (true, "89e1147c7b3f1eaba5187808da0750baef7459daabfb3ac609fca8eef5a419bf"), looks := true }, kinds := [], alts := [], laidByText := true, laidKinds := [.data, .data, .data, .data, .sentinel, .sentinel, .pinned], laidTests := true, laidLooks := .later }
def ParserBlanksCardSaid : Prop := Claim7.holds Tryd.pinned (.plain (OpenSpec.ofChange parserBlanksSpec)) parserBlanksCard

/-- THE TIED CARD OF 'plenumlaw08.ParserUndoes'. -/
def parserUndoesCard : Claim7 := { stood := { row := parserUndoesRow, standIns := [], harness := (true, "89e1147c7b3f1eaba5187808da0750baef7459daabfb3ac609fca8eef5a419bf"), looks := true }, kinds := [], alts := [], laidByText := true, laidKinds := [.data, .data, .data, .data, .sentinel, .sentinel, .pinned], laidTests := true, laidLooks := .later }
def ParserUndoesCardSaid : Prop := Claim7.holds Tryd.pinned (.plain (OpenSpec.ofChange parserUndoesSpec)) parserUndoesCard

/-- THE SECOND FORM's CARD OF 'plenumlaw08.ParserFlattens'. -/
def parserFlattensUptoCard : Claim7 := { stood := { row := parserFlattensUptoRow, standIns := [], harness := (true, "89e1147c7b3f1eaba5187808da0750baef7459daabfb3ac609fca8eef5a419bf"), looks := true }, kinds := [], alts := [], laidByText := true, laidKinds := [.data, .data, .data, .data, .sentinel, .sentinel, .pinned], laidTests := true, laidLooks := .later }
def ParserFlattensUptoCardSaid : Prop := Claim7.holds Tryd.pinned (.plain (OpenSpec.upto parserFlattensSpec)) parserFlattensUptoCard

/-- THE SECOND FORM's CARD OF 'plenumlaw08.ParserLocates'. -/
def parserLocatesUptoCard : Claim7 := { stood := { row := parserLocatesUptoRow, standIns := [], harness := (true, "89e1147c7b3f1eaba5187808da0750baef7459daabfb3ac609fca8eef5a419bf"), looks := true }, kinds := [], alts := [], laidByText := true, laidKinds := [.data, .data, .data, .data, .sentinel, .sentinel, .pinned], laidTests := true, laidLooks := .later }
def ParserLocatesUptoCardSaid : Prop := Claim7.holds Tryd.pinned (.plain (OpenSpec.upto parserLocatesSpec)) parserLocatesUptoCard

/-- THE SECOND FORM's CARD OF 'plenumlaw08.ParserLines'. -/
def parserLinesUptoCard : Claim7 := { stood := { row := parserLinesUptoRow, standIns := [], harness := (true, "89e1147c7b3f1eaba5187808da0750baef7459daabfb3ac609fca8eef5a419bf"), looks := true }, kinds := [], alts := [], laidByText := true, laidKinds := [.data, .data, .data, .data, .sentinel, .sentinel, .pinned], laidTests := true, laidLooks := .later }
def ParserLinesUptoCardSaid : Prop := Claim7.holds Tryd.pinned (.plain (OpenSpec.upto parserLinesSpec)) parserLinesUptoCard

/-- THE SECOND FORM's CARD OF 'plenumlaw08.ParserBlanks'. -/
def parserBlanksUptoCard : Claim7 := { stood := { row := parserBlanksUptoRow, standIns := [], harness := (true, "89e1147c7b3f1eaba5187808da0750baef7459daabfb3ac609fca8eef5a419bf"), looks := true }, kinds := [], alts := [], laidByText := true, laidKinds := [.data, .data, .data, .data, .sentinel, .sentinel, .pinned], laidTests := true, laidLooks := .later }
def ParserBlanksUptoCardSaid : Prop := Claim7.holds Tryd.pinned (.plain (OpenSpec.upto parserBlanksSpec)) parserBlanksUptoCard

/-- THE SECOND FORM's CARD OF 'plenumlaw08.ParserUndoes'. -/
def parserUndoesUptoCard : Claim7 := { stood := { row := parserUndoesUptoRow, standIns := [], harness := (true, "89e1147c7b3f1eaba5187808da0750baef7459daabfb3ac609fca8eef5a419bf"), looks := true }, kinds := [], alts := [], laidByText := true, laidKinds := [.data, .data, .data, .data, .sentinel, .sentinel, .pinned], laidTests := true, laidLooks := .later }
def ParserUndoesUptoCardSaid : Prop := Claim7.holds Tryd.pinned (.plain (OpenSpec.upto parserUndoesSpec)) parserUndoesUptoCard
end Rows
end Go.Proofs.YteaoeaapmjeciaaDoor
