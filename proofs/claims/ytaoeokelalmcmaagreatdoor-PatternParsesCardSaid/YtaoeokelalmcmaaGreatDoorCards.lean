/-
  DERIVED. GIVEN WITH THE SEED: THE CARDS: each row of YtaoeokelalmcmaaGreatDoorRows.lean that lists a variable, with what it lists TIED to the program's text (the seventh form; the later family's looks); each row that meets fmt, with fmt's text TOLD by the authors' own Lean function (tested against real Go, not proved from fmt's source: count such statements apart). THE CARD IS WHAT COUNTS. Prove the row's statement (the work); the ties are given (YtaoeokelalmcmaaGreatDoorTie.lean); close each card by the builder's one call (the guide's Derived/Test/ToyasCard.lean, 'card_holds'). Laid BY PROGRAM, IN A SANDBOX (cutbox-door.mjs). By AI agents, Wed Nov 11 2026. No macro, syntax, notation, axiom, sorry.
-/
import Derived.Test.YtaoeokelalmcmaaGreatDoorRows
import GoSem.ClaimSeven
namespace Go.Proofs.YtaoeokelalmcmaaGreatDoor
namespace Rows

/-- THE TIED CARD OF 'plenumlaw06.PatternMatches'. -/
def patternMatchesCard : Claim7 := { stood := { row := patternMatchesRow, standIns := [], harness := (true, "500ff883caa5eeac56294f00e875028f97c60237f3f52a663d4b8ea116a54b8e"), looks := true }, kinds := [], alts := [], laidByText := true, laidKinds := [.data, .data, .data, .data, .data, .sentinel, .sentinel, .data, .pinned], laidTests := true, laidLooks := .later }
def PatternMatchesCardSaid : Prop := Claim7.holds Tryz.pinned (.plain (OpenSpec.ofChange patternMatchesSpec)) patternMatchesCard

/-- THE TIED CARD OF 'plenumlaw06.PatternTexts'. -/
def patternTextsCard : Claim7 := { stood := { row := patternTextsRow, standIns := [], harness := (true, "500ff883caa5eeac56294f00e875028f97c60237f3f52a663d4b8ea116a54b8e"), looks := true }, kinds := [], alts := [], laidByText := true, laidKinds := [.data, .data, .data, .data, .data, .sentinel, .sentinel, .data, .pinned], laidTests := true, laidLooks := .later }
def PatternTextsCardSaid : Prop := Claim7.holds Tryz.pinned (.plain (OpenSpec.ofChange patternTextsSpec)) patternTextsCard

/-- THE TIED CARD OF 'plenumlaw06.PatternParses'. -/
def patternParsesCard : Claim7 := { stood := { row := patternParsesRow, standIns := [], harness := (true, "500ff883caa5eeac56294f00e875028f97c60237f3f52a663d4b8ea116a54b8e"), looks := true }, kinds := [], alts := [], laidByText := true, laidKinds := [.data, .data, .data, .data, .data, .sentinel, .sentinel, .data, .pinned], laidTests := true, laidLooks := .later }
def PatternParsesCardSaid : Prop := Claim7.holds Tryz.pinned (.plain (OpenSpec.ofChange patternParsesSpec)) patternParsesCard

/-- THE TIED CARD OF 'plenumlaw06.PatternNext'. -/
def patternNextCard : Claim7 := { stood := { row := patternNextRow, standIns := [], harness := (true, "500ff883caa5eeac56294f00e875028f97c60237f3f52a663d4b8ea116a54b8e"), looks := true }, kinds := [], alts := [], laidByText := true, laidKinds := [.data, .data, .data, .data, .data, .sentinel, .sentinel, .data, .pinned], laidTests := true, laidLooks := .later }
def PatternNextCardSaid : Prop := Claim7.holds Tryz.pinned (.plain (OpenSpec.ofChange patternNextSpec)) patternNextCard

/-- THE TIED CARD OF 'plenumlaw06.PatternImplies'. -/
def patternImpliesCard : Claim7 := { stood := { row := patternImpliesRow, standIns := [], harness := (true, "500ff883caa5eeac56294f00e875028f97c60237f3f52a663d4b8ea116a54b8e"), looks := true }, kinds := [], alts := [], laidByText := true, laidKinds := [.data, .data, .data, .data, .data, .sentinel, .sentinel, .data, .pinned], laidTests := true, laidLooks := .later }
def PatternImpliesCardSaid : Prop := Claim7.holds Tryz.pinned (.plain (OpenSpec.ofChange patternImpliesSpec)) patternImpliesCard

/-- THE TIED CARD OF 'plenumlaw06.PatternTransitive'. -/
def patternTransitiveCard : Claim7 := { stood := { row := patternTransitiveRow, standIns := [], harness := (true, "500ff883caa5eeac56294f00e875028f97c60237f3f52a663d4b8ea116a54b8e"), looks := true }, kinds := [], alts := [], laidByText := true, laidKinds := [.data, .data, .data, .data, .data, .sentinel, .sentinel, .data, .pinned], laidTests := true, laidLooks := .later }
def PatternTransitiveCardSaid : Prop := Claim7.holds Tryz.pinned (.plain (OpenSpec.ofChange patternTransitiveSpec)) patternTransitiveCard

/-- THE TIED CARD OF 'plenumlaw06.PatternCount'. -/
def patternCountCard : Claim7 := { stood := { row := patternCountRow, standIns := [], harness := (true, "500ff883caa5eeac56294f00e875028f97c60237f3f52a663d4b8ea116a54b8e"), looks := true }, kinds := [], alts := [], laidByText := true, laidKinds := [.data, .data, .data, .data, .data, .sentinel, .sentinel, .data, .pinned], laidTests := true, laidLooks := .later }
def PatternCountCardSaid : Prop := Claim7.holds Tryz.pinned (.plain (OpenSpec.ofChange patternCountSpec)) patternCountCard

/-- THE TIED CARD OF 'plenumlaw06.PatternAdjoins'. -/
def patternAdjoinsCard : Claim7 := { stood := { row := patternAdjoinsRow, standIns := [], harness := (true, "500ff883caa5eeac56294f00e875028f97c60237f3f52a663d4b8ea116a54b8e"), looks := true }, kinds := [], alts := [], laidByText := true, laidKinds := [.data, .data, .data, .data, .data, .sentinel, .sentinel, .data, .pinned], laidTests := true, laidLooks := .later }
def PatternAdjoinsCardSaid : Prop := Claim7.holds Tryz.pinned (.plain (OpenSpec.ofChange patternAdjoinsSpec)) patternAdjoinsCard

/-- THE SECOND FORM's CARD OF 'plenumlaw06.PatternMatches'. -/
def patternMatchesUptoCard : Claim7 := { stood := { row := patternMatchesUptoRow, standIns := [], harness := (true, "500ff883caa5eeac56294f00e875028f97c60237f3f52a663d4b8ea116a54b8e"), looks := true }, kinds := [], alts := [], laidByText := true, laidKinds := [.data, .data, .data, .data, .data, .sentinel, .sentinel, .data, .pinned], laidTests := true, laidLooks := .later }
def PatternMatchesUptoCardSaid : Prop := Claim7.holds Tryz.pinned (.plain (OpenSpec.upto patternMatchesSpec)) patternMatchesUptoCard

/-- THE SECOND FORM's CARD OF 'plenumlaw06.PatternTexts'. -/
def patternTextsUptoCard : Claim7 := { stood := { row := patternTextsUptoRow, standIns := [], harness := (true, "500ff883caa5eeac56294f00e875028f97c60237f3f52a663d4b8ea116a54b8e"), looks := true }, kinds := [], alts := [], laidByText := true, laidKinds := [.data, .data, .data, .data, .data, .sentinel, .sentinel, .data, .pinned], laidTests := true, laidLooks := .later }
def PatternTextsUptoCardSaid : Prop := Claim7.holds Tryz.pinned (.plain (OpenSpec.upto patternTextsSpec)) patternTextsUptoCard

/-- THE SECOND FORM's CARD OF 'plenumlaw06.PatternParses'. -/
def patternParsesUptoCard : Claim7 := { stood := { row := patternParsesUptoRow, standIns := [], harness := (true, "500ff883caa5eeac56294f00e875028f97c60237f3f52a663d4b8ea116a54b8e"), looks := true }, kinds := [], alts := [], laidByText := true, laidKinds := [.data, .data, .data, .data, .data, .sentinel, .sentinel, .data, .pinned], laidTests := true, laidLooks := .later }
def PatternParsesUptoCardSaid : Prop := Claim7.holds Tryz.pinned (.plain (OpenSpec.upto patternParsesSpec)) patternParsesUptoCard

/-- THE SECOND FORM's CARD OF 'plenumlaw06.PatternNext'. -/
def patternNextUptoCard : Claim7 := { stood := { row := patternNextUptoRow, standIns := [], harness := (true, "500ff883caa5eeac56294f00e875028f97c60237f3f52a663d4b8ea116a54b8e"), looks := true }, kinds := [], alts := [], laidByText := true, laidKinds := [.data, .data, .data, .data, .data, .sentinel, .sentinel, .data, .pinned], laidTests := true, laidLooks := .later }
def PatternNextUptoCardSaid : Prop := Claim7.holds Tryz.pinned (.plain (OpenSpec.upto patternNextSpec)) patternNextUptoCard

/-- THE SECOND FORM's CARD OF 'plenumlaw06.PatternImplies'. -/
def patternImpliesUptoCard : Claim7 := { stood := { row := patternImpliesUptoRow, standIns := [], harness := (true, "500ff883caa5eeac56294f00e875028f97c60237f3f52a663d4b8ea116a54b8e"), looks := true }, kinds := [], alts := [], laidByText := true, laidKinds := [.data, .data, .data, .data, .data, .sentinel, .sentinel, .data, .pinned], laidTests := true, laidLooks := .later }
def PatternImpliesUptoCardSaid : Prop := Claim7.holds Tryz.pinned (.plain (OpenSpec.upto patternImpliesSpec)) patternImpliesUptoCard

/-- THE SECOND FORM's CARD OF 'plenumlaw06.PatternTransitive'. -/
def patternTransitiveUptoCard : Claim7 := { stood := { row := patternTransitiveUptoRow, standIns := [], harness := (true, "500ff883caa5eeac56294f00e875028f97c60237f3f52a663d4b8ea116a54b8e"), looks := true }, kinds := [], alts := [], laidByText := true, laidKinds := [.data, .data, .data, .data, .data, .sentinel, .sentinel, .data, .pinned], laidTests := true, laidLooks := .later }
def PatternTransitiveUptoCardSaid : Prop := Claim7.holds Tryz.pinned (.plain (OpenSpec.upto patternTransitiveSpec)) patternTransitiveUptoCard

/-- THE SECOND FORM's CARD OF 'plenumlaw06.PatternCount'. -/
def patternCountUptoCard : Claim7 := { stood := { row := patternCountUptoRow, standIns := [], harness := (true, "500ff883caa5eeac56294f00e875028f97c60237f3f52a663d4b8ea116a54b8e"), looks := true }, kinds := [], alts := [], laidByText := true, laidKinds := [.data, .data, .data, .data, .data, .sentinel, .sentinel, .data, .pinned], laidTests := true, laidLooks := .later }
def PatternCountUptoCardSaid : Prop := Claim7.holds Tryz.pinned (.plain (OpenSpec.upto patternCountSpec)) patternCountUptoCard

/-- THE SECOND FORM's CARD OF 'plenumlaw06.PatternAdjoins'. -/
def patternAdjoinsUptoCard : Claim7 := { stood := { row := patternAdjoinsUptoRow, standIns := [], harness := (true, "500ff883caa5eeac56294f00e875028f97c60237f3f52a663d4b8ea116a54b8e"), looks := true }, kinds := [], alts := [], laidByText := true, laidKinds := [.data, .data, .data, .data, .data, .sentinel, .sentinel, .data, .pinned], laidTests := true, laidLooks := .later }
def PatternAdjoinsUptoCardSaid : Prop := Claim7.holds Tryz.pinned (.plain (OpenSpec.upto patternAdjoinsSpec)) patternAdjoinsUptoCard
end Rows
end Go.Proofs.YtaoeokelalmcmaaGreatDoor
