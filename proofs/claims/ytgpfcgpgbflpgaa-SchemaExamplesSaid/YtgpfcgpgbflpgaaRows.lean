/-
  NARROWER THAN 'FOR EVERY INPUT', by the rows' own cells (each row's printed sentence says how): SchemaExamples: loops · SchemaOrder: loops · SchemaChecks: loops · SchemaMatches: loops · SchemaLess: loops.
  DERIVED. THE GIVEN ROWS OF THIS SEAT. 6 by the template 'for every input the law returns true; each argument reads behind the call as it read before'; 0 by the template 'total and deterministic' (their statements: YtgpfcgpgbflpgaaTotals.lean).
  GIVEN WITH THE SEED: the statements are not yours to turn. If you find one false, say at which input.
  Laid BY PROGRAM, IN A SANDBOX (cutbox-rows.mjs): the forced cells as the released guide's own fill.sh prints them over the translation 8ddd7d2cf6dac64f… (all of the seat's roots in one cut). By AI agents, Wed Nov 11 2026. No macro, syntax, notation, axiom, sorry.
-/
import Derived.Test.YtgpfcgpgbflpgaaChecked
import GoSem.Claim
import GoSem.ClaimJoined
import GoSem.ClaimMapViews
import Derived.JoinedTies
import Derived.KernelRfl
namespace Go.Proofs.Ytgpfcgpgbflpgaa
/- THE CELL 'sum', in the pinned program and in every row, IS THE sha256 OF THE DUMP (.gsa) THAT YtgpfcgpgbflpgaaProg.lean LOADS. Nothing in Lean hashes anything: it is a label: what it is worth is what the hold of that sum in a sandbox is worth. -/
noncomputable def Try.pinned : Pinned := { name := "ytgpfcgpgbflpgaa", sum := "8ddd7d2cf6dac64fd719251e2c14c11d64c42d5f5ee00de13dcf909a2fcefd16", checked := Try.checked }
namespace Rows
def none {H : Type} : Left H := { results := [], args := [] }

/-- 'plenumlaw10.SchemaFits': WHATEVER THE INPUT: true; the input reads as it did. -/
def schemaFitsSpec : ChangeSpec := { name := "schemaFits", fn := fun _ => fun
  | [d1, d2] => { results := [.lit (.bool true)], args := [d1, d2] }
  | _ => none }
def schemaFitsRow : OpenClaim := { program := "ytgpfcgpgbflpgaa", sum := "8ddd7d2cf6dac64fd719251e2c14c11d64c42d5f5ee00de13dcf909a2fcefd16", func := "plenum/plenumlaw10.SchemaFits", spec := "schemaFits", inPlace := ["internal/bytealg.IndexByteString", "internal/bytealg.IndexString", "internal/abi.NoEscape", "internal/bytealg.MakeNoZero"], unfollowed := true, recurses := true, named := ["internal/bytealg.MaxLen"], apart := false }
def SchemaFitsSaid : Prop := schemaFitsRow.holds Try.pinned (OpenSpec.ofChange schemaFitsSpec)

/-- ITS FALSE NEIGHBOUR: 'it returns false'. Refute it at one input. -/
def schemaFitsWrong : ChangeSpec := { name := "schemaFits", fn := fun _ => fun
  | [d1, d2] => { results := [.lit (.bool false)], args := [d1, d2] }
  | _ => none }
def SchemaFitsWrongFalsely : Prop := schemaFitsRow.holds Try.pinned (OpenSpec.ofChange schemaFitsWrong)

/-- 'plenumlaw10.SchemaExamples': WHATEVER THE INPUT: true; the input reads as it did. -/
def schemaExamplesSpec : ChangeSpec := { name := "schemaExamples", fn := fun _ => fun
  | [d1, d2] => { results := [.lit (.bool true)], args := [d1, d2] }
  | _ => none }
def schemaExamplesRow : OpenClaim := { program := "ytgpfcgpgbflpgaa", sum := "8ddd7d2cf6dac64fd719251e2c14c11d64c42d5f5ee00de13dcf909a2fcefd16", func := "plenum/plenumlaw10.SchemaExamples", spec := "schemaExamples", inPlace := ["internal/bytealg.IndexByteString", "internal/bytealg.IndexString", "internal/abi.NoEscape", "internal/bytealg.MakeNoZero"], unfollowed := true, recurses := true, named := ["internal/bytealg.MaxLen"], loops := true, apart := false }
def SchemaExamplesSaid : Prop := schemaExamplesRow.holds Try.pinned (OpenSpec.ofChange schemaExamplesSpec)

/-- ITS FALSE NEIGHBOUR: 'it returns false'. Refute it at one input. -/
def schemaExamplesWrong : ChangeSpec := { name := "schemaExamples", fn := fun _ => fun
  | [d1, d2] => { results := [.lit (.bool false)], args := [d1, d2] }
  | _ => none }
def SchemaExamplesWrongFalsely : Prop := schemaExamplesRow.holds Try.pinned (OpenSpec.ofChange schemaExamplesWrong)

/-- 'plenumlaw10.SchemaOrder': WHATEVER THE INPUT: true; the input reads as it did. -/
def schemaOrderSpec : ChangeSpec := { name := "schemaOrder", fn := fun _ => fun
  | [d1, d2, d3] => { results := [.lit (.bool true)], args := [d1, d2, d3] }
  | _ => none }
def schemaOrderRow : OpenClaim := { program := "ytgpfcgpgbflpgaa", sum := "8ddd7d2cf6dac64fd719251e2c14c11d64c42d5f5ee00de13dcf909a2fcefd16", func := "plenum/plenumlaw10.SchemaOrder", spec := "schemaOrder", inPlace := ["internal/bytealg.IndexByteString", "internal/bytealg.IndexString", "internal/abi.NoEscape", "internal/bytealg.MakeNoZero"], unfollowed := true, recurses := true, named := ["internal/bytealg.MaxLen"], loops := true, apart := false }
def SchemaOrderSaid : Prop := schemaOrderRow.holds Try.pinned (OpenSpec.ofChange schemaOrderSpec)

/-- ITS FALSE NEIGHBOUR: 'it returns false'. Refute it at one input. -/
def schemaOrderWrong : ChangeSpec := { name := "schemaOrder", fn := fun _ => fun
  | [d1, d2, d3] => { results := [.lit (.bool false)], args := [d1, d2, d3] }
  | _ => none }
def SchemaOrderWrongFalsely : Prop := schemaOrderRow.holds Try.pinned (OpenSpec.ofChange schemaOrderWrong)

/-- 'plenumlaw10.SchemaChecks': WHATEVER THE INPUT: true; the input reads as it did. -/
def schemaChecksSpec : ChangeSpec := { name := "schemaChecks", fn := fun _ => fun
  | [d] => { results := [.lit (.bool true)], args := [d] }
  | _ => none }
def schemaChecksRow : OpenClaim := { program := "ytgpfcgpgbflpgaa", sum := "8ddd7d2cf6dac64fd719251e2c14c11d64c42d5f5ee00de13dcf909a2fcefd16", func := "plenum/plenumlaw10.SchemaChecks", spec := "schemaChecks", inPlace := ["internal/bytealg.IndexByteString", "internal/bytealg.IndexString", "internal/abi.NoEscape", "internal/bytealg.MakeNoZero"], unfollowed := true, recurses := true, named := ["internal/bytealg.MaxLen"], loops := true, apart := false }
def SchemaChecksSaid : Prop := schemaChecksRow.holds Try.pinned (OpenSpec.ofChange schemaChecksSpec)

/-- ITS FALSE NEIGHBOUR: 'it returns false'. Refute it at one input. -/
def schemaChecksWrong : ChangeSpec := { name := "schemaChecks", fn := fun _ => fun
  | [d] => { results := [.lit (.bool false)], args := [d] }
  | _ => none }
def SchemaChecksWrongFalsely : Prop := schemaChecksRow.holds Try.pinned (OpenSpec.ofChange schemaChecksWrong)

/-- 'plenumlaw10.SchemaMatches': WHATEVER THE INPUT: true; the input reads as it did. -/
def schemaMatchesSpec : ChangeSpec := { name := "schemaMatches", fn := fun _ => fun
  | [d1, d2] => { results := [.lit (.bool true)], args := [d1, d2] }
  | _ => none }
def schemaMatchesRow : OpenClaim := { program := "ytgpfcgpgbflpgaa", sum := "8ddd7d2cf6dac64fd719251e2c14c11d64c42d5f5ee00de13dcf909a2fcefd16", func := "plenum/plenumlaw10.SchemaMatches", spec := "schemaMatches", inPlace := ["internal/bytealg.IndexByteString", "internal/bytealg.IndexString", "internal/abi.NoEscape", "internal/bytealg.MakeNoZero"], unfollowed := true, recurses := true, named := ["internal/bytealg.MaxLen"], loops := true, apart := false }
def SchemaMatchesSaid : Prop := schemaMatchesRow.holds Try.pinned (OpenSpec.ofChange schemaMatchesSpec)

/-- ITS FALSE NEIGHBOUR: 'it returns false'. Refute it at one input. -/
def schemaMatchesWrong : ChangeSpec := { name := "schemaMatches", fn := fun _ => fun
  | [d1, d2] => { results := [.lit (.bool false)], args := [d1, d2] }
  | _ => none }
def SchemaMatchesWrongFalsely : Prop := schemaMatchesRow.holds Try.pinned (OpenSpec.ofChange schemaMatchesWrong)

/-- 'plenumlaw10.SchemaLess': WHATEVER THE INPUT: true; the input reads as it did. -/
def schemaLessSpec : ChangeSpec := { name := "schemaLess", fn := fun _ => fun
  | [d1, d2, d3] => { results := [.lit (.bool true)], args := [d1, d2, d3] }
  | _ => none }
def schemaLessRow : OpenClaim := { program := "ytgpfcgpgbflpgaa", sum := "8ddd7d2cf6dac64fd719251e2c14c11d64c42d5f5ee00de13dcf909a2fcefd16", func := "plenum/plenumlaw10.SchemaLess", spec := "schemaLess", inPlace := ["internal/bytealg.IndexByteString", "internal/bytealg.IndexString", "internal/abi.NoEscape", "internal/bytealg.MakeNoZero"], unfollowed := true, recurses := true, named := ["internal/bytealg.MaxLen"], loops := true, apart := false }
def SchemaLessSaid : Prop := schemaLessRow.holds Try.pinned (OpenSpec.ofChange schemaLessSpec)

/-- ITS FALSE NEIGHBOUR: 'it returns false'. Refute it at one input. -/
def schemaLessWrong : ChangeSpec := { name := "schemaLess", fn := fun _ => fun
  | [d1, d2, d3] => { results := [.lit (.bool false)], args := [d1, d2, d3] }
  | _ => none }
def SchemaLessWrongFalsely : Prop := schemaLessRow.holds Try.pinned (OpenSpec.ofChange schemaLessWrong)

/- THE SECOND FORM. 'bulk': how many values and letters a reading holds, each counted each time it is reached (what is shared counts as often as it is met; a slice's spare places count too). A statement '..UptoSaid' is the law's where the arguments, and the package variables that the reading takes, are together of bulk at most 1048576: NARROWER than '..Said'. Prove '..Said' where nothing that the law and all that it calls make is longer than what came in: it says more and counts as full. Else prove '..UptoSaid'. A law counts once. -/
mutual
def uptoBulk {H : Type} : DataW H → Nat
  | .lit (.string bytes) => bytes.length + 1
  | .lit _ => 1
  | .nil => 1
  | .ptr d => uptoBulk d + 1
  | .slice elems spare => uptoBulkAll elems + uptoBulkAll spare + 1
  | .agg parts => uptoBulkAll parts + 1
  | .iface _ d => uptoBulk d + 1
  | .map entries => uptoBulkEntries entries + 1
  | .held _ => 1
def uptoBulkAll {H : Type} : List (DataW H) → Nat
  | [] => 0
  | d :: r => uptoBulk d + uptoBulkAll r
def uptoBulkEntries {H : Type} : List (Lit × DataW H) → Nat
  | [] => 0
  | x :: r => uptoBulkEntry x + uptoBulkEntries r
def uptoBulkEntry {H : Type} : Lit × DataW H → Nat
  | (.string bytes, d) => bytes.length + uptoBulk d + 1
  | (_, d) => uptoBulk d + 1
 end
def uptoSmall : (H : Type) → List (DataW H) → Bool := fun _ ds => decide (uptoBulkAll ds ≤ 1048576)
def OpenSpec.upto (s : _root_.Go.ChangeSpec) : _root_.Go.OpenSpec := { _root_.Go.OpenSpec.ofChange s with cond := some uptoSmall }

/-- 'plenumlaw10.SchemaFits', WHERE WHAT IT READS IS OF BULK AT MOST 1048576: true; the input reads as it did. -/
def schemaFitsUptoRow : OpenClaim := { program := "ytgpfcgpgbflpgaa", sum := "8ddd7d2cf6dac64fd719251e2c14c11d64c42d5f5ee00de13dcf909a2fcefd16", func := "plenum/plenumlaw10.SchemaFits", spec := "schemaFits", inPlace := ["internal/bytealg.IndexByteString", "internal/bytealg.IndexString", "internal/abi.NoEscape", "internal/bytealg.MakeNoZero"], unfollowed := true, recurses := true, named := ["internal/bytealg.MaxLen"], apart := false, narrowed := true }
def SchemaFitsUptoSaid : Prop := schemaFitsUptoRow.holds Try.pinned (OpenSpec.upto schemaFitsSpec)

/-- 'plenumlaw10.SchemaExamples', WHERE WHAT IT READS IS OF BULK AT MOST 1048576: true; the input reads as it did. -/
def schemaExamplesUptoRow : OpenClaim := { program := "ytgpfcgpgbflpgaa", sum := "8ddd7d2cf6dac64fd719251e2c14c11d64c42d5f5ee00de13dcf909a2fcefd16", func := "plenum/plenumlaw10.SchemaExamples", spec := "schemaExamples", inPlace := ["internal/bytealg.IndexByteString", "internal/bytealg.IndexString", "internal/abi.NoEscape", "internal/bytealg.MakeNoZero"], unfollowed := true, recurses := true, named := ["internal/bytealg.MaxLen"], loops := true, apart := false, narrowed := true }
def SchemaExamplesUptoSaid : Prop := schemaExamplesUptoRow.holds Try.pinned (OpenSpec.upto schemaExamplesSpec)

/-- 'plenumlaw10.SchemaOrder', WHERE WHAT IT READS IS OF BULK AT MOST 1048576: true; the input reads as it did. -/
def schemaOrderUptoRow : OpenClaim := { program := "ytgpfcgpgbflpgaa", sum := "8ddd7d2cf6dac64fd719251e2c14c11d64c42d5f5ee00de13dcf909a2fcefd16", func := "plenum/plenumlaw10.SchemaOrder", spec := "schemaOrder", inPlace := ["internal/bytealg.IndexByteString", "internal/bytealg.IndexString", "internal/abi.NoEscape", "internal/bytealg.MakeNoZero"], unfollowed := true, recurses := true, named := ["internal/bytealg.MaxLen"], loops := true, apart := false, narrowed := true }
def SchemaOrderUptoSaid : Prop := schemaOrderUptoRow.holds Try.pinned (OpenSpec.upto schemaOrderSpec)

/-- 'plenumlaw10.SchemaChecks', WHERE WHAT IT READS IS OF BULK AT MOST 1048576: true; the input reads as it did. -/
def schemaChecksUptoRow : OpenClaim := { program := "ytgpfcgpgbflpgaa", sum := "8ddd7d2cf6dac64fd719251e2c14c11d64c42d5f5ee00de13dcf909a2fcefd16", func := "plenum/plenumlaw10.SchemaChecks", spec := "schemaChecks", inPlace := ["internal/bytealg.IndexByteString", "internal/bytealg.IndexString", "internal/abi.NoEscape", "internal/bytealg.MakeNoZero"], unfollowed := true, recurses := true, named := ["internal/bytealg.MaxLen"], loops := true, apart := false, narrowed := true }
def SchemaChecksUptoSaid : Prop := schemaChecksUptoRow.holds Try.pinned (OpenSpec.upto schemaChecksSpec)

/-- 'plenumlaw10.SchemaMatches', WHERE WHAT IT READS IS OF BULK AT MOST 1048576: true; the input reads as it did. -/
def schemaMatchesUptoRow : OpenClaim := { program := "ytgpfcgpgbflpgaa", sum := "8ddd7d2cf6dac64fd719251e2c14c11d64c42d5f5ee00de13dcf909a2fcefd16", func := "plenum/plenumlaw10.SchemaMatches", spec := "schemaMatches", inPlace := ["internal/bytealg.IndexByteString", "internal/bytealg.IndexString", "internal/abi.NoEscape", "internal/bytealg.MakeNoZero"], unfollowed := true, recurses := true, named := ["internal/bytealg.MaxLen"], loops := true, apart := false, narrowed := true }
def SchemaMatchesUptoSaid : Prop := schemaMatchesUptoRow.holds Try.pinned (OpenSpec.upto schemaMatchesSpec)

/-- 'plenumlaw10.SchemaLess', WHERE WHAT IT READS IS OF BULK AT MOST 1048576: true; the input reads as it did. -/
def schemaLessUptoRow : OpenClaim := { program := "ytgpfcgpgbflpgaa", sum := "8ddd7d2cf6dac64fd719251e2c14c11d64c42d5f5ee00de13dcf909a2fcefd16", func := "plenum/plenumlaw10.SchemaLess", spec := "schemaLess", inPlace := ["internal/bytealg.IndexByteString", "internal/bytealg.IndexString", "internal/abi.NoEscape", "internal/bytealg.MakeNoZero"], unfollowed := true, recurses := true, named := ["internal/bytealg.MaxLen"], loops := true, apart := false, narrowed := true }
def SchemaLessUptoSaid : Prop := schemaLessUptoRow.holds Try.pinned (OpenSpec.upto schemaLessSpec)

end Rows
end Go.Proofs.Ytgpfcgpgbflpgaa
