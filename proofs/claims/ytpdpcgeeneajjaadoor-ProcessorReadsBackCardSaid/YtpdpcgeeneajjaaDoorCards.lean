/-
  DERIVED. GIVEN WITH THE SEED: THE CARDS: each row of YtpdpcgeeneajjaaDoorRows.lean that lists a variable, with what it lists TIED to the program's text (the seventh form; the later family's looks); each row that meets fmt, with fmt's text TOLD by the authors' own Lean function (tested against real Go, not proved from fmt's source: count such statements apart). THE CARD IS WHAT COUNTS. Prove the row's statement (the work); the ties are given (YtpdpcgeeneajjaaDoorTie.lean); close each card by the builder's one call (the guide's Derived/Test/ToyasCard.lean, 'card_holds'). Laid BY PROGRAM, IN A SANDBOX (cutbox-door.mjs). By AI agents, Wed Nov 11 2026. No macro, syntax, notation, axiom, sorry.
-/
import Derived.Test.YtpdpcgeeneajjaaDoorRows
import GoSem.ClaimSeven
namespace Go.Proofs.YtpdpcgeeneajjaaDoor
namespace Rows

/-- THE TIED CARD OF 'dspcompilerlaw38.ProcessorReads'. -/
def processorReadsCard : Claim7 := { stood := { row := processorReadsRow, standIns := [], harness := (true, "0a0749139cfc80e5f6df7b054f2bf3e7310991a68e0b217c20ece85bdcc860e6"), looks := true }, kinds := [], alts := [], laidByText := true, laidKinds := [.data, .data, .data, .data, .sentinel, .sentinel, .data, .pinned], laidTests := true, laidLooks := .later }
def ProcessorReadsCardSaid : Prop := Claim7.holds Tryd.pinned (.plain (OpenSpec.ofChange processorReadsSpec)) processorReadsCard

/-- THE TIED CARD OF 'dspcompilerlaw38.ProcessorReadsBack'. -/
def processorReadsBackCard : Claim7 := { stood := { row := processorReadsBackRow, standIns := [], harness := (true, "0a0749139cfc80e5f6df7b054f2bf3e7310991a68e0b217c20ece85bdcc860e6"), looks := true }, kinds := [], alts := [], laidByText := true, laidKinds := [.data, .data, .data, .data, .sentinel, .sentinel, .data, .pinned], laidTests := true, laidLooks := .later }
def ProcessorReadsBackCardSaid : Prop := Claim7.holds Tryd.pinned (.plain (OpenSpec.ofChange processorReadsBackSpec)) processorReadsBackCard

/-- THE TIED CARD OF 'dspcompilerlaw38.ProcessorNamesLines'. -/
def processorNamesLinesCard : Claim7 := { stood := { row := processorNamesLinesRow, standIns := [], harness := (true, "0a0749139cfc80e5f6df7b054f2bf3e7310991a68e0b217c20ece85bdcc860e6"), looks := true }, kinds := [], alts := [], laidByText := true, laidKinds := [.data, .data, .data, .data, .sentinel, .sentinel, .data, .pinned], laidTests := true, laidLooks := .later }
def ProcessorNamesLinesCardSaid : Prop := Claim7.holds Tryd.pinned (.plain (OpenSpec.ofChange processorNamesLinesSpec)) processorNamesLinesCard

/-- THE SECOND FORM's CARD OF 'dspcompilerlaw38.ProcessorReads'. -/
def processorReadsUptoCard : Claim7 := { stood := { row := processorReadsUptoRow, standIns := [], harness := (true, "0a0749139cfc80e5f6df7b054f2bf3e7310991a68e0b217c20ece85bdcc860e6"), looks := true }, kinds := [], alts := [], laidByText := true, laidKinds := [.data, .data, .data, .data, .sentinel, .sentinel, .data, .pinned], laidTests := true, laidLooks := .later }
def ProcessorReadsUptoCardSaid : Prop := Claim7.holds Tryd.pinned (.plain (OpenSpec.upto processorReadsSpec)) processorReadsUptoCard

/-- THE SECOND FORM's CARD OF 'dspcompilerlaw38.ProcessorReadsBack'. -/
def processorReadsBackUptoCard : Claim7 := { stood := { row := processorReadsBackUptoRow, standIns := [], harness := (true, "0a0749139cfc80e5f6df7b054f2bf3e7310991a68e0b217c20ece85bdcc860e6"), looks := true }, kinds := [], alts := [], laidByText := true, laidKinds := [.data, .data, .data, .data, .sentinel, .sentinel, .data, .pinned], laidTests := true, laidLooks := .later }
def ProcessorReadsBackUptoCardSaid : Prop := Claim7.holds Tryd.pinned (.plain (OpenSpec.upto processorReadsBackSpec)) processorReadsBackUptoCard

/-- THE SECOND FORM's CARD OF 'dspcompilerlaw38.ProcessorNamesLines'. -/
def processorNamesLinesUptoCard : Claim7 := { stood := { row := processorNamesLinesUptoRow, standIns := [], harness := (true, "0a0749139cfc80e5f6df7b054f2bf3e7310991a68e0b217c20ece85bdcc860e6"), looks := true }, kinds := [], alts := [], laidByText := true, laidKinds := [.data, .data, .data, .data, .sentinel, .sentinel, .data, .pinned], laidTests := true, laidLooks := .later }
def ProcessorNamesLinesUptoCardSaid : Prop := Claim7.holds Tryd.pinned (.plain (OpenSpec.upto processorNamesLinesSpec)) processorNamesLinesUptoCard
end Rows
end Go.Proofs.YtpdpcgeeneajjaaDoor
