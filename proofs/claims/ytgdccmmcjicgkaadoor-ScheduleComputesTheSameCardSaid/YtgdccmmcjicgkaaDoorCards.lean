/-
  DERIVED. GIVEN WITH THE SEED: THE CARDS: each row of YtgdccmmcjicgkaaDoorRows.lean that lists a variable, with what it lists TIED to the program's text (the seventh form; the later family's looks); each row that meets fmt, with fmt's text TOLD by the authors' own Lean function (tested against real Go, not proved from fmt's source: count such statements apart). THE CARD IS WHAT COUNTS. Prove the row's statement (the work); the ties are given (YtgdccmmcjicgkaaDoorTie.lean); close each card by the builder's one call (the guide's Derived/Test/ToyasCard.lean, 'card_holds'). Laid BY PROGRAM, IN A SANDBOX (cutbox-door.mjs). By AI agents, Wed Nov 11 2026. No macro, syntax, notation, axiom, sorry.
-/
import Derived.Test.YtgdccmmcjicgkaaDoorRows
import GoSem.ClaimSeven
namespace Go.Proofs.YtgdccmmcjicgkaaDoor
namespace Rows

/-- THE TIED CARD OF 'dspcompilerlaw38.ProcessorWrites'. -/
def processorWritesCard : Claim7 := { stood := { row := processorWritesRow, standIns := [], harness := (true, "b7b19114a8f16320547694941777e099ad07df215f4a95a9daa6295d0e69d2cf"), looks := false }, kinds := [], alts := [], laidByText := true, laidKinds := [.data, .data, .data, .data], laidTests := true, laidLooks := .later }
def ProcessorWritesCardSaid : Prop := Claim7.holds Tryd.pinned (.plain (OpenSpec.ofChange processorWritesSpec)) processorWritesCard

/-- THE TIED CARD OF 'dspcompilerlaw39.SimulateRuns'. -/
def simulateRunsCard : Claim7 := { stood := { row := simulateRunsRow, standIns := [], harness := (true, "b7b19114a8f16320547694941777e099ad07df215f4a95a9daa6295d0e69d2cf"), looks := false }, kinds := [], alts := [], laidByText := true, laidKinds := [.data], laidTests := true, laidLooks := .later }
def SimulateRunsCardSaid : Prop := Claim7.holds Tryd.pinned (.plain (OpenSpec.ofChange simulateRunsSpec)) simulateRunsCard

/-- THE TIED CARD OF 'dspcompilerlaw39.SimulateForgets'. -/
def simulateForgetsCard : Claim7 := { stood := { row := simulateForgetsRow, standIns := [], harness := (true, "b7b19114a8f16320547694941777e099ad07df215f4a95a9daa6295d0e69d2cf"), looks := false }, kinds := [], alts := [], laidByText := true, laidKinds := [.data], laidTests := true, laidLooks := .later }
def SimulateForgetsCardSaid : Prop := Claim7.holds Tryd.pinned (.plain (OpenSpec.ofChange simulateForgetsSpec)) simulateForgetsCard

/-- THE TIED CARD OF 'dspcompilerlaw39.SimulateTimes'. -/
def simulateTimesCard : Claim7 := { stood := { row := simulateTimesRow, standIns := [], harness := (true, "b7b19114a8f16320547694941777e099ad07df215f4a95a9daa6295d0e69d2cf"), looks := false }, kinds := [], alts := [], laidByText := true, laidKinds := [.data], laidTests := true, laidLooks := .later }
def SimulateTimesCardSaid : Prop := Claim7.holds Tryd.pinned (.plain (OpenSpec.ofChange simulateTimesSpec)) simulateTimesCard

/-- THE TIED CARD OF 'dspcompilerlaw39.SimulateDelays'. -/
def simulateDelaysCard : Claim7 := { stood := { row := simulateDelaysRow, standIns := [], harness := (true, "b7b19114a8f16320547694941777e099ad07df215f4a95a9daa6295d0e69d2cf"), looks := false }, kinds := [], alts := [], laidByText := true, laidKinds := [.data], laidTests := true, laidLooks := .later }
def SimulateDelaysCardSaid : Prop := Claim7.holds Tryd.pinned (.plain (OpenSpec.ofChange simulateDelaysSpec)) simulateDelaysCard

/-- THE TIED CARD OF 'dspcompilerlaw39.SimulateSteps'. -/
def simulateStepsCard : Claim7 := { stood := { row := simulateStepsRow, standIns := [], harness := (true, "b7b19114a8f16320547694941777e099ad07df215f4a95a9daa6295d0e69d2cf"), looks := false }, kinds := [], alts := [], laidByText := true, laidKinds := [.data], laidTests := true, laidLooks := .later }
def SimulateStepsCardSaid : Prop := Claim7.holds Tryd.pinned (.plain (OpenSpec.ofChange simulateStepsSpec)) simulateStepsCard

/-- THE TIED CARD OF 'dspcompilerlaw38.ProcessorFindsTheFault'. -/
def processorFindsTheFaultCard : Claim7 := { stood := { row := processorFindsTheFaultRow, standIns := [], harness := (true, "b7b19114a8f16320547694941777e099ad07df215f4a95a9daa6295d0e69d2cf"), looks := false }, kinds := [], alts := [], laidByText := true, laidKinds := [.data, .data, .data, .data], laidTests := true, laidLooks := .later }
def ProcessorFindsTheFaultCardSaid : Prop := Claim7.holds Tryd.pinned (.plain (OpenSpec.ofChange processorFindsTheFaultSpec)) processorFindsTheFaultCard

/-- THE TIED CARD OF 'dspcompilerlaw38.ProcessorChecks'. -/
def processorChecksCard : Claim7 := { stood := { row := processorChecksRow, standIns := [], harness := (true, "b7b19114a8f16320547694941777e099ad07df215f4a95a9daa6295d0e69d2cf"), looks := false }, kinds := [], alts := [], laidByText := true, laidKinds := [.data, .data, .data, .data], laidTests := true, laidLooks := .later }
def ProcessorChecksCardSaid : Prop := Claim7.holds Tryd.pinned (.plain (OpenSpec.ofChange processorChecksSpec)) processorChecksCard

/-- THE TIED CARD OF 'dspcompilerlaw40.ScheduleComputesTheSame'. -/
def scheduleComputesTheSameCard : Claim7 := { stood := { row := scheduleComputesTheSameRow, standIns := [], harness := (true, "b7b19114a8f16320547694941777e099ad07df215f4a95a9daa6295d0e69d2cf"), looks := false }, kinds := [], alts := [], laidByText := true, laidKinds := [.data], laidTests := true, laidLooks := .later }
def ScheduleComputesTheSameCardSaid : Prop := Claim7.holds Tryd.pinned (.plain (OpenSpec.ofChange scheduleComputesTheSameSpec)) scheduleComputesTheSameCard

/-- THE SECOND FORM's CARD OF 'dspcompilerlaw38.ProcessorWrites'. -/
def processorWritesUptoCard : Claim7 := { stood := { row := processorWritesUptoRow, standIns := [], harness := (true, "b7b19114a8f16320547694941777e099ad07df215f4a95a9daa6295d0e69d2cf"), looks := false }, kinds := [], alts := [], laidByText := true, laidKinds := [.data, .data, .data, .data], laidTests := true, laidLooks := .later }
def ProcessorWritesUptoCardSaid : Prop := Claim7.holds Tryd.pinned (.plain (OpenSpec.upto processorWritesSpec)) processorWritesUptoCard

/-- THE SECOND FORM's CARD OF 'dspcompilerlaw39.SimulateRuns'. -/
def simulateRunsUptoCard : Claim7 := { stood := { row := simulateRunsUptoRow, standIns := [], harness := (true, "b7b19114a8f16320547694941777e099ad07df215f4a95a9daa6295d0e69d2cf"), looks := false }, kinds := [], alts := [], laidByText := true, laidKinds := [.data], laidTests := true, laidLooks := .later }
def SimulateRunsUptoCardSaid : Prop := Claim7.holds Tryd.pinned (.plain (OpenSpec.upto simulateRunsSpec)) simulateRunsUptoCard

/-- THE SECOND FORM's CARD OF 'dspcompilerlaw39.SimulateForgets'. -/
def simulateForgetsUptoCard : Claim7 := { stood := { row := simulateForgetsUptoRow, standIns := [], harness := (true, "b7b19114a8f16320547694941777e099ad07df215f4a95a9daa6295d0e69d2cf"), looks := false }, kinds := [], alts := [], laidByText := true, laidKinds := [.data], laidTests := true, laidLooks := .later }
def SimulateForgetsUptoCardSaid : Prop := Claim7.holds Tryd.pinned (.plain (OpenSpec.upto simulateForgetsSpec)) simulateForgetsUptoCard

/-- THE SECOND FORM's CARD OF 'dspcompilerlaw39.SimulateTimes'. -/
def simulateTimesUptoCard : Claim7 := { stood := { row := simulateTimesUptoRow, standIns := [], harness := (true, "b7b19114a8f16320547694941777e099ad07df215f4a95a9daa6295d0e69d2cf"), looks := false }, kinds := [], alts := [], laidByText := true, laidKinds := [.data], laidTests := true, laidLooks := .later }
def SimulateTimesUptoCardSaid : Prop := Claim7.holds Tryd.pinned (.plain (OpenSpec.upto simulateTimesSpec)) simulateTimesUptoCard

/-- THE SECOND FORM's CARD OF 'dspcompilerlaw39.SimulateDelays'. -/
def simulateDelaysUptoCard : Claim7 := { stood := { row := simulateDelaysUptoRow, standIns := [], harness := (true, "b7b19114a8f16320547694941777e099ad07df215f4a95a9daa6295d0e69d2cf"), looks := false }, kinds := [], alts := [], laidByText := true, laidKinds := [.data], laidTests := true, laidLooks := .later }
def SimulateDelaysUptoCardSaid : Prop := Claim7.holds Tryd.pinned (.plain (OpenSpec.upto simulateDelaysSpec)) simulateDelaysUptoCard

/-- THE SECOND FORM's CARD OF 'dspcompilerlaw39.SimulateSteps'. -/
def simulateStepsUptoCard : Claim7 := { stood := { row := simulateStepsUptoRow, standIns := [], harness := (true, "b7b19114a8f16320547694941777e099ad07df215f4a95a9daa6295d0e69d2cf"), looks := false }, kinds := [], alts := [], laidByText := true, laidKinds := [.data], laidTests := true, laidLooks := .later }
def SimulateStepsUptoCardSaid : Prop := Claim7.holds Tryd.pinned (.plain (OpenSpec.upto simulateStepsSpec)) simulateStepsUptoCard

/-- THE SECOND FORM's CARD OF 'dspcompilerlaw38.ProcessorFindsTheFault'. -/
def processorFindsTheFaultUptoCard : Claim7 := { stood := { row := processorFindsTheFaultUptoRow, standIns := [], harness := (true, "b7b19114a8f16320547694941777e099ad07df215f4a95a9daa6295d0e69d2cf"), looks := false }, kinds := [], alts := [], laidByText := true, laidKinds := [.data, .data, .data, .data], laidTests := true, laidLooks := .later }
def ProcessorFindsTheFaultUptoCardSaid : Prop := Claim7.holds Tryd.pinned (.plain (OpenSpec.upto processorFindsTheFaultSpec)) processorFindsTheFaultUptoCard

/-- THE SECOND FORM's CARD OF 'dspcompilerlaw38.ProcessorChecks'. -/
def processorChecksUptoCard : Claim7 := { stood := { row := processorChecksUptoRow, standIns := [], harness := (true, "b7b19114a8f16320547694941777e099ad07df215f4a95a9daa6295d0e69d2cf"), looks := false }, kinds := [], alts := [], laidByText := true, laidKinds := [.data, .data, .data, .data], laidTests := true, laidLooks := .later }
def ProcessorChecksUptoCardSaid : Prop := Claim7.holds Tryd.pinned (.plain (OpenSpec.upto processorChecksSpec)) processorChecksUptoCard

/-- THE SECOND FORM's CARD OF 'dspcompilerlaw40.ScheduleComputesTheSame'. -/
def scheduleComputesTheSameUptoCard : Claim7 := { stood := { row := scheduleComputesTheSameUptoRow, standIns := [], harness := (true, "b7b19114a8f16320547694941777e099ad07df215f4a95a9daa6295d0e69d2cf"), looks := false }, kinds := [], alts := [], laidByText := true, laidKinds := [.data], laidTests := true, laidLooks := .later }
def ScheduleComputesTheSameUptoCardSaid : Prop := Claim7.holds Tryd.pinned (.plain (OpenSpec.upto scheduleComputesTheSameSpec)) scheduleComputesTheSameUptoCard
end Rows
end Go.Proofs.YtgdccmmcjicgkaaDoor
