/-
  DERIVED. GIVEN WITH THE SEED: THE CARDS: each row of YtemefigbnjkdoaaDoorRows.lean that lists a variable, with what it lists TIED to the program's text (the seventh form; the later family's looks); each row that meets fmt, with fmt's text TOLD by the authors' own Lean function (tested against real Go, not proved from fmt's source: count such statements apart). THE CARD IS WHAT COUNTS. Prove the row's statement (the work); the ties are given (YtemefigbnjkdoaaDoorTie.lean); close each card by the builder's one call (the guide's Derived/Test/ToyasCard.lean, 'card_holds'). Laid BY PROGRAM, IN A SANDBOX (cutbox-door.mjs). By AI agents, Wed Nov 11 2026. No macro, syntax, notation, axiom, sorry.
-/
import Derived.Test.YtemefigbnjkdoaaDoorRows
import GoSem.ClaimSeven
namespace Go.Proofs.YtemefigbnjkdoaaDoor
namespace Rows

/-- THE TIED CARD OF 'dspcompilerlaw40.ScheduleGraphs'. -/
def scheduleGraphsCard : Claim7 := { stood := { row := scheduleGraphsRow, standIns := [], harness := (true, "2d8c33f463b64ed3eafe757f1a2595d42463c85934b1589371190b1ba32351c7"), looks := false }, kinds := [], alts := [], laidByText := true, laidKinds := [.data], laidTests := true, laidLooks := .later }
def ScheduleGraphsCardSaid : Prop := Claim7.holds Tryd.pinned (.plain (OpenSpec.ofChange scheduleGraphsSpec)) scheduleGraphsCard

/-- THE TIED CARD OF 'dspcompilerlaw40.ScheduleJudges'. -/
def scheduleJudgesCard : Claim7 := { stood := { row := scheduleJudgesRow, standIns := [], harness := (true, "2d8c33f463b64ed3eafe757f1a2595d42463c85934b1589371190b1ba32351c7"), looks := false }, kinds := [], alts := [], laidByText := true, laidKinds := [.data], laidTests := true, laidLooks := .later }
def ScheduleJudgesCardSaid : Prop := Claim7.holds Tryd.pinned (.plain (OpenSpec.ofChange scheduleJudgesSpec)) scheduleJudgesCard

/-- THE TIED CARD OF 'dspcompilerlaw40.ScheduleIsLegal'. -/
def scheduleIsLegalCard : Claim7 := { stood := { row := scheduleIsLegalRow, standIns := [], harness := (true, "2d8c33f463b64ed3eafe757f1a2595d42463c85934b1589371190b1ba32351c7"), looks := false }, kinds := [], alts := [], laidByText := true, laidKinds := [.data], laidTests := true, laidLooks := .later }
def ScheduleIsLegalCardSaid : Prop := Claim7.holds Tryd.pinned (.plain (OpenSpec.ofChange scheduleIsLegalSpec)) scheduleIsLegalCard

/-- THE SECOND FORM's CARD OF 'dspcompilerlaw40.ScheduleGraphs'. -/
def scheduleGraphsUptoCard : Claim7 := { stood := { row := scheduleGraphsUptoRow, standIns := [], harness := (true, "2d8c33f463b64ed3eafe757f1a2595d42463c85934b1589371190b1ba32351c7"), looks := false }, kinds := [], alts := [], laidByText := true, laidKinds := [.data], laidTests := true, laidLooks := .later }
def ScheduleGraphsUptoCardSaid : Prop := Claim7.holds Tryd.pinned (.plain (OpenSpec.upto scheduleGraphsSpec)) scheduleGraphsUptoCard

/-- THE SECOND FORM's CARD OF 'dspcompilerlaw40.ScheduleJudges'. -/
def scheduleJudgesUptoCard : Claim7 := { stood := { row := scheduleJudgesUptoRow, standIns := [], harness := (true, "2d8c33f463b64ed3eafe757f1a2595d42463c85934b1589371190b1ba32351c7"), looks := false }, kinds := [], alts := [], laidByText := true, laidKinds := [.data], laidTests := true, laidLooks := .later }
def ScheduleJudgesUptoCardSaid : Prop := Claim7.holds Tryd.pinned (.plain (OpenSpec.upto scheduleJudgesSpec)) scheduleJudgesUptoCard

/-- THE SECOND FORM's CARD OF 'dspcompilerlaw40.ScheduleIsLegal'. -/
def scheduleIsLegalUptoCard : Claim7 := { stood := { row := scheduleIsLegalUptoRow, standIns := [], harness := (true, "2d8c33f463b64ed3eafe757f1a2595d42463c85934b1589371190b1ba32351c7"), looks := false }, kinds := [], alts := [], laidByText := true, laidKinds := [.data], laidTests := true, laidLooks := .later }
def ScheduleIsLegalUptoCardSaid : Prop := Claim7.holds Tryd.pinned (.plain (OpenSpec.upto scheduleIsLegalSpec)) scheduleIsLegalUptoCard
end Rows
end Go.Proofs.YtemefigbnjkdoaaDoor
