/-
  DERIVED. GIVEN WITH THE SEED: THE CARDS: each row of YtpmbgcfnehplaaaDoorRows.lean that lists a variable, with what it lists TIED to the program's text (the seventh form; the later family's looks); each row that meets fmt, with fmt's text TOLD by the authors' own Lean function (tested against real Go, not proved from fmt's source: count such statements apart). THE CARD IS WHAT COUNTS. Prove the row's statement (the work); the ties are given (YtpmbgcfnehplaaaDoorTie.lean); close each card by the builder's one call (the guide's Derived/Test/ToyasCard.lean, 'card_holds'). Laid BY PROGRAM, IN A SANDBOX (cutbox-door.mjs). By AI agents, Wed Nov 11 2026. No macro, syntax, notation, axiom, sorry.
-/
import Derived.Test.YtpmbgcfnehplaaaDoorRows
import GoSem.ClaimSeven
namespace Go.Proofs.YtpmbgcfnehplaaaDoor
namespace Rows

/-- THE TIED CARD OF 'dspcompilerlaw40.ScheduleNeverSlower'. -/
def scheduleNeverSlowerCard : Claim7 := { stood := { row := scheduleNeverSlowerRow, standIns := [], harness := (true, "6a4acba7f3de06e22e693615a6022dcdf92508982d20c8aa28bfa53f37cfbf53"), looks := false }, kinds := [], alts := [], laidByText := true, laidKinds := [.data], laidTests := true, laidLooks := .later }
def ScheduleNeverSlowerCardSaid : Prop := Claim7.holds Tryd.pinned (.plain (OpenSpec.ofChange scheduleNeverSlowerSpec)) scheduleNeverSlowerCard

/-- THE SECOND FORM's CARD OF 'dspcompilerlaw40.ScheduleNeverSlower'. -/
def scheduleNeverSlowerUptoCard : Claim7 := { stood := { row := scheduleNeverSlowerUptoRow, standIns := [], harness := (true, "6a4acba7f3de06e22e693615a6022dcdf92508982d20c8aa28bfa53f37cfbf53"), looks := false }, kinds := [], alts := [], laidByText := true, laidKinds := [.data], laidTests := true, laidLooks := .later }
def ScheduleNeverSlowerUptoCardSaid : Prop := Claim7.holds Tryd.pinned (.plain (OpenSpec.upto scheduleNeverSlowerSpec)) scheduleNeverSlowerUptoCard
end Rows
end Go.Proofs.YtpmbgcfnehplaaaDoor
