/-
  DERIVED. GIVEN WITH THE SEED: THE CARDS: each row of YtdiflpbioohddaaDoorRows.lean that lists a variable, with what it lists TIED to the program's text (the seventh form; the later family's looks); each row that meets fmt, with fmt's text TOLD by the authors' own Lean function (tested against real Go, not proved from fmt's source: count such statements apart). THE CARD IS WHAT COUNTS. Prove the row's statement (the work); the ties are given (YtdiflpbioohddaaDoorTie.lean); close each card by the builder's one call (the guide's Derived/Test/ToyasCard.lean, 'card_holds'). Laid BY PROGRAM, IN A SANDBOX (cutbox-door.mjs). By AI agents, Wed Nov 11 2026. No macro, syntax, notation, axiom, sorry.
-/
import Derived.Test.YtdiflpbioohddaaDoorRows
import GoSem.ClaimSeven
namespace Go.Proofs.YtdiflpbioohddaaDoor
namespace Rows

/-- THE TIED CARD OF 'dspcompilerlaw41.CodegenRefuses'. -/
def codegenRefusesCard : Claim7 := { stood := { row := codegenRefusesRow, standIns := [], harness := (true, "e189b0b63ee6526dd0b65e9b2facb01de5e2a93f38af493ed0071460ab0d344a"), looks := false }, kinds := [], alts := [], laidByText := true, laidKinds := [.data], laidTests := true, laidLooks := .later }
def CodegenRefusesCardSaid : Prop := Claim7.holds Tryd.pinned (.plain (OpenSpec.ofChange codegenRefusesSpec)) codegenRefusesCard

/-- THE TIED CARD OF 'dspcompilerlaw41.CodegenPlaces'. -/
def codegenPlacesCard : Claim7 := { stood := { row := codegenPlacesRow, standIns := [], harness := (true, "e189b0b63ee6526dd0b65e9b2facb01de5e2a93f38af493ed0071460ab0d344a"), looks := false }, kinds := [], alts := [], laidByText := true, laidKinds := [.data], laidTests := true, laidLooks := .later }
def CodegenPlacesCardSaid : Prop := Claim7.holds Tryd.pinned (.plain (OpenSpec.ofChange codegenPlacesSpec)) codegenPlacesCard

/-- THE TIED CARD OF 'dspcompilerlaw41.CodegenComputes'. -/
def codegenComputesCard : Claim7 := { stood := { row := codegenComputesRow, standIns := [], harness := (true, "e189b0b63ee6526dd0b65e9b2facb01de5e2a93f38af493ed0071460ab0d344a"), looks := false }, kinds := [], alts := [], laidByText := true, laidKinds := [.data], laidTests := true, laidLooks := .later }
def CodegenComputesCardSaid : Prop := Claim7.holds Tryd.pinned (.plain (OpenSpec.ofChange codegenComputesSpec)) codegenComputesCard

/-- THE TIED CARD OF 'dspcompilerlaw41.CodegenRealises'. -/
def codegenRealisesCard : Claim7 := { stood := { row := codegenRealisesRow, standIns := [], harness := (true, "e189b0b63ee6526dd0b65e9b2facb01de5e2a93f38af493ed0071460ab0d344a"), looks := false }, kinds := [], alts := [], laidByText := true, laidKinds := [.data], laidTests := true, laidLooks := .later }
def CodegenRealisesCardSaid : Prop := Claim7.holds Tryd.pinned (.plain (OpenSpec.ofChange codegenRealisesSpec)) codegenRealisesCard

/-- THE TIED CARD OF 'dspcompilerlaw41.CodegenInBlocks'. -/
def codegenInBlocksCard : Claim7 := { stood := { row := codegenInBlocksRow, standIns := [], harness := (true, "e189b0b63ee6526dd0b65e9b2facb01de5e2a93f38af493ed0071460ab0d344a"), looks := false }, kinds := [], alts := [], laidByText := true, laidKinds := [.data], laidTests := true, laidLooks := .later }
def CodegenInBlocksCardSaid : Prop := Claim7.holds Tryd.pinned (.plain (OpenSpec.ofChange codegenInBlocksSpec)) codegenInBlocksCard

/-- THE SECOND FORM's CARD OF 'dspcompilerlaw41.CodegenRefuses'. -/
def codegenRefusesUptoCard : Claim7 := { stood := { row := codegenRefusesUptoRow, standIns := [], harness := (true, "e189b0b63ee6526dd0b65e9b2facb01de5e2a93f38af493ed0071460ab0d344a"), looks := false }, kinds := [], alts := [], laidByText := true, laidKinds := [.data], laidTests := true, laidLooks := .later }
def CodegenRefusesUptoCardSaid : Prop := Claim7.holds Tryd.pinned (.plain (OpenSpec.upto codegenRefusesSpec)) codegenRefusesUptoCard

/-- THE SECOND FORM's CARD OF 'dspcompilerlaw41.CodegenPlaces'. -/
def codegenPlacesUptoCard : Claim7 := { stood := { row := codegenPlacesUptoRow, standIns := [], harness := (true, "e189b0b63ee6526dd0b65e9b2facb01de5e2a93f38af493ed0071460ab0d344a"), looks := false }, kinds := [], alts := [], laidByText := true, laidKinds := [.data], laidTests := true, laidLooks := .later }
def CodegenPlacesUptoCardSaid : Prop := Claim7.holds Tryd.pinned (.plain (OpenSpec.upto codegenPlacesSpec)) codegenPlacesUptoCard

/-- THE SECOND FORM's CARD OF 'dspcompilerlaw41.CodegenComputes'. -/
def codegenComputesUptoCard : Claim7 := { stood := { row := codegenComputesUptoRow, standIns := [], harness := (true, "e189b0b63ee6526dd0b65e9b2facb01de5e2a93f38af493ed0071460ab0d344a"), looks := false }, kinds := [], alts := [], laidByText := true, laidKinds := [.data], laidTests := true, laidLooks := .later }
def CodegenComputesUptoCardSaid : Prop := Claim7.holds Tryd.pinned (.plain (OpenSpec.upto codegenComputesSpec)) codegenComputesUptoCard

/-- THE SECOND FORM's CARD OF 'dspcompilerlaw41.CodegenRealises'. -/
def codegenRealisesUptoCard : Claim7 := { stood := { row := codegenRealisesUptoRow, standIns := [], harness := (true, "e189b0b63ee6526dd0b65e9b2facb01de5e2a93f38af493ed0071460ab0d344a"), looks := false }, kinds := [], alts := [], laidByText := true, laidKinds := [.data], laidTests := true, laidLooks := .later }
def CodegenRealisesUptoCardSaid : Prop := Claim7.holds Tryd.pinned (.plain (OpenSpec.upto codegenRealisesSpec)) codegenRealisesUptoCard

/-- THE SECOND FORM's CARD OF 'dspcompilerlaw41.CodegenInBlocks'. -/
def codegenInBlocksUptoCard : Claim7 := { stood := { row := codegenInBlocksUptoRow, standIns := [], harness := (true, "e189b0b63ee6526dd0b65e9b2facb01de5e2a93f38af493ed0071460ab0d344a"), looks := false }, kinds := [], alts := [], laidByText := true, laidKinds := [.data], laidTests := true, laidLooks := .later }
def CodegenInBlocksUptoCardSaid : Prop := Claim7.holds Tryd.pinned (.plain (OpenSpec.upto codegenInBlocksSpec)) codegenInBlocksUptoCard
end Rows
end Go.Proofs.YtdiflpbioohddaaDoor
