/-
  No cell of these rows narrows 'for every input' (looked for: loops, veiled, ifaces, maps, wideKeys, modest, calm, conditions, laid).
  DERIVED. THE GIVEN ROWS OF THIS SEAT. 4 by the template 'for every input the law returns true; each argument reads behind the call as it read before'; 0 by the template 'total and deterministic' (their statements: YtimhplkkgbpapaaTotals.lean).
  GIVEN WITH THE SEED: the statements are not yours to turn. If you find one false, say at which input.
  Laid BY PROGRAM, IN A SANDBOX (cutbox-rows.mjs): the forced cells as the released guide's own fill.sh prints them over the translation c26428d834c6a13e… (all of the seat's roots in one cut). By AI agents, Wed Nov 11 2026. No macro, syntax, notation, axiom, sorry.
-/
import Derived.Test.YtimhplkkgbpapaaChecked
import GoSem.Claim
import GoSem.ClaimJoined
import GoSem.ClaimMapViews
import Derived.JoinedTies
import Derived.KernelRfl
namespace Go.Proofs.Ytimhplkkgbpapaa
/- THE CELL 'sum', in the pinned program and in every row, IS THE sha256 OF THE DUMP (.gsa) THAT YtimhplkkgbpapaaProg.lean LOADS. Nothing in Lean hashes anything: it is a label: what it is worth is what the hold of that sum in a sandbox is worth. -/
noncomputable def Try.pinned : Pinned := { name := "ytimhplkkgbpapaa", sum := "c26428d834c6a13e207cb88dedfa642b138ca0950c0c579614d08ac126e87422", checked := Try.checked }
namespace Rows
def none {H : Type} : Left H := { results := [], args := [] }

/-- 'dspcompilerlaw33.BankTurns': WHATEVER THE INPUT: true; the input reads as it did. -/
def bankTurnsSpec : ChangeSpec := { name := "bankTurns", fn := fun _ => fun
  | [d1, d2] => { results := [.lit (.bool true)], args := [d1, d2] }
  | _ => none }
def bankTurnsRow : OpenClaim := { program := "ytimhplkkgbpapaa", sum := "c26428d834c6a13e207cb88dedfa642b138ca0950c0c579614d08ac126e87422", func := "dspcompiler/dspcompilerlaw33.BankTurns", spec := "bankTurns", apart := false }
def BankTurnsSaid : Prop := bankTurnsRow.holds Try.pinned (OpenSpec.ofChange bankTurnsSpec)

/-- ITS FALSE NEIGHBOUR: 'it returns false'. Refute it at one input. -/
def bankTurnsWrong : ChangeSpec := { name := "bankTurns", fn := fun _ => fun
  | [d1, d2] => { results := [.lit (.bool false)], args := [d1, d2] }
  | _ => none }
def BankTurnsWrongFalsely : Prop := bankTurnsRow.holds Try.pinned (OpenSpec.ofChange bankTurnsWrong)

/-- 'dspcompilerlaw33.BankReconstructs': WHATEVER THE INPUT: true; the input reads as it did. -/
def bankReconstructsSpec : ChangeSpec := { name := "bankReconstructs", fn := fun _ => fun
  | [d1, d2] => { results := [.lit (.bool true)], args := [d1, d2] }
  | _ => none }
def bankReconstructsRow : OpenClaim := { program := "ytimhplkkgbpapaa", sum := "c26428d834c6a13e207cb88dedfa642b138ca0950c0c579614d08ac126e87422", func := "dspcompiler/dspcompilerlaw33.BankReconstructs", spec := "bankReconstructs", apart := false }
def BankReconstructsSaid : Prop := bankReconstructsRow.holds Try.pinned (OpenSpec.ofChange bankReconstructsSpec)

/-- ITS FALSE NEIGHBOUR: 'it returns false'. Refute it at one input. -/
def bankReconstructsWrong : ChangeSpec := { name := "bankReconstructs", fn := fun _ => fun
  | [d1, d2] => { results := [.lit (.bool false)], args := [d1, d2] }
  | _ => none }
def BankReconstructsWrongFalsely : Prop := bankReconstructsRow.holds Try.pinned (OpenSpec.ofChange bankReconstructsWrong)

/-- 'dspcompilerlaw33.BankGrows': WHATEVER THE INPUT: true; the input reads as it did. -/
def bankGrowsSpec : ChangeSpec := { name := "bankGrows", fn := fun _ => fun
  | [d1, d2, d3, d4] => { results := [.lit (.bool true)], args := [d1, d2, d3, d4] }
  | _ => none }
def bankGrowsRow : OpenClaim := { program := "ytimhplkkgbpapaa", sum := "c26428d834c6a13e207cb88dedfa642b138ca0950c0c579614d08ac126e87422", func := "dspcompiler/dspcompilerlaw33.BankGrows", spec := "bankGrows", apart := false }
def BankGrowsSaid : Prop := bankGrowsRow.holds Try.pinned (OpenSpec.ofChange bankGrowsSpec)

/-- ITS FALSE NEIGHBOUR: 'it returns false'. Refute it at one input. -/
def bankGrowsWrong : ChangeSpec := { name := "bankGrows", fn := fun _ => fun
  | [d1, d2, d3, d4] => { results := [.lit (.bool false)], args := [d1, d2, d3, d4] }
  | _ => none }
def BankGrowsWrongFalsely : Prop := bankGrowsRow.holds Try.pinned (OpenSpec.ofChange bankGrowsWrong)

/-- 'dspcompilerlaw33.BankTreesReconstruct': WHATEVER THE INPUT: true; the input reads as it did. -/
def bankTreesReconstructSpec : ChangeSpec := { name := "bankTreesReconstruct", fn := fun _ => fun
  | [d1, d2, d3] => { results := [.lit (.bool true)], args := [d1, d2, d3] }
  | _ => none }
def bankTreesReconstructRow : OpenClaim := { program := "ytimhplkkgbpapaa", sum := "c26428d834c6a13e207cb88dedfa642b138ca0950c0c579614d08ac126e87422", func := "dspcompiler/dspcompilerlaw33.BankTreesReconstruct", spec := "bankTreesReconstruct", apart := false }
def BankTreesReconstructSaid : Prop := bankTreesReconstructRow.holds Try.pinned (OpenSpec.ofChange bankTreesReconstructSpec)

/-- ITS FALSE NEIGHBOUR: 'it returns false'. Refute it at one input. -/
def bankTreesReconstructWrong : ChangeSpec := { name := "bankTreesReconstruct", fn := fun _ => fun
  | [d1, d2, d3] => { results := [.lit (.bool false)], args := [d1, d2, d3] }
  | _ => none }
def BankTreesReconstructWrongFalsely : Prop := bankTreesReconstructRow.holds Try.pinned (OpenSpec.ofChange bankTreesReconstructWrong)

/- THE SECOND FORM. 'bulk': how many values and letters a reading holds, each counted each time it is reached (what is shared counts as often as it is met; a slice's spare places count too). A statement '..UptoSaid' is the law's where the arguments, and the package variables that the reading takes, are together of bulk at most 1048576: NARROWER than '..Said'. Prove '..Said' where nothing that the law and all that it calls make is longer than what came in: it says more and counts as full. Else prove '..UptoSaid'. A law counts once. -/
mutual
def uptoBulk {H : Type} : DataW H → Nat
  | .lit (.string bytes) => bytes.length + 1
  | .lit _ => 1
  | .nil => 1
  | .ptr d => uptoBulk d + 1
  | .slice elems spare => uptoBulkAll elems + uptoBulkAll spare + 1
  | .agg parts => uptoBulkAll parts + 1
  | .iface _ d => uptoBulk d + 1
  | .map entries => uptoBulkEntries entries + 1
  | .held _ => 1
def uptoBulkAll {H : Type} : List (DataW H) → Nat
  | [] => 0
  | d :: r => uptoBulk d + uptoBulkAll r
def uptoBulkEntries {H : Type} : List (Lit × DataW H) → Nat
  | [] => 0
  | x :: r => uptoBulkEntry x + uptoBulkEntries r
def uptoBulkEntry {H : Type} : Lit × DataW H → Nat
  | (.string bytes, d) => bytes.length + uptoBulk d + 1
  | (_, d) => uptoBulk d + 1
 end
def uptoSmall : (H : Type) → List (DataW H) → Bool := fun _ ds => decide (uptoBulkAll ds ≤ 1048576)
def OpenSpec.upto (s : _root_.Go.ChangeSpec) : _root_.Go.OpenSpec := { _root_.Go.OpenSpec.ofChange s with cond := some uptoSmall }

/-- 'dspcompilerlaw33.BankTurns', WHERE WHAT IT READS IS OF BULK AT MOST 1048576: true; the input reads as it did. -/
def bankTurnsUptoRow : OpenClaim := { program := "ytimhplkkgbpapaa", sum := "c26428d834c6a13e207cb88dedfa642b138ca0950c0c579614d08ac126e87422", func := "dspcompiler/dspcompilerlaw33.BankTurns", spec := "bankTurns", apart := false, narrowed := true }
def BankTurnsUptoSaid : Prop := bankTurnsUptoRow.holds Try.pinned (OpenSpec.upto bankTurnsSpec)

/-- 'dspcompilerlaw33.BankReconstructs', WHERE WHAT IT READS IS OF BULK AT MOST 1048576: true; the input reads as it did. -/
def bankReconstructsUptoRow : OpenClaim := { program := "ytimhplkkgbpapaa", sum := "c26428d834c6a13e207cb88dedfa642b138ca0950c0c579614d08ac126e87422", func := "dspcompiler/dspcompilerlaw33.BankReconstructs", spec := "bankReconstructs", apart := false, narrowed := true }
def BankReconstructsUptoSaid : Prop := bankReconstructsUptoRow.holds Try.pinned (OpenSpec.upto bankReconstructsSpec)

/-- 'dspcompilerlaw33.BankGrows', WHERE WHAT IT READS IS OF BULK AT MOST 1048576: true; the input reads as it did. -/
def bankGrowsUptoRow : OpenClaim := { program := "ytimhplkkgbpapaa", sum := "c26428d834c6a13e207cb88dedfa642b138ca0950c0c579614d08ac126e87422", func := "dspcompiler/dspcompilerlaw33.BankGrows", spec := "bankGrows", apart := false, narrowed := true }
def BankGrowsUptoSaid : Prop := bankGrowsUptoRow.holds Try.pinned (OpenSpec.upto bankGrowsSpec)

/-- 'dspcompilerlaw33.BankTreesReconstruct', WHERE WHAT IT READS IS OF BULK AT MOST 1048576: true; the input reads as it did. -/
def bankTreesReconstructUptoRow : OpenClaim := { program := "ytimhplkkgbpapaa", sum := "c26428d834c6a13e207cb88dedfa642b138ca0950c0c579614d08ac126e87422", func := "dspcompiler/dspcompilerlaw33.BankTreesReconstruct", spec := "bankTreesReconstruct", apart := false, narrowed := true }
def BankTreesReconstructUptoSaid : Prop := bankTreesReconstructUptoRow.holds Try.pinned (OpenSpec.upto bankTreesReconstructSpec)

end Rows
end Go.Proofs.Ytimhplkkgbpapaa
