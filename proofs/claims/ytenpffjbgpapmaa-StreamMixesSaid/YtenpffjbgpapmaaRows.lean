/-
  No cell of these rows narrows 'for every input' (looked for: loops, veiled, ifaces, maps, wideKeys, modest, calm, conditions, laid).
  DERIVED. THE GIVEN ROWS OF THIS SEAT. 8 by the template 'for every input the law returns true; each argument reads behind the call as it read before'; 0 by the template 'total and deterministic' (their statements: YtenpffjbgpapmaaTotals.lean).
  GIVEN WITH THE SEED: the statements are not yours to turn. If you find one false, say at which input.
  Laid BY PROGRAM, IN A SANDBOX (cutbox-rows.mjs): the forced cells as the released guide's own fill.sh prints them over the translation 4c126e519221a17a… (all of the seat's roots in one cut). By AI agents, Wed Nov 11 2026. No macro, syntax, notation, axiom, sorry.
-/
import Derived.Test.YtenpffjbgpapmaaChecked
import GoSem.Claim
import GoSem.ClaimJoined
import GoSem.ClaimMapViews
import Derived.JoinedTies
import Derived.KernelRfl
namespace Go.Proofs.Ytenpffjbgpapmaa
/- THE CELL 'sum', in the pinned program and in every row, IS THE sha256 OF THE DUMP (.gsa) THAT YtenpffjbgpapmaaProg.lean LOADS. Nothing in Lean hashes anything: it is a label: what it is worth is what the hold of that sum in a sandbox is worth. -/
noncomputable def Try.pinned : Pinned := { name := "ytenpffjbgpapmaa", sum := "4c126e519221a17a8e927c50be7c7e4b1a8f261e38ed9e54cd4a6dee421ea5a7", checked := Try.checked }
namespace Rows
def none {H : Type} : Left H := { results := [], args := [] }

/-- 'dspcompilerlaw42.StreamMixes': WHATEVER THE INPUT: true; the input reads as it did. -/
def streamMixesSpec : ChangeSpec := { name := "streamMixes", fn := fun _ => fun
  | [d1, d2, d3, d4, d5, d6, d7, d8] => { results := [.lit (.bool true)], args := [d1, d2, d3, d4, d5, d6, d7, d8] }
  | _ => none }
def streamMixesRow : OpenClaim := { program := "ytenpffjbgpapmaa", sum := "4c126e519221a17a8e927c50be7c7e4b1a8f261e38ed9e54cd4a6dee421ea5a7", func := "dspcompiler/dspcompilerlaw42.StreamMixes", spec := "streamMixes", apart := false }
def StreamMixesSaid : Prop := streamMixesRow.holds Try.pinned (OpenSpec.ofChange streamMixesSpec)

/-- ITS FALSE NEIGHBOUR: 'it returns false'. Refute it at one input. -/
def streamMixesWrong : ChangeSpec := { name := "streamMixes", fn := fun _ => fun
  | [d1, d2, d3, d4, d5, d6, d7, d8] => { results := [.lit (.bool false)], args := [d1, d2, d3, d4, d5, d6, d7, d8] }
  | _ => none }
def StreamMixesWrongFalsely : Prop := streamMixesRow.holds Try.pinned (OpenSpec.ofChange streamMixesWrong)

/-- 'dspcompilerlaw21.FixedShifts': WHATEVER THE INPUT: true; the input reads as it did. -/
def fixedShiftsSpec : ChangeSpec := { name := "fixedShifts", fn := fun _ => fun
  | [d1, d2, d3] => { results := [.lit (.bool true)], args := [d1, d2, d3] }
  | _ => none }
def fixedShiftsRow : OpenClaim := { program := "ytenpffjbgpapmaa", sum := "4c126e519221a17a8e927c50be7c7e4b1a8f261e38ed9e54cd4a6dee421ea5a7", func := "dspcompiler/dspcompilerlaw21.FixedShifts", spec := "fixedShifts", apart := false }
def FixedShiftsSaid : Prop := fixedShiftsRow.holds Try.pinned (OpenSpec.ofChange fixedShiftsSpec)

/-- ITS FALSE NEIGHBOUR: 'it returns false'. Refute it at one input. -/
def fixedShiftsWrong : ChangeSpec := { name := "fixedShifts", fn := fun _ => fun
  | [d1, d2, d3] => { results := [.lit (.bool false)], args := [d1, d2, d3] }
  | _ => none }
def FixedShiftsWrongFalsely : Prop := fixedShiftsRow.holds Try.pinned (OpenSpec.ofChange fixedShiftsWrong)

/-- 'dspcompilerlaw21.FixedRounds': WHATEVER THE INPUT: true; the input reads as it did. -/
def fixedRoundsSpec : ChangeSpec := { name := "fixedRounds", fn := fun _ => fun
  | [d1, d2] => { results := [.lit (.bool true)], args := [d1, d2] }
  | _ => none }
def fixedRoundsRow : OpenClaim := { program := "ytenpffjbgpapmaa", sum := "4c126e519221a17a8e927c50be7c7e4b1a8f261e38ed9e54cd4a6dee421ea5a7", func := "dspcompiler/dspcompilerlaw21.FixedRounds", spec := "fixedRounds", apart := false }
def FixedRoundsSaid : Prop := fixedRoundsRow.holds Try.pinned (OpenSpec.ofChange fixedRoundsSpec)

/-- ITS FALSE NEIGHBOUR: 'it returns false'. Refute it at one input. -/
def fixedRoundsWrong : ChangeSpec := { name := "fixedRounds", fn := fun _ => fun
  | [d1, d2] => { results := [.lit (.bool false)], args := [d1, d2] }
  | _ => none }
def FixedRoundsWrongFalsely : Prop := fixedRoundsRow.holds Try.pinned (OpenSpec.ofChange fixedRoundsWrong)

/-- 'dspcompilerlaw21.FixedShiftsTwice': WHATEVER THE INPUT: true; the input reads as it did. -/
def fixedShiftsTwiceSpec : ChangeSpec := { name := "fixedShiftsTwice", fn := fun _ => fun
  | [d1, d2, d3, d4, d5] => { results := [.lit (.bool true)], args := [d1, d2, d3, d4, d5] }
  | _ => none }
def fixedShiftsTwiceRow : OpenClaim := { program := "ytenpffjbgpapmaa", sum := "4c126e519221a17a8e927c50be7c7e4b1a8f261e38ed9e54cd4a6dee421ea5a7", func := "dspcompiler/dspcompilerlaw21.FixedShiftsTwice", spec := "fixedShiftsTwice", apart := false }
def FixedShiftsTwiceSaid : Prop := fixedShiftsTwiceRow.holds Try.pinned (OpenSpec.ofChange fixedShiftsTwiceSpec)

/-- ITS FALSE NEIGHBOUR: 'it returns false'. Refute it at one input. -/
def fixedShiftsTwiceWrong : ChangeSpec := { name := "fixedShiftsTwice", fn := fun _ => fun
  | [d1, d2, d3, d4, d5] => { results := [.lit (.bool false)], args := [d1, d2, d3, d4, d5] }
  | _ => none }
def FixedShiftsTwiceWrongFalsely : Prop := fixedShiftsTwiceRow.holds Try.pinned (OpenSpec.ofChange fixedShiftsTwiceWrong)

/-- 'dspcompilerlaw21.FixedWrapsSums': WHATEVER THE INPUT: true; the input reads as it did. -/
def fixedWrapsSumsSpec : ChangeSpec := { name := "fixedWrapsSums", fn := fun _ => fun
  | [d1, d2] => { results := [.lit (.bool true)], args := [d1, d2] }
  | _ => none }
def fixedWrapsSumsRow : OpenClaim := { program := "ytenpffjbgpapmaa", sum := "4c126e519221a17a8e927c50be7c7e4b1a8f261e38ed9e54cd4a6dee421ea5a7", func := "dspcompiler/dspcompilerlaw21.FixedWrapsSums", spec := "fixedWrapsSums", apart := false }
def FixedWrapsSumsSaid : Prop := fixedWrapsSumsRow.holds Try.pinned (OpenSpec.ofChange fixedWrapsSumsSpec)

/-- ITS FALSE NEIGHBOUR: 'it returns false'. Refute it at one input. -/
def fixedWrapsSumsWrong : ChangeSpec := { name := "fixedWrapsSums", fn := fun _ => fun
  | [d1, d2] => { results := [.lit (.bool false)], args := [d1, d2] }
  | _ => none }
def FixedWrapsSumsWrongFalsely : Prop := fixedWrapsSumsRow.holds Try.pinned (OpenSpec.ofChange fixedWrapsSumsWrong)

/-- 'dspcompilerlaw21.FixedDots': WHATEVER THE INPUT: true; the input reads as it did. -/
def fixedDotsSpec : ChangeSpec := { name := "fixedDots", fn := fun _ => fun
  | [d1, d2, d3] => { results := [.lit (.bool true)], args := [d1, d2, d3] }
  | _ => none }
def fixedDotsRow : OpenClaim := { program := "ytenpffjbgpapmaa", sum := "4c126e519221a17a8e927c50be7c7e4b1a8f261e38ed9e54cd4a6dee421ea5a7", func := "dspcompiler/dspcompilerlaw21.FixedDots", spec := "fixedDots", apart := false }
def FixedDotsSaid : Prop := fixedDotsRow.holds Try.pinned (OpenSpec.ofChange fixedDotsSpec)

/-- ITS FALSE NEIGHBOUR: 'it returns false'. Refute it at one input. -/
def fixedDotsWrong : ChangeSpec := { name := "fixedDots", fn := fun _ => fun
  | [d1, d2, d3] => { results := [.lit (.bool false)], args := [d1, d2, d3] }
  | _ => none }
def FixedDotsWrongFalsely : Prop := fixedDotsRow.holds Try.pinned (OpenSpec.ofChange fixedDotsWrong)

/-- 'dspcompilerlaw21.FixedSaturatesNearest': WHATEVER THE INPUT: true; the input reads as it did. -/
def fixedSaturatesNearestSpec : ChangeSpec := { name := "fixedSaturatesNearest", fn := fun _ => fun
  | [d1, d2, d3] => { results := [.lit (.bool true)], args := [d1, d2, d3] }
  | _ => none }
def fixedSaturatesNearestRow : OpenClaim := { program := "ytenpffjbgpapmaa", sum := "4c126e519221a17a8e927c50be7c7e4b1a8f261e38ed9e54cd4a6dee421ea5a7", func := "dspcompiler/dspcompilerlaw21.FixedSaturatesNearest", spec := "fixedSaturatesNearest", apart := false }
def FixedSaturatesNearestSaid : Prop := fixedSaturatesNearestRow.holds Try.pinned (OpenSpec.ofChange fixedSaturatesNearestSpec)

/-- ITS FALSE NEIGHBOUR: 'it returns false'. Refute it at one input. -/
def fixedSaturatesNearestWrong : ChangeSpec := { name := "fixedSaturatesNearest", fn := fun _ => fun
  | [d1, d2, d3] => { results := [.lit (.bool false)], args := [d1, d2, d3] }
  | _ => none }
def FixedSaturatesNearestWrongFalsely : Prop := fixedSaturatesNearestRow.holds Try.pinned (OpenSpec.ofChange fixedSaturatesNearestWrong)

/-- 'dspcompilerlaw21.FixedJudges': WHATEVER THE INPUT: true; the input reads as it did. -/
def fixedJudgesSpec : ChangeSpec := { name := "fixedJudges", fn := fun _ => fun
  | [d1, d2] => { results := [.lit (.bool true)], args := [d1, d2] }
  | _ => none }
def fixedJudgesRow : OpenClaim := { program := "ytenpffjbgpapmaa", sum := "4c126e519221a17a8e927c50be7c7e4b1a8f261e38ed9e54cd4a6dee421ea5a7", func := "dspcompiler/dspcompilerlaw21.FixedJudges", spec := "fixedJudges", apart := false }
def FixedJudgesSaid : Prop := fixedJudgesRow.holds Try.pinned (OpenSpec.ofChange fixedJudgesSpec)

/-- ITS FALSE NEIGHBOUR: 'it returns false'. Refute it at one input. -/
def fixedJudgesWrong : ChangeSpec := { name := "fixedJudges", fn := fun _ => fun
  | [d1, d2] => { results := [.lit (.bool false)], args := [d1, d2] }
  | _ => none }
def FixedJudgesWrongFalsely : Prop := fixedJudgesRow.holds Try.pinned (OpenSpec.ofChange fixedJudgesWrong)

/- THE SECOND FORM. 'bulk': how many values and letters a reading holds, each counted each time it is reached (what is shared counts as often as it is met; a slice's spare places count too). A statement '..UptoSaid' is the law's where the arguments, and the package variables that the reading takes, are together of bulk at most 1048576: NARROWER than '..Said'. Prove '..Said' where nothing that the law and all that it calls make is longer than what came in: it says more and counts as full. Else prove '..UptoSaid'. A law counts once. -/
mutual
def uptoBulk {H : Type} : DataW H → Nat
  | .lit (.string bytes) => bytes.length + 1
  | .lit _ => 1
  | .nil => 1
  | .ptr d => uptoBulk d + 1
  | .slice elems spare => uptoBulkAll elems + uptoBulkAll spare + 1
  | .agg parts => uptoBulkAll parts + 1
  | .iface _ d => uptoBulk d + 1
  | .map entries => uptoBulkEntries entries + 1
  | .held _ => 1
def uptoBulkAll {H : Type} : List (DataW H) → Nat
  | [] => 0
  | d :: r => uptoBulk d + uptoBulkAll r
def uptoBulkEntries {H : Type} : List (Lit × DataW H) → Nat
  | [] => 0
  | x :: r => uptoBulkEntry x + uptoBulkEntries r
def uptoBulkEntry {H : Type} : Lit × DataW H → Nat
  | (.string bytes, d) => bytes.length + uptoBulk d + 1
  | (_, d) => uptoBulk d + 1
 end
def uptoSmall : (H : Type) → List (DataW H) → Bool := fun _ ds => decide (uptoBulkAll ds ≤ 1048576)
def OpenSpec.upto (s : _root_.Go.ChangeSpec) : _root_.Go.OpenSpec := { _root_.Go.OpenSpec.ofChange s with cond := some uptoSmall }

/-- 'dspcompilerlaw42.StreamMixes', WHERE WHAT IT READS IS OF BULK AT MOST 1048576: true; the input reads as it did. -/
def streamMixesUptoRow : OpenClaim := { program := "ytenpffjbgpapmaa", sum := "4c126e519221a17a8e927c50be7c7e4b1a8f261e38ed9e54cd4a6dee421ea5a7", func := "dspcompiler/dspcompilerlaw42.StreamMixes", spec := "streamMixes", apart := false, narrowed := true }
def StreamMixesUptoSaid : Prop := streamMixesUptoRow.holds Try.pinned (OpenSpec.upto streamMixesSpec)

/-- 'dspcompilerlaw21.FixedShifts', WHERE WHAT IT READS IS OF BULK AT MOST 1048576: true; the input reads as it did. -/
def fixedShiftsUptoRow : OpenClaim := { program := "ytenpffjbgpapmaa", sum := "4c126e519221a17a8e927c50be7c7e4b1a8f261e38ed9e54cd4a6dee421ea5a7", func := "dspcompiler/dspcompilerlaw21.FixedShifts", spec := "fixedShifts", apart := false, narrowed := true }
def FixedShiftsUptoSaid : Prop := fixedShiftsUptoRow.holds Try.pinned (OpenSpec.upto fixedShiftsSpec)

/-- 'dspcompilerlaw21.FixedRounds', WHERE WHAT IT READS IS OF BULK AT MOST 1048576: true; the input reads as it did. -/
def fixedRoundsUptoRow : OpenClaim := { program := "ytenpffjbgpapmaa", sum := "4c126e519221a17a8e927c50be7c7e4b1a8f261e38ed9e54cd4a6dee421ea5a7", func := "dspcompiler/dspcompilerlaw21.FixedRounds", spec := "fixedRounds", apart := false, narrowed := true }
def FixedRoundsUptoSaid : Prop := fixedRoundsUptoRow.holds Try.pinned (OpenSpec.upto fixedRoundsSpec)

/-- 'dspcompilerlaw21.FixedShiftsTwice', WHERE WHAT IT READS IS OF BULK AT MOST 1048576: true; the input reads as it did. -/
def fixedShiftsTwiceUptoRow : OpenClaim := { program := "ytenpffjbgpapmaa", sum := "4c126e519221a17a8e927c50be7c7e4b1a8f261e38ed9e54cd4a6dee421ea5a7", func := "dspcompiler/dspcompilerlaw21.FixedShiftsTwice", spec := "fixedShiftsTwice", apart := false, narrowed := true }
def FixedShiftsTwiceUptoSaid : Prop := fixedShiftsTwiceUptoRow.holds Try.pinned (OpenSpec.upto fixedShiftsTwiceSpec)

/-- 'dspcompilerlaw21.FixedWrapsSums', WHERE WHAT IT READS IS OF BULK AT MOST 1048576: true; the input reads as it did. -/
def fixedWrapsSumsUptoRow : OpenClaim := { program := "ytenpffjbgpapmaa", sum := "4c126e519221a17a8e927c50be7c7e4b1a8f261e38ed9e54cd4a6dee421ea5a7", func := "dspcompiler/dspcompilerlaw21.FixedWrapsSums", spec := "fixedWrapsSums", apart := false, narrowed := true }
def FixedWrapsSumsUptoSaid : Prop := fixedWrapsSumsUptoRow.holds Try.pinned (OpenSpec.upto fixedWrapsSumsSpec)

/-- 'dspcompilerlaw21.FixedDots', WHERE WHAT IT READS IS OF BULK AT MOST 1048576: true; the input reads as it did. -/
def fixedDotsUptoRow : OpenClaim := { program := "ytenpffjbgpapmaa", sum := "4c126e519221a17a8e927c50be7c7e4b1a8f261e38ed9e54cd4a6dee421ea5a7", func := "dspcompiler/dspcompilerlaw21.FixedDots", spec := "fixedDots", apart := false, narrowed := true }
def FixedDotsUptoSaid : Prop := fixedDotsUptoRow.holds Try.pinned (OpenSpec.upto fixedDotsSpec)

/-- 'dspcompilerlaw21.FixedSaturatesNearest', WHERE WHAT IT READS IS OF BULK AT MOST 1048576: true; the input reads as it did. -/
def fixedSaturatesNearestUptoRow : OpenClaim := { program := "ytenpffjbgpapmaa", sum := "4c126e519221a17a8e927c50be7c7e4b1a8f261e38ed9e54cd4a6dee421ea5a7", func := "dspcompiler/dspcompilerlaw21.FixedSaturatesNearest", spec := "fixedSaturatesNearest", apart := false, narrowed := true }
def FixedSaturatesNearestUptoSaid : Prop := fixedSaturatesNearestUptoRow.holds Try.pinned (OpenSpec.upto fixedSaturatesNearestSpec)

/-- 'dspcompilerlaw21.FixedJudges', WHERE WHAT IT READS IS OF BULK AT MOST 1048576: true; the input reads as it did. -/
def fixedJudgesUptoRow : OpenClaim := { program := "ytenpffjbgpapmaa", sum := "4c126e519221a17a8e927c50be7c7e4b1a8f261e38ed9e54cd4a6dee421ea5a7", func := "dspcompiler/dspcompilerlaw21.FixedJudges", spec := "fixedJudges", apart := false, narrowed := true }
def FixedJudgesUptoSaid : Prop := fixedJudgesUptoRow.holds Try.pinned (OpenSpec.upto fixedJudgesSpec)

end Rows
end Go.Proofs.Ytenpffjbgpapmaa
