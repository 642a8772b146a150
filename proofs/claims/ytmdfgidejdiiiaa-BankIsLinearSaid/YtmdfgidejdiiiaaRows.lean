/-
  No cell of these rows narrows 'for every input' (looked for: loops, veiled, ifaces, maps, wideKeys, modest, calm, conditions, laid).
  DERIVED. THE GIVEN ROWS OF THIS SEAT. 4 by the template 'for every input the law returns true; each argument reads behind the call as it read before'; 0 by the template 'total and deterministic' (their statements: YtmdfgidejdiiiaaTotals.lean).
  GIVEN WITH THE SEED: the statements are not yours to turn. If you find one false, say at which input.
  Laid BY PROGRAM, IN A SANDBOX (cutbox-rows.mjs): the forced cells as the released guide's own fill.sh prints them over the translation 94904ce3628a2f53… (all of the seat's roots in one cut). By AI agents, Wed Nov 11 2026. No macro, syntax, notation, axiom, sorry.
-/
import Derived.Test.YtmdfgidejdiiiaaChecked
import GoSem.Claim
import GoSem.ClaimJoined
import GoSem.ClaimMapViews
import Derived.JoinedTies
import Derived.KernelRfl
namespace Go.Proofs.Ytmdfgidejdiiiaa
/- THE CELL 'sum', in the pinned program and in every row, IS THE sha256 OF THE DUMP (.gsa) THAT YtmdfgidejdiiiaaProg.lean LOADS. Nothing in Lean hashes anything: it is a label: what it is worth is what the hold of that sum in a sandbox is worth. -/
noncomputable def Try.pinned : Pinned := { name := "ytmdfgidejdiiiaa", sum := "94904ce3628a2f53f210b03962ccf7b4f4691d847e3ae4e724606198c1b6b08c", checked := Try.checked }
namespace Rows
def none {H : Type} : Left H := { results := [], args := [] }

/-- 'dspcompilerlaw21.FixedNearest': WHATEVER THE INPUT: true; the input reads as it did. -/
def fixedNearestSpec : ChangeSpec := { name := "fixedNearest", fn := fun _ => fun
  | [d1, d2, d3, d4] => { results := [.lit (.bool true)], args := [d1, d2, d3, d4] }
  | _ => none }
def fixedNearestRow : OpenClaim := { program := "ytmdfgidejdiiiaa", sum := "94904ce3628a2f53f210b03962ccf7b4f4691d847e3ae4e724606198c1b6b08c", func := "dspcompiler/dspcompilerlaw21.FixedNearest", spec := "fixedNearest", unfollowed := true, recurses := true, apart := false }
def FixedNearestSaid : Prop := fixedNearestRow.holds Try.pinned (OpenSpec.ofChange fixedNearestSpec)

/-- ITS FALSE NEIGHBOUR: 'it returns false'. Refute it at one input. -/
def fixedNearestWrong : ChangeSpec := { name := "fixedNearest", fn := fun _ => fun
  | [d1, d2, d3, d4] => { results := [.lit (.bool false)], args := [d1, d2, d3, d4] }
  | _ => none }
def FixedNearestWrongFalsely : Prop := fixedNearestRow.holds Try.pinned (OpenSpec.ofChange fixedNearestWrong)

/-- 'dspcompilerlaw33.BankDoes': WHATEVER THE INPUT: true; the input reads as it did. -/
def bankDoesSpec : ChangeSpec := { name := "bankDoes", fn := fun _ => fun
  | [d1, d2, d3, d4] => { results := [.lit (.bool true)], args := [d1, d2, d3, d4] }
  | _ => none }
def bankDoesRow : OpenClaim := { program := "ytmdfgidejdiiiaa", sum := "94904ce3628a2f53f210b03962ccf7b4f4691d847e3ae4e724606198c1b6b08c", func := "dspcompiler/dspcompilerlaw33.BankDoes", spec := "bankDoes", unfollowed := true, recurses := true, apart := false }
def BankDoesSaid : Prop := bankDoesRow.holds Try.pinned (OpenSpec.ofChange bankDoesSpec)

/-- ITS FALSE NEIGHBOUR: 'it returns false'. Refute it at one input. -/
def bankDoesWrong : ChangeSpec := { name := "bankDoes", fn := fun _ => fun
  | [d1, d2, d3, d4] => { results := [.lit (.bool false)], args := [d1, d2, d3, d4] }
  | _ => none }
def BankDoesWrongFalsely : Prop := bankDoesRow.holds Try.pinned (OpenSpec.ofChange bankDoesWrong)

/-- 'dspcompilerlaw33.BankIsLinear': WHATEVER THE INPUT: true; the input reads as it did. -/
def bankIsLinearSpec : ChangeSpec := { name := "bankIsLinear", fn := fun _ => fun
  | [d1, d2, d3] => { results := [.lit (.bool true)], args := [d1, d2, d3] }
  | _ => none }
def bankIsLinearRow : OpenClaim := { program := "ytmdfgidejdiiiaa", sum := "94904ce3628a2f53f210b03962ccf7b4f4691d847e3ae4e724606198c1b6b08c", func := "dspcompiler/dspcompilerlaw33.BankIsLinear", spec := "bankIsLinear", unfollowed := true, recurses := true, apart := false }
def BankIsLinearSaid : Prop := bankIsLinearRow.holds Try.pinned (OpenSpec.ofChange bankIsLinearSpec)

/-- ITS FALSE NEIGHBOUR: 'it returns false'. Refute it at one input. -/
def bankIsLinearWrong : ChangeSpec := { name := "bankIsLinear", fn := fun _ => fun
  | [d1, d2, d3] => { results := [.lit (.bool false)], args := [d1, d2, d3] }
  | _ => none }
def BankIsLinearWrongFalsely : Prop := bankIsLinearRow.holds Try.pinned (OpenSpec.ofChange bankIsLinearWrong)

/-- 'dspcompilerlaw33.BankIsNearlyExact': WHATEVER THE INPUT: true; the input reads as it did. -/
def bankIsNearlyExactSpec : ChangeSpec := { name := "bankIsNearlyExact", fn := fun _ => fun
  | [d1, d2] => { results := [.lit (.bool true)], args := [d1, d2] }
  | _ => none }
def bankIsNearlyExactRow : OpenClaim := { program := "ytmdfgidejdiiiaa", sum := "94904ce3628a2f53f210b03962ccf7b4f4691d847e3ae4e724606198c1b6b08c", func := "dspcompiler/dspcompilerlaw33.BankIsNearlyExact", spec := "bankIsNearlyExact", unfollowed := true, recurses := true, apart := false }
def BankIsNearlyExactSaid : Prop := bankIsNearlyExactRow.holds Try.pinned (OpenSpec.ofChange bankIsNearlyExactSpec)

/-- ITS FALSE NEIGHBOUR: 'it returns false'. Refute it at one input. -/
def bankIsNearlyExactWrong : ChangeSpec := { name := "bankIsNearlyExact", fn := fun _ => fun
  | [d1, d2] => { results := [.lit (.bool false)], args := [d1, d2] }
  | _ => none }
def BankIsNearlyExactWrongFalsely : Prop := bankIsNearlyExactRow.holds Try.pinned (OpenSpec.ofChange bankIsNearlyExactWrong)

/- THE SECOND FORM. 'bulk': how many values and letters a reading holds, each counted each time it is reached (what is shared counts as often as it is met; a slice's spare places count too). A statement '..UptoSaid' is the law's where the arguments, and the package variables that the reading takes, are together of bulk at most 1048576: NARROWER than '..Said'. Prove '..Said' where nothing that the law and all that it calls make is longer than what came in: it says more and counts as full. Else prove '..UptoSaid'. A law counts once. -/
mutual
def uptoBulk {H : Type} : DataW H → Nat
  | .lit (.string bytes) => bytes.length + 1
  | .lit _ => 1
  | .nil => 1
  | .ptr d => uptoBulk d + 1
  | .slice elems spare => uptoBulkAll elems + uptoBulkAll spare + 1
  | .agg parts => uptoBulkAll parts + 1
  | .iface _ d => uptoBulk d + 1
  | .map entries => uptoBulkEntries entries + 1
  | .held _ => 1
def uptoBulkAll {H : Type} : List (DataW H) → Nat
  | [] => 0
  | d :: r => uptoBulk d + uptoBulkAll r
def uptoBulkEntries {H : Type} : List (Lit × DataW H) → Nat
  | [] => 0
  | x :: r => uptoBulkEntry x + uptoBulkEntries r
def uptoBulkEntry {H : Type} : Lit × DataW H → Nat
  | (.string bytes, d) => bytes.length + uptoBulk d + 1
  | (_, d) => uptoBulk d + 1
 end
def uptoSmall : (H : Type) → List (DataW H) → Bool := fun _ ds => decide (uptoBulkAll ds ≤ 1048576)
def OpenSpec.upto (s : _root_.Go.ChangeSpec) : _root_.Go.OpenSpec := { _root_.Go.OpenSpec.ofChange s with cond := some uptoSmall }

/-- 'dspcompilerlaw21.FixedNearest', WHERE WHAT IT READS IS OF BULK AT MOST 1048576: true; the input reads as it did. -/
def fixedNearestUptoRow : OpenClaim := { program := "ytmdfgidejdiiiaa", sum := "94904ce3628a2f53f210b03962ccf7b4f4691d847e3ae4e724606198c1b6b08c", func := "dspcompiler/dspcompilerlaw21.FixedNearest", spec := "fixedNearest", unfollowed := true, recurses := true, apart := false, narrowed := true }
def FixedNearestUptoSaid : Prop := fixedNearestUptoRow.holds Try.pinned (OpenSpec.upto fixedNearestSpec)

/-- 'dspcompilerlaw33.BankDoes', WHERE WHAT IT READS IS OF BULK AT MOST 1048576: true; the input reads as it did. -/
def bankDoesUptoRow : OpenClaim := { program := "ytmdfgidejdiiiaa", sum := "94904ce3628a2f53f210b03962ccf7b4f4691d847e3ae4e724606198c1b6b08c", func := "dspcompiler/dspcompilerlaw33.BankDoes", spec := "bankDoes", unfollowed := true, recurses := true, apart := false, narrowed := true }
def BankDoesUptoSaid : Prop := bankDoesUptoRow.holds Try.pinned (OpenSpec.upto bankDoesSpec)

/-- 'dspcompilerlaw33.BankIsLinear', WHERE WHAT IT READS IS OF BULK AT MOST 1048576: true; the input reads as it did. -/
def bankIsLinearUptoRow : OpenClaim := { program := "ytmdfgidejdiiiaa", sum := "94904ce3628a2f53f210b03962ccf7b4f4691d847e3ae4e724606198c1b6b08c", func := "dspcompiler/dspcompilerlaw33.BankIsLinear", spec := "bankIsLinear", unfollowed := true, recurses := true, apart := false, narrowed := true }
def BankIsLinearUptoSaid : Prop := bankIsLinearUptoRow.holds Try.pinned (OpenSpec.upto bankIsLinearSpec)

/-- 'dspcompilerlaw33.BankIsNearlyExact', WHERE WHAT IT READS IS OF BULK AT MOST 1048576: true; the input reads as it did. -/
def bankIsNearlyExactUptoRow : OpenClaim := { program := "ytmdfgidejdiiiaa", sum := "94904ce3628a2f53f210b03962ccf7b4f4691d847e3ae4e724606198c1b6b08c", func := "dspcompiler/dspcompilerlaw33.BankIsNearlyExact", spec := "bankIsNearlyExact", unfollowed := true, recurses := true, apart := false, narrowed := true }
def BankIsNearlyExactUptoSaid : Prop := bankIsNearlyExactUptoRow.holds Try.pinned (OpenSpec.upto bankIsNearlyExactSpec)

end Rows
end Go.Proofs.Ytmdfgidejdiiiaa
