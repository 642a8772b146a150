/-
  No cell of these rows narrows 'for every input' (looked for: loops, veiled, ifaces, maps, wideKeys, modest, calm, conditions, laid).
  DERIVED. THE GIVEN ROWS OF THIS SEAT. 4 by the template 'for every input the law returns true; each argument reads behind the call as it read before'; 0 by the template 'total and deterministic' (their statements: YthalkhpdcijlkaaTotals.lean).
  GIVEN WITH THE SEED: the statements are not yours to turn. If you find one false, say at which input.
  Laid BY PROGRAM, IN A SANDBOX (cutbox-rows.mjs): the forced cells as the released guide's own fill.sh prints them over the translation 0c0d5910bb10d640… (all of the seat's roots in one cut). By AI agents, Wed Nov 11 2026. No macro, syntax, notation, axiom, sorry.
-/
import Derived.Test.YthalkhpdcijlkaaChecked
import GoSem.Claim
import GoSem.ClaimJoined
import GoSem.ClaimMapViews
import Derived.JoinedTies
import Derived.KernelRfl
namespace Go.Proofs.Ythalkhpdcijlkaa
/- THE CELL 'sum', in the pinned program and in every row, IS THE sha256 OF THE DUMP (.gsa) THAT YthalkhpdcijlkaaProg.lean LOADS. Nothing in Lean hashes anything: it is a label: what it is worth is what the hold of that sum in a sandbox is worth. -/
noncomputable def Try.pinned : Pinned := { name := "ythalkhpdcijlkaa", sum := "0c0d5910bb10d640b844c1a0b0c0d9f12e61cd6f439ab29c1983aaf3490aebb1", checked := Try.checked }
namespace Rows
def none {H : Type} : Left H := { results := [], args := [] }

/-- 'dspcompilerlaw32.MultirateExchanges': WHATEVER THE INPUT: true; the input reads as it did. -/
def multirateExchangesSpec : ChangeSpec := { name := "multirateExchanges", fn := fun _ => fun
  | [d1, d2, d3] => { results := [.lit (.bool true)], args := [d1, d2, d3] }
  | _ => none }
def multirateExchangesRow : OpenClaim := { program := "ythalkhpdcijlkaa", sum := "0c0d5910bb10d640b844c1a0b0c0d9f12e61cd6f439ab29c1983aaf3490aebb1", func := "dspcompiler/dspcompilerlaw32.MultirateExchanges", spec := "multirateExchanges", apart := false }
def MultirateExchangesSaid : Prop := multirateExchangesRow.holds Try.pinned (OpenSpec.ofChange multirateExchangesSpec)

/-- ITS FALSE NEIGHBOUR: 'it returns false'. Refute it at one input. -/
def multirateExchangesWrong : ChangeSpec := { name := "multirateExchanges", fn := fun _ => fun
  | [d1, d2, d3] => { results := [.lit (.bool false)], args := [d1, d2, d3] }
  | _ => none }
def MultirateExchangesWrongFalsely : Prop := multirateExchangesRow.holds Try.pinned (OpenSpec.ofChange multirateExchangesWrong)

/-- 'dspcompilerlaw32.MultirateCombines': WHATEVER THE INPUT: true; the input reads as it did. -/
def multirateCombinesSpec : ChangeSpec := { name := "multirateCombines", fn := fun _ => fun
  | [d1, d2, d3] => { results := [.lit (.bool true)], args := [d1, d2, d3] }
  | _ => none }
def multirateCombinesRow : OpenClaim := { program := "ythalkhpdcijlkaa", sum := "0c0d5910bb10d640b844c1a0b0c0d9f12e61cd6f439ab29c1983aaf3490aebb1", func := "dspcompiler/dspcompilerlaw32.MultirateCombines", spec := "multirateCombines", apart := false }
def MultirateCombinesSaid : Prop := multirateCombinesRow.holds Try.pinned (OpenSpec.ofChange multirateCombinesSpec)

/-- ITS FALSE NEIGHBOUR: 'it returns false'. Refute it at one input. -/
def multirateCombinesWrong : ChangeSpec := { name := "multirateCombines", fn := fun _ => fun
  | [d1, d2, d3] => { results := [.lit (.bool false)], args := [d1, d2, d3] }
  | _ => none }
def MultirateCombinesWrongFalsely : Prop := multirateCombinesRow.holds Try.pinned (OpenSpec.ofChange multirateCombinesWrong)

/-- 'dspcompilerlaw32.MultirateRates': WHATEVER THE INPUT: true; the input reads as it did. -/
def multirateRatesSpec : ChangeSpec := { name := "multirateRates", fn := fun _ => fun
  | [d1, d2, d3] => { results := [.lit (.bool true)], args := [d1, d2, d3] }
  | _ => none }
def multirateRatesRow : OpenClaim := { program := "ythalkhpdcijlkaa", sum := "0c0d5910bb10d640b844c1a0b0c0d9f12e61cd6f439ab29c1983aaf3490aebb1", func := "dspcompiler/dspcompilerlaw32.MultirateRates", spec := "multirateRates", apart := false }
def MultirateRatesSaid : Prop := multirateRatesRow.holds Try.pinned (OpenSpec.ofChange multirateRatesSpec)

/-- ITS FALSE NEIGHBOUR: 'it returns false'. Refute it at one input. -/
def multirateRatesWrong : ChangeSpec := { name := "multirateRates", fn := fun _ => fun
  | [d1, d2, d3] => { results := [.lit (.bool false)], args := [d1, d2, d3] }
  | _ => none }
def MultirateRatesWrongFalsely : Prop := multirateRatesRow.holds Try.pinned (OpenSpec.ofChange multirateRatesWrong)

/-- 'dspcompilerlaw32.MultiratePhases': WHATEVER THE INPUT: true; the input reads as it did. -/
def multiratePhasesSpec : ChangeSpec := { name := "multiratePhases", fn := fun _ => fun
  | [d1, d2, d3] => { results := [.lit (.bool true)], args := [d1, d2, d3] }
  | _ => none }
def multiratePhasesRow : OpenClaim := { program := "ythalkhpdcijlkaa", sum := "0c0d5910bb10d640b844c1a0b0c0d9f12e61cd6f439ab29c1983aaf3490aebb1", func := "dspcompiler/dspcompilerlaw32.MultiratePhases", spec := "multiratePhases", apart := false }
def MultiratePhasesSaid : Prop := multiratePhasesRow.holds Try.pinned (OpenSpec.ofChange multiratePhasesSpec)

/-- ITS FALSE NEIGHBOUR: 'it returns false'. Refute it at one input. -/
def multiratePhasesWrong : ChangeSpec := { name := "multiratePhases", fn := fun _ => fun
  | [d1, d2, d3] => { results := [.lit (.bool false)], args := [d1, d2, d3] }
  | _ => none }
def MultiratePhasesWrongFalsely : Prop := multiratePhasesRow.holds Try.pinned (OpenSpec.ofChange multiratePhasesWrong)

/- THE SECOND FORM. 'bulk': how many values and letters a reading holds, each counted each time it is reached (what is shared counts as often as it is met; a slice's spare places count too). A statement '..UptoSaid' is the law's where the arguments, and the package variables that the reading takes, are together of bulk at most 1048576: NARROWER than '..Said'. Prove '..Said' where nothing that the law and all that it calls make is longer than what came in: it says more and counts as full. Else prove '..UptoSaid'. A law counts once. -/
mutual
def uptoBulk {H : Type} : DataW H → Nat
  | .lit (.string bytes) => bytes.length + 1
  | .lit _ => 1
  | .nil => 1
  | .ptr d => uptoBulk d + 1
  | .slice elems spare => uptoBulkAll elems + uptoBulkAll spare + 1
  | .agg parts => uptoBulkAll parts + 1
  | .iface _ d => uptoBulk d + 1
  | .map entries => uptoBulkEntries entries + 1
  | .held _ => 1
def uptoBulkAll {H : Type} : List (DataW H) → Nat
  | [] => 0
  | d :: r => uptoBulk d + uptoBulkAll r
def uptoBulkEntries {H : Type} : List (Lit × DataW H) → Nat
  | [] => 0
  | x :: r => uptoBulkEntry x + uptoBulkEntries r
def uptoBulkEntry {H : Type} : Lit × DataW H → Nat
  | (.string bytes, d) => bytes.length + uptoBulk d + 1
  | (_, d) => uptoBulk d + 1
 end
def uptoSmall : (H : Type) → List (DataW H) → Bool := fun _ ds => decide (uptoBulkAll ds ≤ 1048576)
def OpenSpec.upto (s : _root_.Go.ChangeSpec) : _root_.Go.OpenSpec := { _root_.Go.OpenSpec.ofChange s with cond := some uptoSmall }

/-- 'dspcompilerlaw32.MultirateExchanges', WHERE WHAT IT READS IS OF BULK AT MOST 1048576: true; the input reads as it did. -/
def multirateExchangesUptoRow : OpenClaim := { program := "ythalkhpdcijlkaa", sum := "0c0d5910bb10d640b844c1a0b0c0d9f12e61cd6f439ab29c1983aaf3490aebb1", func := "dspcompiler/dspcompilerlaw32.MultirateExchanges", spec := "multirateExchanges", apart := false, narrowed := true }
def MultirateExchangesUptoSaid : Prop := multirateExchangesUptoRow.holds Try.pinned (OpenSpec.upto multirateExchangesSpec)

/-- 'dspcompilerlaw32.MultirateCombines', WHERE WHAT IT READS IS OF BULK AT MOST 1048576: true; the input reads as it did. -/
def multirateCombinesUptoRow : OpenClaim := { program := "ythalkhpdcijlkaa", sum := "0c0d5910bb10d640b844c1a0b0c0d9f12e61cd6f439ab29c1983aaf3490aebb1", func := "dspcompiler/dspcompilerlaw32.MultirateCombines", spec := "multirateCombines", apart := false, narrowed := true }
def MultirateCombinesUptoSaid : Prop := multirateCombinesUptoRow.holds Try.pinned (OpenSpec.upto multirateCombinesSpec)

/-- 'dspcompilerlaw32.MultirateRates', WHERE WHAT IT READS IS OF BULK AT MOST 1048576: true; the input reads as it did. -/
def multirateRatesUptoRow : OpenClaim := { program := "ythalkhpdcijlkaa", sum := "0c0d5910bb10d640b844c1a0b0c0d9f12e61cd6f439ab29c1983aaf3490aebb1", func := "dspcompiler/dspcompilerlaw32.MultirateRates", spec := "multirateRates", apart := false, narrowed := true }
def MultirateRatesUptoSaid : Prop := multirateRatesUptoRow.holds Try.pinned (OpenSpec.upto multirateRatesSpec)

/-- 'dspcompilerlaw32.MultiratePhases', WHERE WHAT IT READS IS OF BULK AT MOST 1048576: true; the input reads as it did. -/
def multiratePhasesUptoRow : OpenClaim := { program := "ythalkhpdcijlkaa", sum := "0c0d5910bb10d640b844c1a0b0c0d9f12e61cd6f439ab29c1983aaf3490aebb1", func := "dspcompiler/dspcompilerlaw32.MultiratePhases", spec := "multiratePhases", apart := false, narrowed := true }
def MultiratePhasesUptoSaid : Prop := multiratePhasesUptoRow.holds Try.pinned (OpenSpec.upto multiratePhasesSpec)

end Rows
end Go.Proofs.Ythalkhpdcijlkaa
