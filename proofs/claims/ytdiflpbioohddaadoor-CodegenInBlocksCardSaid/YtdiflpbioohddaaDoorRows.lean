/-
  NARROWER THAN 'FOR EVERY INPUT', by the rows' own cells (each row's printed sentence says how): CodegenRefuses: laid · CodegenPlaces: laid · CodegenComputes: laid · CodegenRealises: laid · CodegenInBlocks: laid.
  DERIVED. THE GIVEN ROWS OF THIS SEAT. 5 by the template 'for every input the law returns true; each argument reads behind the call as it read before'; 0 by the template 'total and deterministic' (their statements: YtdiflpbioohddaaDoorTotals.lean).
  GIVEN WITH THE SEED: the statements are not yours to turn. If you find one false, say at which input.
  Laid BY PROGRAM, IN A SANDBOX (cutbox-rows.mjs): the forced cells as the released guide's own fill.sh prints them over the translation 373268bfa9d25933… (all of the seat's roots in one cut). By AI agents, Wed Nov 11 2026. No macro, syntax, notation, axiom, sorry.
-/
import Derived.Test.YtdiflpbioohddaaDoorChecked
import GoSem.Claim
import GoSem.ClaimJoined
import GoSem.ClaimMapViews
import Derived.JoinedTies
import Derived.KernelRfl
namespace Go.Proofs.YtdiflpbioohddaaDoor
/- THE CELL 'sum', in the pinned program and in every row, IS THE sha256 OF THE DUMP (.gsa) THAT YtdiflpbioohddaaDoorProg.lean LOADS. Nothing in Lean hashes anything: it is a label: what it is worth is what the hold of that sum in a sandbox is worth. -/
noncomputable def Tryd.pinned : Pinned := { name := "ytdiflpbioohddaadoor", sum := "373268bfa9d2593315bec16a4df1e38546e7247061415313e14c8943a6ee171c", checked := Tryd.checked }
namespace Rows
def none {H : Type} : Left H := { results := [], args := [] }

/- WHAT THE LISTED PACKAGE-LEVEL VARIABLES READ AS WHEN THE CALL BEGINS. Each datum BY PROGRAM (the guide's laid-datum.mjs) off the statement by which the dump's own 'gosem.cut.vars' lays the variable. In a bare row this is a premise. The card (YtdiflpbioohddaaDoorCards.lean) ties it to the program's text. -/
def laid_dspcompiler_processor_forms {H : Type} : DataW H := .agg [.agg [.lit (.string [104, 97, 108, 116]), .agg [.lit (.int .i64 0), .lit (.int .i64 0), .lit (.int .i64 0)]], .agg [.lit (.string [99, 108, 101, 97, 114]), .agg [.lit (.int .i64 0), .lit (.int .i64 0), .lit (.int .i64 0)]], .agg [.lit (.string [109, 97, 99]), .agg [.lit (.int .i64 1), .lit (.int .i64 0), .lit (.int .i64 5)]], .agg [.lit (.string [109, 97, 99, 109]), .agg [.lit (.int .i64 2), .lit (.int .i64 0), .lit (.int .i64 5)]], .agg [.lit (.string [109, 97, 99, 99]), .agg [.lit (.int .i64 3), .lit (.int .i64 4), .lit (.int .i64 5)]], .agg [.lit (.string [114, 111, 117, 110, 100]), .agg [.lit (.int .i64 1), .lit (.int .i64 0), .lit (.int .i64 0)]], .agg [.lit (.string [108, 111, 97, 100]), .agg [.lit (.int .i64 1), .lit (.int .i64 2), .lit (.int .i64 0)]], .agg [.lit (.string [115, 116, 111, 114, 101]), .agg [.lit (.int .i64 1), .lit (.int .i64 2), .lit (.int .i64 0)]], .agg [.lit (.string [112, 117, 115, 104]), .agg [.lit (.int .i64 3), .lit (.int .i64 1), .lit (.int .i64 0)]], .agg [.lit (.string [105, 110]), .agg [.lit (.int .i64 1), .lit (.int .i64 0), .lit (.int .i64 0)]], .agg [.lit (.string [111, 117, 116]), .agg [.lit (.int .i64 1), .lit (.int .i64 0), .lit (.int .i64 0)]], .agg [.lit (.string [109, 111, 118, 101]), .agg [.lit (.int .i64 1), .lit (.int .i64 1), .lit (.int .i64 0)]]]

/-- 'dspcompilerlaw41.CodegenRefuses': WHATEVER THE INPUT: true; the input reads as it did. -/
def codegenRefusesSpec : ChangeSpec := { name := "codegenRefuses", fn := fun _ => fun
  | [d1, d2, d3, d4] => { results := [.lit (.bool true)], args := [d1, d2, d3, d4] }
  | _ => none }
def codegenRefusesRow : OpenClaim := { program := "ytdiflpbioohddaadoor", sum := "373268bfa9d2593315bec16a4df1e38546e7247061415313e14c8943a6ee171c", func := "dspcompiler/dspcompilerlaw41.CodegenRefuses", spec := "codegenRefuses", unfollowed := true, recurses := true, named := ["dspcompiler/processor.forms"], apart := false, laid := [("dspcompiler/processor.forms", laid_dspcompiler_processor_forms)] }
def CodegenRefusesSaid : Prop := codegenRefusesRow.holds Tryd.pinned (OpenSpec.ofChange codegenRefusesSpec)

/-- ITS FALSE NEIGHBOUR: 'it returns false'. Refute it at one input. -/
def codegenRefusesWrong : ChangeSpec := { name := "codegenRefuses", fn := fun _ => fun
  | [d1, d2, d3, d4] => { results := [.lit (.bool false)], args := [d1, d2, d3, d4] }
  | _ => none }
def CodegenRefusesWrongFalsely : Prop := codegenRefusesRow.holds Tryd.pinned (OpenSpec.ofChange codegenRefusesWrong)

/-- 'dspcompilerlaw41.CodegenPlaces': WHATEVER THE INPUT: true; the input reads as it did. -/
def codegenPlacesSpec : ChangeSpec := { name := "codegenPlaces", fn := fun _ => fun
  | [d1, d2] => { results := [.lit (.bool true)], args := [d1, d2] }
  | _ => none }
def codegenPlacesRow : OpenClaim := { program := "ytdiflpbioohddaadoor", sum := "373268bfa9d2593315bec16a4df1e38546e7247061415313e14c8943a6ee171c", func := "dspcompiler/dspcompilerlaw41.CodegenPlaces", spec := "codegenPlaces", unfollowed := true, recurses := true, named := ["dspcompiler/processor.forms"], apart := false, laid := [("dspcompiler/processor.forms", laid_dspcompiler_processor_forms)] }
def CodegenPlacesSaid : Prop := codegenPlacesRow.holds Tryd.pinned (OpenSpec.ofChange codegenPlacesSpec)

/-- ITS FALSE NEIGHBOUR: 'it returns false'. Refute it at one input. -/
def codegenPlacesWrong : ChangeSpec := { name := "codegenPlaces", fn := fun _ => fun
  | [d1, d2] => { results := [.lit (.bool false)], args := [d1, d2] }
  | _ => none }
def CodegenPlacesWrongFalsely : Prop := codegenPlacesRow.holds Tryd.pinned (OpenSpec.ofChange codegenPlacesWrong)

/-- 'dspcompilerlaw41.CodegenComputes': WHATEVER THE INPUT: true; the input reads as it did. -/
def codegenComputesSpec : ChangeSpec := { name := "codegenComputes", fn := fun _ => fun
  | [d1, d2, d3] => { results := [.lit (.bool true)], args := [d1, d2, d3] }
  | _ => none }
def codegenComputesRow : OpenClaim := { program := "ytdiflpbioohddaadoor", sum := "373268bfa9d2593315bec16a4df1e38546e7247061415313e14c8943a6ee171c", func := "dspcompiler/dspcompilerlaw41.CodegenComputes", spec := "codegenComputes", unfollowed := true, recurses := true, named := ["dspcompiler/processor.forms"], apart := false, laid := [("dspcompiler/processor.forms", laid_dspcompiler_processor_forms)] }
def CodegenComputesSaid : Prop := codegenComputesRow.holds Tryd.pinned (OpenSpec.ofChange codegenComputesSpec)

/-- ITS FALSE NEIGHBOUR: 'it returns false'. Refute it at one input. -/
def codegenComputesWrong : ChangeSpec := { name := "codegenComputes", fn := fun _ => fun
  | [d1, d2, d3] => { results := [.lit (.bool false)], args := [d1, d2, d3] }
  | _ => none }
def CodegenComputesWrongFalsely : Prop := codegenComputesRow.holds Tryd.pinned (OpenSpec.ofChange codegenComputesWrong)

/-- 'dspcompilerlaw41.CodegenRealises': WHATEVER THE INPUT: true; the input reads as it did. -/
def codegenRealisesSpec : ChangeSpec := { name := "codegenRealises", fn := fun _ => fun
  | [d1, d2, d3] => { results := [.lit (.bool true)], args := [d1, d2, d3] }
  | _ => none }
def codegenRealisesRow : OpenClaim := { program := "ytdiflpbioohddaadoor", sum := "373268bfa9d2593315bec16a4df1e38546e7247061415313e14c8943a6ee171c", func := "dspcompiler/dspcompilerlaw41.CodegenRealises", spec := "codegenRealises", unfollowed := true, recurses := true, named := ["dspcompiler/processor.forms"], apart := false, laid := [("dspcompiler/processor.forms", laid_dspcompiler_processor_forms)] }
def CodegenRealisesSaid : Prop := codegenRealisesRow.holds Tryd.pinned (OpenSpec.ofChange codegenRealisesSpec)

/-- ITS FALSE NEIGHBOUR: 'it returns false'. Refute it at one input. -/
def codegenRealisesWrong : ChangeSpec := { name := "codegenRealises", fn := fun _ => fun
  | [d1, d2, d3] => { results := [.lit (.bool false)], args := [d1, d2, d3] }
  | _ => none }
def CodegenRealisesWrongFalsely : Prop := codegenRealisesRow.holds Tryd.pinned (OpenSpec.ofChange codegenRealisesWrong)

/-- 'dspcompilerlaw41.CodegenInBlocks': WHATEVER THE INPUT: true; the input reads as it did. -/
def codegenInBlocksSpec : ChangeSpec := { name := "codegenInBlocks", fn := fun _ => fun
  | [d1, d2, d3] => { results := [.lit (.bool true)], args := [d1, d2, d3] }
  | _ => none }
def codegenInBlocksRow : OpenClaim := { program := "ytdiflpbioohddaadoor", sum := "373268bfa9d2593315bec16a4df1e38546e7247061415313e14c8943a6ee171c", func := "dspcompiler/dspcompilerlaw41.CodegenInBlocks", spec := "codegenInBlocks", unfollowed := true, recurses := true, named := ["dspcompiler/processor.forms"], apart := false, laid := [("dspcompiler/processor.forms", laid_dspcompiler_processor_forms)] }
def CodegenInBlocksSaid : Prop := codegenInBlocksRow.holds Tryd.pinned (OpenSpec.ofChange codegenInBlocksSpec)

/-- ITS FALSE NEIGHBOUR: 'it returns false'. Refute it at one input. -/
def codegenInBlocksWrong : ChangeSpec := { name := "codegenInBlocks", fn := fun _ => fun
  | [d1, d2, d3] => { results := [.lit (.bool false)], args := [d1, d2, d3] }
  | _ => none }
def CodegenInBlocksWrongFalsely : Prop := codegenInBlocksRow.holds Tryd.pinned (OpenSpec.ofChange codegenInBlocksWrong)

/- THE SECOND FORM. 'bulk': how many values and letters a reading holds, each counted each time it is reached (what is shared counts as often as it is met; a slice's spare places count too). A statement '..UptoSaid' is the law's where the arguments, and the package variables that the reading takes, are together of bulk at most 1048576: NARROWER than '..Said'. Prove '..Said' where nothing that the law and all that it calls make is longer than what came in: it says more and counts as full. Else prove '..UptoSaid'. A law counts once. -/
mutual
def uptoBulk {H : Type} : DataW H → Nat
  | .lit (.string bytes) => bytes.length + 1
  | .lit _ => 1
  | .nil => 1
  | .ptr d => uptoBulk d + 1
  | .slice elems spare => uptoBulkAll elems + uptoBulkAll spare + 1
  | .agg parts => uptoBulkAll parts + 1
  | .iface _ d => uptoBulk d + 1
  | .map entries => uptoBulkEntries entries + 1
  | .held _ => 1
def uptoBulkAll {H : Type} : List (DataW H) → Nat
  | [] => 0
  | d :: r => uptoBulk d + uptoBulkAll r
def uptoBulkEntries {H : Type} : List (Lit × DataW H) → Nat
  | [] => 0
  | x :: r => uptoBulkEntry x + uptoBulkEntries r
def uptoBulkEntry {H : Type} : Lit × DataW H → Nat
  | (.string bytes, d) => bytes.length + uptoBulk d + 1
  | (_, d) => uptoBulk d + 1
 end
def uptoSmall : (H : Type) → List (DataW H) → Bool := fun _ ds => decide (uptoBulkAll ds ≤ 1048576)
def OpenSpec.upto (s : _root_.Go.ChangeSpec) : _root_.Go.OpenSpec := { _root_.Go.OpenSpec.ofChange s with cond := some uptoSmall }

/-- 'dspcompilerlaw41.CodegenRefuses', WHERE WHAT IT READS IS OF BULK AT MOST 1048576: true; the input reads as it did. -/
def codegenRefusesUptoRow : OpenClaim := { program := "ytdiflpbioohddaadoor", sum := "373268bfa9d2593315bec16a4df1e38546e7247061415313e14c8943a6ee171c", func := "dspcompiler/dspcompilerlaw41.CodegenRefuses", spec := "codegenRefuses", unfollowed := true, recurses := true, named := ["dspcompiler/processor.forms"], apart := false, laid := [("dspcompiler/processor.forms", laid_dspcompiler_processor_forms)], narrowed := true }
def CodegenRefusesUptoSaid : Prop := codegenRefusesUptoRow.holds Tryd.pinned (OpenSpec.upto codegenRefusesSpec)

/-- 'dspcompilerlaw41.CodegenPlaces', WHERE WHAT IT READS IS OF BULK AT MOST 1048576: true; the input reads as it did. -/
def codegenPlacesUptoRow : OpenClaim := { program := "ytdiflpbioohddaadoor", sum := "373268bfa9d2593315bec16a4df1e38546e7247061415313e14c8943a6ee171c", func := "dspcompiler/dspcompilerlaw41.CodegenPlaces", spec := "codegenPlaces", unfollowed := true, recurses := true, named := ["dspcompiler/processor.forms"], apart := false, laid := [("dspcompiler/processor.forms", laid_dspcompiler_processor_forms)], narrowed := true }
def CodegenPlacesUptoSaid : Prop := codegenPlacesUptoRow.holds Tryd.pinned (OpenSpec.upto codegenPlacesSpec)

/-- 'dspcompilerlaw41.CodegenComputes', WHERE WHAT IT READS IS OF BULK AT MOST 1048576: true; the input reads as it did. -/
def codegenComputesUptoRow : OpenClaim := { program := "ytdiflpbioohddaadoor", sum := "373268bfa9d2593315bec16a4df1e38546e7247061415313e14c8943a6ee171c", func := "dspcompiler/dspcompilerlaw41.CodegenComputes", spec := "codegenComputes", unfollowed := true, recurses := true, named := ["dspcompiler/processor.forms"], apart := false, laid := [("dspcompiler/processor.forms", laid_dspcompiler_processor_forms)], narrowed := true }
def CodegenComputesUptoSaid : Prop := codegenComputesUptoRow.holds Tryd.pinned (OpenSpec.upto codegenComputesSpec)

/-- 'dspcompilerlaw41.CodegenRealises', WHERE WHAT IT READS IS OF BULK AT MOST 1048576: true; the input reads as it did. -/
def codegenRealisesUptoRow : OpenClaim := { program := "ytdiflpbioohddaadoor", sum := "373268bfa9d2593315bec16a4df1e38546e7247061415313e14c8943a6ee171c", func := "dspcompiler/dspcompilerlaw41.CodegenRealises", spec := "codegenRealises", unfollowed := true, recurses := true, named := ["dspcompiler/processor.forms"], apart := false, laid := [("dspcompiler/processor.forms", laid_dspcompiler_processor_forms)], narrowed := true }
def CodegenRealisesUptoSaid : Prop := codegenRealisesUptoRow.holds Tryd.pinned (OpenSpec.upto codegenRealisesSpec)

/-- 'dspcompilerlaw41.CodegenInBlocks', WHERE WHAT IT READS IS OF BULK AT MOST 1048576: true; the input reads as it did. -/
def codegenInBlocksUptoRow : OpenClaim := { program := "ytdiflpbioohddaadoor", sum := "373268bfa9d2593315bec16a4df1e38546e7247061415313e14c8943a6ee171c", func := "dspcompiler/dspcompilerlaw41.CodegenInBlocks", spec := "codegenInBlocks", unfollowed := true, recurses := true, named := ["dspcompiler/processor.forms"], apart := false, laid := [("dspcompiler/processor.forms", laid_dspcompiler_processor_forms)], narrowed := true }
def CodegenInBlocksUptoSaid : Prop := codegenInBlocksUptoRow.holds Tryd.pinned (OpenSpec.upto codegenInBlocksSpec)

end Rows
end Go.Proofs.YtdiflpbioohddaaDoor
