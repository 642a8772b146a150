/-
  NARROWER THAN 'FOR EVERY INPUT', by the rows' own cells (each row's printed sentence says how): ScheduleGraphs: laid · ScheduleJudges: laid · ScheduleIsLegal: laid.
  DERIVED. THE GIVEN ROWS OF THIS SEAT. 3 by the template 'for every input the law returns true; each argument reads behind the call as it read before'; 0 by the template 'total and deterministic' (their statements: YtemefigbnjkdoaaDoorTotals.lean).
  GIVEN WITH THE SEED: the statements are not yours to turn. If you find one false, say at which input.
  Laid BY PROGRAM, IN A SANDBOX (cutbox-rows.mjs): the forced cells as the released guide's own fill.sh prints them over the translation cd71bf295984132c… (all of the seat's roots in one cut). By AI agents, Wed Nov 11 2026. No macro, syntax, notation, axiom, sorry.
-/
import Derived.Test.YtemefigbnjkdoaaDoorChecked
import GoSem.Claim
import GoSem.ClaimJoined
import GoSem.ClaimMapViews
import Derived.JoinedTies
import Derived.KernelRfl
namespace Go.Proofs.YtemefigbnjkdoaaDoor
/- THE CELL 'sum', in the pinned program and in every row, IS THE sha256 OF THE DUMP (.gsa) THAT YtemefigbnjkdoaaDoorProg.lean LOADS. Nothing in Lean hashes anything: it is a label: what it is worth is what the hold of that sum in a sandbox is worth. -/
noncomputable def Tryd.pinned : Pinned := { name := "ytemefigbnjkdoaadoor", sum := "cd71bf295984132c70fb55c23acec0d18f5f0ebb5aaffa02ee99550bf5e21665", checked := Tryd.checked }
namespace Rows
def none {H : Type} : Left H := { results := [], args := [] }

/- WHAT THE LISTED PACKAGE-LEVEL VARIABLES READ AS WHEN THE CALL BEGINS. Each datum BY PROGRAM (the guide's laid-datum.mjs) off the statement by which the dump's own 'gosem.cut.vars' lays the variable. In a bare row this is a premise. The card (YtemefigbnjkdoaaDoorCards.lean) ties it to the program's text. -/
def laid_dspcompiler_processor_forms {H : Type} : DataW H := .agg [.agg [.lit (.string [104, 97, 108, 116]), .agg [.lit (.int .i64 0), .lit (.int .i64 0), .lit (.int .i64 0)]], .agg [.lit (.string [99, 108, 101, 97, 114]), .agg [.lit (.int .i64 0), .lit (.int .i64 0), .lit (.int .i64 0)]], .agg [.lit (.string [109, 97, 99]), .agg [.lit (.int .i64 1), .lit (.int .i64 0), .lit (.int .i64 5)]], .agg [.lit (.string [109, 97, 99, 109]), .agg [.lit (.int .i64 2), .lit (.int .i64 0), .lit (.int .i64 5)]], .agg [.lit (.string [109, 97, 99, 99]), .agg [.lit (.int .i64 3), .lit (.int .i64 4), .lit (.int .i64 5)]], .agg [.lit (.string [114, 111, 117, 110, 100]), .agg [.lit (.int .i64 1), .lit (.int .i64 0), .lit (.int .i64 0)]], .agg [.lit (.string [108, 111, 97, 100]), .agg [.lit (.int .i64 1), .lit (.int .i64 2), .lit (.int .i64 0)]], .agg [.lit (.string [115, 116, 111, 114, 101]), .agg [.lit (.int .i64 1), .lit (.int .i64 2), .lit (.int .i64 0)]], .agg [.lit (.string [112, 117, 115, 104]), .agg [.lit (.int .i64 3), .lit (.int .i64 1), .lit (.int .i64 0)]], .agg [.lit (.string [105, 110]), .agg [.lit (.int .i64 1), .lit (.int .i64 0), .lit (.int .i64 0)]], .agg [.lit (.string [111, 117, 116]), .agg [.lit (.int .i64 1), .lit (.int .i64 0), .lit (.int .i64 0)]], .agg [.lit (.string [109, 111, 118, 101]), .agg [.lit (.int .i64 1), .lit (.int .i64 1), .lit (.int .i64 0)]]]

/-- 'dspcompilerlaw40.ScheduleGraphs': WHATEVER THE INPUT: true; the input reads as it did. -/
def scheduleGraphsSpec : ChangeSpec := { name := "scheduleGraphs", fn := fun _ => fun
  | [d] => { results := [.lit (.bool true)], args := [d] }
  | _ => none }
def scheduleGraphsRow : OpenClaim := { program := "ytemefigbnjkdoaadoor", sum := "cd71bf295984132c70fb55c23acec0d18f5f0ebb5aaffa02ee99550bf5e21665", func := "dspcompiler/dspcompilerlaw40.ScheduleGraphs", spec := "scheduleGraphs", unfollowed := true, recurses := true, named := ["dspcompiler/processor.forms"], plainKeys := false, apart := false, laid := [("dspcompiler/processor.forms", laid_dspcompiler_processor_forms)] }
def ScheduleGraphsSaid : Prop := scheduleGraphsRow.holds Tryd.pinned (OpenSpec.ofChange scheduleGraphsSpec)

/-- ITS FALSE NEIGHBOUR: 'it returns false'. Refute it at one input. -/
def scheduleGraphsWrong : ChangeSpec := { name := "scheduleGraphs", fn := fun _ => fun
  | [d] => { results := [.lit (.bool false)], args := [d] }
  | _ => none }
def ScheduleGraphsWrongFalsely : Prop := scheduleGraphsRow.holds Tryd.pinned (OpenSpec.ofChange scheduleGraphsWrong)

/-- 'dspcompilerlaw40.ScheduleJudges': WHATEVER THE INPUT: true; the input reads as it did. -/
def scheduleJudgesSpec : ChangeSpec := { name := "scheduleJudges", fn := fun _ => fun
  | [d1, d2, d3, d4] => { results := [.lit (.bool true)], args := [d1, d2, d3, d4] }
  | _ => none }
def scheduleJudgesRow : OpenClaim := { program := "ytemefigbnjkdoaadoor", sum := "cd71bf295984132c70fb55c23acec0d18f5f0ebb5aaffa02ee99550bf5e21665", func := "dspcompiler/dspcompilerlaw40.ScheduleJudges", spec := "scheduleJudges", unfollowed := true, recurses := true, named := ["dspcompiler/processor.forms"], plainKeys := false, apart := false, laid := [("dspcompiler/processor.forms", laid_dspcompiler_processor_forms)] }
def ScheduleJudgesSaid : Prop := scheduleJudgesRow.holds Tryd.pinned (OpenSpec.ofChange scheduleJudgesSpec)

/-- ITS FALSE NEIGHBOUR: 'it returns false'. Refute it at one input. -/
def scheduleJudgesWrong : ChangeSpec := { name := "scheduleJudges", fn := fun _ => fun
  | [d1, d2, d3, d4] => { results := [.lit (.bool false)], args := [d1, d2, d3, d4] }
  | _ => none }
def ScheduleJudgesWrongFalsely : Prop := scheduleJudgesRow.holds Tryd.pinned (OpenSpec.ofChange scheduleJudgesWrong)

/-- 'dspcompilerlaw40.ScheduleIsLegal': WHATEVER THE INPUT: true; the input reads as it did. -/
def scheduleIsLegalSpec : ChangeSpec := { name := "scheduleIsLegal", fn := fun _ => fun
  | [d1, d2] => { results := [.lit (.bool true)], args := [d1, d2] }
  | _ => none }
def scheduleIsLegalRow : OpenClaim := { program := "ytemefigbnjkdoaadoor", sum := "cd71bf295984132c70fb55c23acec0d18f5f0ebb5aaffa02ee99550bf5e21665", func := "dspcompiler/dspcompilerlaw40.ScheduleIsLegal", spec := "scheduleIsLegal", unfollowed := true, recurses := true, named := ["dspcompiler/processor.forms"], plainKeys := false, apart := false, laid := [("dspcompiler/processor.forms", laid_dspcompiler_processor_forms)] }
def ScheduleIsLegalSaid : Prop := scheduleIsLegalRow.holds Tryd.pinned (OpenSpec.ofChange scheduleIsLegalSpec)

/-- ITS FALSE NEIGHBOUR: 'it returns false'. Refute it at one input. -/
def scheduleIsLegalWrong : ChangeSpec := { name := "scheduleIsLegal", fn := fun _ => fun
  | [d1, d2] => { results := [.lit (.bool false)], args := [d1, d2] }
  | _ => none }
def ScheduleIsLegalWrongFalsely : Prop := scheduleIsLegalRow.holds Tryd.pinned (OpenSpec.ofChange scheduleIsLegalWrong)

/- THE SECOND FORM. 'bulk': how many values and letters a reading holds, each counted each time it is reached (what is shared counts as often as it is met; a slice's spare places count too). A statement '..UptoSaid' is the law's where the arguments, and the package variables that the reading takes, are together of bulk at most 1048576: NARROWER than '..Said'. Prove '..Said' where nothing that the law and all that it calls make is longer than what came in: it says more and counts as full. Else prove '..UptoSaid'. A law counts once. -/
mutual
def uptoBulk {H : Type} : DataW H → Nat
  | .lit (.string bytes) => bytes.length + 1
  | .lit _ => 1
  | .nil => 1
  | .ptr d => uptoBulk d + 1
  | .slice elems spare => uptoBulkAll elems + uptoBulkAll spare + 1
  | .agg parts => uptoBulkAll parts + 1
  | .iface _ d => uptoBulk d + 1
  | .map entries => uptoBulkEntries entries + 1
  | .held _ => 1
def uptoBulkAll {H : Type} : List (DataW H) → Nat
  | [] => 0
  | d :: r => uptoBulk d + uptoBulkAll r
def uptoBulkEntries {H : Type} : List (Lit × DataW H) → Nat
  | [] => 0
  | x :: r => uptoBulkEntry x + uptoBulkEntries r
def uptoBulkEntry {H : Type} : Lit × DataW H → Nat
  | (.string bytes, d) => bytes.length + uptoBulk d + 1
  | (_, d) => uptoBulk d + 1
 end
def uptoSmall : (H : Type) → List (DataW H) → Bool := fun _ ds => decide (uptoBulkAll ds ≤ 1048576)
def OpenSpec.upto (s : _root_.Go.ChangeSpec) : _root_.Go.OpenSpec := { _root_.Go.OpenSpec.ofChange s with cond := some uptoSmall }

/-- 'dspcompilerlaw40.ScheduleGraphs', WHERE WHAT IT READS IS OF BULK AT MOST 1048576: true; the input reads as it did. -/
def scheduleGraphsUptoRow : OpenClaim := { program := "ytemefigbnjkdoaadoor", sum := "cd71bf295984132c70fb55c23acec0d18f5f0ebb5aaffa02ee99550bf5e21665", func := "dspcompiler/dspcompilerlaw40.ScheduleGraphs", spec := "scheduleGraphs", unfollowed := true, recurses := true, named := ["dspcompiler/processor.forms"], plainKeys := false, apart := false, laid := [("dspcompiler/processor.forms", laid_dspcompiler_processor_forms)], narrowed := true }
def ScheduleGraphsUptoSaid : Prop := scheduleGraphsUptoRow.holds Tryd.pinned (OpenSpec.upto scheduleGraphsSpec)

/-- 'dspcompilerlaw40.ScheduleJudges', WHERE WHAT IT READS IS OF BULK AT MOST 1048576: true; the input reads as it did. -/
def scheduleJudgesUptoRow : OpenClaim := { program := "ytemefigbnjkdoaadoor", sum := "cd71bf295984132c70fb55c23acec0d18f5f0ebb5aaffa02ee99550bf5e21665", func := "dspcompiler/dspcompilerlaw40.ScheduleJudges", spec := "scheduleJudges", unfollowed := true, recurses := true, named := ["dspcompiler/processor.forms"], plainKeys := false, apart := false, laid := [("dspcompiler/processor.forms", laid_dspcompiler_processor_forms)], narrowed := true }
def ScheduleJudgesUptoSaid : Prop := scheduleJudgesUptoRow.holds Tryd.pinned (OpenSpec.upto scheduleJudgesSpec)

/-- 'dspcompilerlaw40.ScheduleIsLegal', WHERE WHAT IT READS IS OF BULK AT MOST 1048576: true; the input reads as it did. -/
def scheduleIsLegalUptoRow : OpenClaim := { program := "ytemefigbnjkdoaadoor", sum := "cd71bf295984132c70fb55c23acec0d18f5f0ebb5aaffa02ee99550bf5e21665", func := "dspcompiler/dspcompilerlaw40.ScheduleIsLegal", spec := "scheduleIsLegal", unfollowed := true, recurses := true, named := ["dspcompiler/processor.forms"], plainKeys := false, apart := false, laid := [("dspcompiler/processor.forms", laid_dspcompiler_processor_forms)], narrowed := true }
def ScheduleIsLegalUptoSaid : Prop := scheduleIsLegalUptoRow.holds Tryd.pinned (OpenSpec.upto scheduleIsLegalSpec)

end Rows
end Go.Proofs.YtemefigbnjkdoaaDoor
