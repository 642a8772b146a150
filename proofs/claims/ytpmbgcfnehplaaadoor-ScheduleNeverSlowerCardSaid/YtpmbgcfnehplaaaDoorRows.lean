/-
  NARROWER THAN 'FOR EVERY INPUT', by the rows' own cells (each row's printed sentence says how): ScheduleNeverSlower: laid.
  DERIVED. THE GIVEN ROWS OF THIS SEAT. 1 by the template 'for every input the law returns true; each argument reads behind the call as it read before'; 0 by the template 'total and deterministic' (their statements: YtpmbgcfnehplaaaDoorTotals.lean).
  GIVEN WITH THE SEED: the statements are not yours to turn. If you find one false, say at which input.
  Laid BY PROGRAM, IN A SANDBOX (cutbox-rows.mjs): the forced cells as the released guide's own fill.sh prints them over the translation a7d2f2d6f656cffb… (all of the seat's roots in one cut). By AI agents, Wed Nov 11 2026. No macro, syntax, notation, axiom, sorry.
-/
import Derived.Test.YtpmbgcfnehplaaaDoorChecked
import GoSem.Claim
import GoSem.ClaimJoined
import GoSem.ClaimMapViews
import Derived.JoinedTies
import Derived.KernelRfl
namespace Go.Proofs.YtpmbgcfnehplaaaDoor
/- THE CELL 'sum', in the pinned program and in every row, IS THE sha256 OF THE DUMP (.gsa) THAT YtpmbgcfnehplaaaDoorProg.lean LOADS. Nothing in Lean hashes anything: it is a label: what it is worth is what the hold of that sum in a sandbox is worth. -/
noncomputable def Tryd.pinned : Pinned := { name := "ytpmbgcfnehplaaadoor", sum := "a7d2f2d6f656cffbb55c3f0dd3223221b95a014bca10e133776b8bb26ce0a48a", checked := Tryd.checked }
namespace Rows
def none {H : Type} : Left H := { results := [], args := [] }

/- WHAT THE LISTED PACKAGE-LEVEL VARIABLES READ AS WHEN THE CALL BEGINS. Each datum BY PROGRAM (the guide's laid-datum.mjs) off the statement by which the dump's own 'gosem.cut.vars' lays the variable. In a bare row this is a premise. The card (YtpmbgcfnehplaaaDoorCards.lean) ties it to the program's text. -/
def laid_dspcompiler_processor_forms {H : Type} : DataW H := .agg [.agg [.lit (.string [104, 97, 108, 116]), .agg [.lit (.int .i64 0), .lit (.int .i64 0), .lit (.int .i64 0)]], .agg [.lit (.string [99, 108, 101, 97, 114]), .agg [.lit (.int .i64 0), .lit (.int .i64 0), .lit (.int .i64 0)]], .agg [.lit (.string [109, 97, 99]), .agg [.lit (.int .i64 1), .lit (.int .i64 0), .lit (.int .i64 5)]], .agg [.lit (.string [109, 97, 99, 109]), .agg [.lit (.int .i64 2), .lit (.int .i64 0), .lit (.int .i64 5)]], .agg [.lit (.string [109, 97, 99, 99]), .agg [.lit (.int .i64 3), .lit (.int .i64 4), .lit (.int .i64 5)]], .agg [.lit (.string [114, 111, 117, 110, 100]), .agg [.lit (.int .i64 1), .lit (.int .i64 0), .lit (.int .i64 0)]], .agg [.lit (.string [108, 111, 97, 100]), .agg [.lit (.int .i64 1), .lit (.int .i64 2), .lit (.int .i64 0)]], .agg [.lit (.string [115, 116, 111, 114, 101]), .agg [.lit (.int .i64 1), .lit (.int .i64 2), .lit (.int .i64 0)]], .agg [.lit (.string [112, 117, 115, 104]), .agg [.lit (.int .i64 3), .lit (.int .i64 1), .lit (.int .i64 0)]], .agg [.lit (.string [105, 110]), .agg [.lit (.int .i64 1), .lit (.int .i64 0), .lit (.int .i64 0)]], .agg [.lit (.string [111, 117, 116]), .agg [.lit (.int .i64 1), .lit (.int .i64 0), .lit (.int .i64 0)]], .agg [.lit (.string [109, 111, 118, 101]), .agg [.lit (.int .i64 1), .lit (.int .i64 1), .lit (.int .i64 0)]]]

/-- 'dspcompilerlaw40.ScheduleNeverSlower': WHATEVER THE INPUT: true; the input reads as it did. -/
def scheduleNeverSlowerSpec : ChangeSpec := { name := "scheduleNeverSlower", fn := fun _ => fun
  | [d] => { results := [.lit (.bool true)], args := [d] }
  | _ => none }
def scheduleNeverSlowerRow : OpenClaim := { program := "ytpmbgcfnehplaaadoor", sum := "a7d2f2d6f656cffbb55c3f0dd3223221b95a014bca10e133776b8bb26ce0a48a", func := "dspcompiler/dspcompilerlaw40.ScheduleNeverSlower", spec := "scheduleNeverSlower", unfollowed := true, recurses := true, named := ["dspcompiler/processor.forms"], apart := false, laid := [("dspcompiler/processor.forms", laid_dspcompiler_processor_forms)] }
def ScheduleNeverSlowerSaid : Prop := scheduleNeverSlowerRow.holds Tryd.pinned (OpenSpec.ofChange scheduleNeverSlowerSpec)

/-- ITS FALSE NEIGHBOUR: 'it returns false'. Refute it at one input. -/
def scheduleNeverSlowerWrong : ChangeSpec := { name := "scheduleNeverSlower", fn := fun _ => fun
  | [d] => { results := [.lit (.bool false)], args := [d] }
  | _ => none }
def ScheduleNeverSlowerWrongFalsely : Prop := scheduleNeverSlowerRow.holds Tryd.pinned (OpenSpec.ofChange scheduleNeverSlowerWrong)

/- THE SECOND FORM. 'bulk': how many values and letters a reading holds, each counted each time it is reached (what is shared counts as often as it is met; a slice's spare places count too). A statement '..UptoSaid' is the law's where the arguments, and the package variables that the reading takes, are together of bulk at most 1048576: NARROWER than '..Said'. Prove '..Said' where nothing that the law and all that it calls make is longer than what came in: it says more and counts as full. Else prove '..UptoSaid'. A law counts once. -/
mutual
def uptoBulk {H : Type} : DataW H → Nat
  | .lit (.string bytes) => bytes.length + 1
  | .lit _ => 1
  | .nil => 1
  | .ptr d => uptoBulk d + 1
  | .slice elems spare => uptoBulkAll elems + uptoBulkAll spare + 1
  | .agg parts => uptoBulkAll parts + 1
  | .iface _ d => uptoBulk d + 1
  | .map entries => uptoBulkEntries entries + 1
  | .held _ => 1
def uptoBulkAll {H : Type} : List (DataW H) → Nat
  | [] => 0
  | d :: r => uptoBulk d + uptoBulkAll r
def uptoBulkEntries {H : Type} : List (Lit × DataW H) → Nat
  | [] => 0
  | x :: r => uptoBulkEntry x + uptoBulkEntries r
def uptoBulkEntry {H : Type} : Lit × DataW H → Nat
  | (.string bytes, d) => bytes.length + uptoBulk d + 1
  | (_, d) => uptoBulk d + 1
 end
def uptoSmall : (H : Type) → List (DataW H) → Bool := fun _ ds => decide (uptoBulkAll ds ≤ 1048576)
def OpenSpec.upto (s : _root_.Go.ChangeSpec) : _root_.Go.OpenSpec := { _root_.Go.OpenSpec.ofChange s with cond := some uptoSmall }

/-- 'dspcompilerlaw40.ScheduleNeverSlower', WHERE WHAT IT READS IS OF BULK AT MOST 1048576: true; the input reads as it did. -/
def scheduleNeverSlowerUptoRow : OpenClaim := { program := "ytpmbgcfnehplaaadoor", sum := "a7d2f2d6f656cffbb55c3f0dd3223221b95a014bca10e133776b8bb26ce0a48a", func := "dspcompiler/dspcompilerlaw40.ScheduleNeverSlower", spec := "scheduleNeverSlower", unfollowed := true, recurses := true, named := ["dspcompiler/processor.forms"], apart := false, laid := [("dspcompiler/processor.forms", laid_dspcompiler_processor_forms)], narrowed := true }
def ScheduleNeverSlowerUptoSaid : Prop := scheduleNeverSlowerUptoRow.holds Tryd.pinned (OpenSpec.upto scheduleNeverSlowerSpec)

end Rows
end Go.Proofs.YtpmbgcfnehplaaaDoor
