/-
  NARROWER THAN 'FOR EVERY INPUT', by the rows' own cells (each row's printed sentence says how): ProcessorWrites: laid · SimulateRuns: laid · SimulateForgets: laid · SimulateTimes: laid · SimulateDelays: laid · SimulateSteps: laid · ProcessorFindsTheFault: laid · ProcessorChecks: laid · ScheduleComputesTheSame: laid.
  DERIVED. THE GIVEN ROWS OF THIS SEAT. 9 by the template 'for every input the law returns true; each argument reads behind the call as it read before'; 0 by the template 'total and deterministic' (their statements: YtgdccmmcjicgkaaDoorTotals.lean).
  GIVEN WITH THE SEED: the statements are not yours to turn. If you find one false, say at which input.
  Laid BY PROGRAM, IN A SANDBOX (cutbox-rows.mjs): the forced cells as the released guide's own fill.sh prints them over the translation dce6934ef5dd2a1e… (all of the seat's roots in one cut). By AI agents, Wed Nov 11 2026. No macro, syntax, notation, axiom, sorry.
-/
import Derived.Test.YtgdccmmcjicgkaaDoorChecked
import GoSem.Claim
import GoSem.ClaimJoined
import GoSem.ClaimMapViews
import Derived.JoinedTies
import Derived.KernelRfl
namespace Go.Proofs.YtgdccmmcjicgkaaDoor
/- THE CELL 'sum', in the pinned program and in every row, IS THE sha256 OF THE DUMP (.gsa) THAT YtgdccmmcjicgkaaDoorProg.lean LOADS. Nothing in Lean hashes anything: it is a label: what it is worth is what the hold of that sum in a sandbox is worth. -/
noncomputable def Tryd.pinned : Pinned := { name := "ytgdccmmcjicgkaadoor", sum := "dce6934ef5dd2a1ef7121fd336e45fb2a40308907b92f650e4173d7134e068db", checked := Tryd.checked }
namespace Rows
def none {H : Type} : Left H := { results := [], args := [] }

/- WHAT THE LISTED PACKAGE-LEVEL VARIABLES READ AS WHEN THE CALL BEGINS. Each datum BY PROGRAM (the guide's laid-datum.mjs) off the statement by which the dump's own 'gosem.cut.vars' lays the variable. In a bare row this is a premise. The card (YtgdccmmcjicgkaaDoorCards.lean) ties it to the program's text. -/
def laid_math_bits_deBruijn32tab {H : Type} : DataW H := .agg [.lit (.int .u8 0), .lit (.int .u8 1), .lit (.int .u8 28), .lit (.int .u8 2), .lit (.int .u8 29), .lit (.int .u8 14), .lit (.int .u8 24), .lit (.int .u8 3), .lit (.int .u8 30), .lit (.int .u8 22), .lit (.int .u8 20), .lit (.int .u8 15), .lit (.int .u8 25), .lit (.int .u8 17), .lit (.int .u8 4), .lit (.int .u8 8), .lit (.int .u8 31), .lit (.int .u8 27), .lit (.int .u8 13), .lit (.int .u8 23), .lit (.int .u8 21), .lit (.int .u8 19), .lit (.int .u8 16), .lit (.int .u8 7), .lit (.int .u8 26), .lit (.int .u8 12), .lit (.int .u8 18), .lit (.int .u8 6), .lit (.int .u8 11), .lit (.int .u8 5), .lit (.int .u8 10), .lit (.int .u8 9)]
def laid_math_bits_deBruijn64tab {H : Type} : DataW H := .agg [.lit (.int .u8 0), .lit (.int .u8 1), .lit (.int .u8 56), .lit (.int .u8 2), .lit (.int .u8 57), .lit (.int .u8 49), .lit (.int .u8 28), .lit (.int .u8 3), .lit (.int .u8 61), .lit (.int .u8 58), .lit (.int .u8 42), .lit (.int .u8 50), .lit (.int .u8 38), .lit (.int .u8 29), .lit (.int .u8 17), .lit (.int .u8 4), .lit (.int .u8 62), .lit (.int .u8 47), .lit (.int .u8 59), .lit (.int .u8 36), .lit (.int .u8 45), .lit (.int .u8 43), .lit (.int .u8 51), .lit (.int .u8 22), .lit (.int .u8 53), .lit (.int .u8 39), .lit (.int .u8 33), .lit (.int .u8 30), .lit (.int .u8 24), .lit (.int .u8 18), .lit (.int .u8 12), .lit (.int .u8 5), .lit (.int .u8 63), .lit (.int .u8 55), .lit (.int .u8 48), .lit (.int .u8 27), .lit (.int .u8 60), .lit (.int .u8 41), .lit (.int .u8 37), .lit (.int .u8 16), .lit (.int .u8 46), .lit (.int .u8 35), .lit (.int .u8 44), .lit (.int .u8 21), .lit (.int .u8 52), .lit (.int .u8 32), .lit (.int .u8 23), .lit (.int .u8 11), .lit (.int .u8 54), .lit (.int .u8 26), .lit (.int .u8 40), .lit (.int .u8 15), .lit (.int .u8 34), .lit (.int .u8 20), .lit (.int .u8 31), .lit (.int .u8 10), .lit (.int .u8 25), .lit (.int .u8 14), .lit (.int .u8 19), .lit (.int .u8 9), .lit (.int .u8 13), .lit (.int .u8 8), .lit (.int .u8 7), .lit (.int .u8 6)]
def laid_internal_strconv_uint64pow10 {H : Type} : DataW H := .agg [.lit (.int .u64 1), .lit (.int .u64 10), .lit (.int .u64 100), .lit (.int .u64 1000), .lit (.int .u64 10000), .lit (.int .u64 100000), .lit (.int .u64 1000000), .lit (.int .u64 10000000), .lit (.int .u64 100000000), .lit (.int .u64 1000000000), .lit (.int .u64 10000000000), .lit (.int .u64 100000000000), .lit (.int .u64 1000000000000), .lit (.int .u64 10000000000000), .lit (.int .u64 100000000000000), .lit (.int .u64 1000000000000000), .lit (.int .u64 10000000000000000), .lit (.int .u64 100000000000000000), .lit (.int .u64 1000000000000000000), .lit (.int .u64 10000000000000000000)]
def laid_dspcompiler_processor_forms {H : Type} : DataW H := .agg [.agg [.lit (.string [104, 97, 108, 116]), .agg [.lit (.int .i64 0), .lit (.int .i64 0), .lit (.int .i64 0)]], .agg [.lit (.string [99, 108, 101, 97, 114]), .agg [.lit (.int .i64 0), .lit (.int .i64 0), .lit (.int .i64 0)]], .agg [.lit (.string [109, 97, 99]), .agg [.lit (.int .i64 1), .lit (.int .i64 0), .lit (.int .i64 5)]], .agg [.lit (.string [109, 97, 99, 109]), .agg [.lit (.int .i64 2), .lit (.int .i64 0), .lit (.int .i64 5)]], .agg [.lit (.string [109, 97, 99, 99]), .agg [.lit (.int .i64 3), .lit (.int .i64 4), .lit (.int .i64 5)]], .agg [.lit (.string [114, 111, 117, 110, 100]), .agg [.lit (.int .i64 1), .lit (.int .i64 0), .lit (.int .i64 0)]], .agg [.lit (.string [108, 111, 97, 100]), .agg [.lit (.int .i64 1), .lit (.int .i64 2), .lit (.int .i64 0)]], .agg [.lit (.string [115, 116, 111, 114, 101]), .agg [.lit (.int .i64 1), .lit (.int .i64 2), .lit (.int .i64 0)]], .agg [.lit (.string [112, 117, 115, 104]), .agg [.lit (.int .i64 3), .lit (.int .i64 1), .lit (.int .i64 0)]], .agg [.lit (.string [105, 110]), .agg [.lit (.int .i64 1), .lit (.int .i64 0), .lit (.int .i64 0)]], .agg [.lit (.string [111, 117, 116]), .agg [.lit (.int .i64 1), .lit (.int .i64 0), .lit (.int .i64 0)]], .agg [.lit (.string [109, 111, 118, 101]), .agg [.lit (.int .i64 1), .lit (.int .i64 1), .lit (.int .i64 0)]]]

/-- 'dspcompilerlaw38.ProcessorWrites': WHATEVER THE INPUT: true; the input reads as it did. -/
def processorWritesSpec : ChangeSpec := { name := "processorWrites", fn := fun _ => fun
  | [d1, d2] => { results := [.lit (.bool true)], args := [d1, d2] }
  | _ => none }
def processorWritesRow : OpenClaim := { program := "ytgdccmmcjicgkaadoor", sum := "dce6934ef5dd2a1ef7121fd336e45fb2a40308907b92f650e4173d7134e068db", func := "dspcompiler/dspcompilerlaw38.ProcessorWrites", spec := "processorWrites", inPlace := ["internal/abi.NoEscape"], recurses := true, named := ["dspcompiler/processor.forms", "internal/strconv.uint64pow10", "math/bits.deBruijn32tab", "math/bits.deBruijn64tab"], apart := false, laid := [("math/bits.deBruijn32tab", laid_math_bits_deBruijn32tab), ("math/bits.deBruijn64tab", laid_math_bits_deBruijn64tab), ("internal/strconv.uint64pow10", laid_internal_strconv_uint64pow10), ("dspcompiler/processor.forms", laid_dspcompiler_processor_forms)] }
def ProcessorWritesSaid : Prop := processorWritesRow.holds Tryd.pinned (OpenSpec.ofChange processorWritesSpec)

/-- ITS FALSE NEIGHBOUR: 'it returns false'. Refute it at one input. -/
def processorWritesWrong : ChangeSpec := { name := "processorWrites", fn := fun _ => fun
  | [d1, d2] => { results := [.lit (.bool false)], args := [d1, d2] }
  | _ => none }
def ProcessorWritesWrongFalsely : Prop := processorWritesRow.holds Tryd.pinned (OpenSpec.ofChange processorWritesWrong)

/-- 'dspcompilerlaw39.SimulateRuns': WHATEVER THE INPUT: true; the input reads as it did. -/
def simulateRunsSpec : ChangeSpec := { name := "simulateRuns", fn := fun _ => fun
  | [d1, d2, d3, d4] => { results := [.lit (.bool true)], args := [d1, d2, d3, d4] }
  | _ => none }
def simulateRunsRow : OpenClaim := { program := "ytgdccmmcjicgkaadoor", sum := "dce6934ef5dd2a1ef7121fd336e45fb2a40308907b92f650e4173d7134e068db", func := "dspcompiler/dspcompilerlaw39.SimulateRuns", spec := "simulateRuns", unfollowed := true, recurses := true, named := ["dspcompiler/processor.forms"], apart := false, laid := [("dspcompiler/processor.forms", laid_dspcompiler_processor_forms)] }
def SimulateRunsSaid : Prop := simulateRunsRow.holds Tryd.pinned (OpenSpec.ofChange simulateRunsSpec)

/-- ITS FALSE NEIGHBOUR: 'it returns false'. Refute it at one input. -/
def simulateRunsWrong : ChangeSpec := { name := "simulateRuns", fn := fun _ => fun
  | [d1, d2, d3, d4] => { results := [.lit (.bool false)], args := [d1, d2, d3, d4] }
  | _ => none }
def SimulateRunsWrongFalsely : Prop := simulateRunsRow.holds Tryd.pinned (OpenSpec.ofChange simulateRunsWrong)

/-- 'dspcompilerlaw39.SimulateForgets': WHATEVER THE INPUT: true; the input reads as it did. -/
def simulateForgetsSpec : ChangeSpec := { name := "simulateForgets", fn := fun _ => fun
  | [d1, d2, d3, d4] => { results := [.lit (.bool true)], args := [d1, d2, d3, d4] }
  | _ => none }
def simulateForgetsRow : OpenClaim := { program := "ytgdccmmcjicgkaadoor", sum := "dce6934ef5dd2a1ef7121fd336e45fb2a40308907b92f650e4173d7134e068db", func := "dspcompiler/dspcompilerlaw39.SimulateForgets", spec := "simulateForgets", unfollowed := true, recurses := true, named := ["dspcompiler/processor.forms"], apart := false, laid := [("dspcompiler/processor.forms", laid_dspcompiler_processor_forms)] }
def SimulateForgetsSaid : Prop := simulateForgetsRow.holds Tryd.pinned (OpenSpec.ofChange simulateForgetsSpec)

/-- ITS FALSE NEIGHBOUR: 'it returns false'. Refute it at one input. -/
def simulateForgetsWrong : ChangeSpec := { name := "simulateForgets", fn := fun _ => fun
  | [d1, d2, d3, d4] => { results := [.lit (.bool false)], args := [d1, d2, d3, d4] }
  | _ => none }
def SimulateForgetsWrongFalsely : Prop := simulateForgetsRow.holds Tryd.pinned (OpenSpec.ofChange simulateForgetsWrong)

/-- 'dspcompilerlaw39.SimulateTimes': WHATEVER THE INPUT: true; the input reads as it did. -/
def simulateTimesSpec : ChangeSpec := { name := "simulateTimes", fn := fun _ => fun
  | [d1, d2, d3] => { results := [.lit (.bool true)], args := [d1, d2, d3] }
  | _ => none }
def simulateTimesRow : OpenClaim := { program := "ytgdccmmcjicgkaadoor", sum := "dce6934ef5dd2a1ef7121fd336e45fb2a40308907b92f650e4173d7134e068db", func := "dspcompiler/dspcompilerlaw39.SimulateTimes", spec := "simulateTimes", unfollowed := true, recurses := true, named := ["dspcompiler/processor.forms"], apart := false, laid := [("dspcompiler/processor.forms", laid_dspcompiler_processor_forms)] }
def SimulateTimesSaid : Prop := simulateTimesRow.holds Tryd.pinned (OpenSpec.ofChange simulateTimesSpec)

/-- ITS FALSE NEIGHBOUR: 'it returns false'. Refute it at one input. -/
def simulateTimesWrong : ChangeSpec := { name := "simulateTimes", fn := fun _ => fun
  | [d1, d2, d3] => { results := [.lit (.bool false)], args := [d1, d2, d3] }
  | _ => none }
def SimulateTimesWrongFalsely : Prop := simulateTimesRow.holds Tryd.pinned (OpenSpec.ofChange simulateTimesWrong)

/-- 'dspcompilerlaw39.SimulateDelays': WHATEVER THE INPUT: true; the input reads as it did. -/
def simulateDelaysSpec : ChangeSpec := { name := "simulateDelays", fn := fun _ => fun
  | [d1, d2, d3] => { results := [.lit (.bool true)], args := [d1, d2, d3] }
  | _ => none }
def simulateDelaysRow : OpenClaim := { program := "ytgdccmmcjicgkaadoor", sum := "dce6934ef5dd2a1ef7121fd336e45fb2a40308907b92f650e4173d7134e068db", func := "dspcompiler/dspcompilerlaw39.SimulateDelays", spec := "simulateDelays", unfollowed := true, recurses := true, named := ["dspcompiler/processor.forms"], apart := false, laid := [("dspcompiler/processor.forms", laid_dspcompiler_processor_forms)] }
def SimulateDelaysSaid : Prop := simulateDelaysRow.holds Tryd.pinned (OpenSpec.ofChange simulateDelaysSpec)

/-- ITS FALSE NEIGHBOUR: 'it returns false'. Refute it at one input. -/
def simulateDelaysWrong : ChangeSpec := { name := "simulateDelays", fn := fun _ => fun
  | [d1, d2, d3] => { results := [.lit (.bool false)], args := [d1, d2, d3] }
  | _ => none }
def SimulateDelaysWrongFalsely : Prop := simulateDelaysRow.holds Tryd.pinned (OpenSpec.ofChange simulateDelaysWrong)

/-- 'dspcompilerlaw39.SimulateSteps': WHATEVER THE INPUT: true; the input reads as it did. -/
def simulateStepsSpec : ChangeSpec := { name := "simulateSteps", fn := fun _ => fun
  | [d1, d2, d3, d4, d5] => { results := [.lit (.bool true)], args := [d1, d2, d3, d4, d5] }
  | _ => none }
def simulateStepsRow : OpenClaim := { program := "ytgdccmmcjicgkaadoor", sum := "dce6934ef5dd2a1ef7121fd336e45fb2a40308907b92f650e4173d7134e068db", func := "dspcompiler/dspcompilerlaw39.SimulateSteps", spec := "simulateSteps", unfollowed := true, recurses := true, named := ["dspcompiler/processor.forms"], apart := false, laid := [("dspcompiler/processor.forms", laid_dspcompiler_processor_forms)] }
def SimulateStepsSaid : Prop := simulateStepsRow.holds Tryd.pinned (OpenSpec.ofChange simulateStepsSpec)

/-- ITS FALSE NEIGHBOUR: 'it returns false'. Refute it at one input. -/
def simulateStepsWrong : ChangeSpec := { name := "simulateSteps", fn := fun _ => fun
  | [d1, d2, d3, d4, d5] => { results := [.lit (.bool false)], args := [d1, d2, d3, d4, d5] }
  | _ => none }
def SimulateStepsWrongFalsely : Prop := simulateStepsRow.holds Tryd.pinned (OpenSpec.ofChange simulateStepsWrong)

/-- 'dspcompilerlaw38.ProcessorFindsTheFault': WHATEVER THE INPUT: true; the input reads as it did. -/
def processorFindsTheFaultSpec : ChangeSpec := { name := "processorFindsTheFault", fn := fun _ => fun
  | [d1, d2, d3] => { results := [.lit (.bool true)], args := [d1, d2, d3] }
  | _ => none }
def processorFindsTheFaultRow : OpenClaim := { program := "ytgdccmmcjicgkaadoor", sum := "dce6934ef5dd2a1ef7121fd336e45fb2a40308907b92f650e4173d7134e068db", func := "dspcompiler/dspcompilerlaw38.ProcessorFindsTheFault", spec := "processorFindsTheFault", inPlace := ["internal/abi.NoEscape"], named := ["dspcompiler/processor.forms", "internal/strconv.uint64pow10", "math/bits.deBruijn32tab", "math/bits.deBruijn64tab"], apart := false, laid := [("math/bits.deBruijn32tab", laid_math_bits_deBruijn32tab), ("math/bits.deBruijn64tab", laid_math_bits_deBruijn64tab), ("internal/strconv.uint64pow10", laid_internal_strconv_uint64pow10), ("dspcompiler/processor.forms", laid_dspcompiler_processor_forms)] }
def ProcessorFindsTheFaultSaid : Prop := processorFindsTheFaultRow.holds Tryd.pinned (OpenSpec.ofChange processorFindsTheFaultSpec)

/-- ITS FALSE NEIGHBOUR: 'it returns false'. Refute it at one input. -/
def processorFindsTheFaultWrong : ChangeSpec := { name := "processorFindsTheFault", fn := fun _ => fun
  | [d1, d2, d3] => { results := [.lit (.bool false)], args := [d1, d2, d3] }
  | _ => none }
def ProcessorFindsTheFaultWrongFalsely : Prop := processorFindsTheFaultRow.holds Tryd.pinned (OpenSpec.ofChange processorFindsTheFaultWrong)

/-- 'dspcompilerlaw38.ProcessorChecks': WHATEVER THE INPUT: true; the input reads as it did. -/
def processorChecksSpec : ChangeSpec := { name := "processorChecks", fn := fun _ => fun
  | [d] => { results := [.lit (.bool true)], args := [d] }
  | _ => none }
def processorChecksRow : OpenClaim := { program := "ytgdccmmcjicgkaadoor", sum := "dce6934ef5dd2a1ef7121fd336e45fb2a40308907b92f650e4173d7134e068db", func := "dspcompiler/dspcompilerlaw38.ProcessorChecks", spec := "processorChecks", inPlace := ["internal/abi.NoEscape"], named := ["dspcompiler/processor.forms", "internal/strconv.uint64pow10", "math/bits.deBruijn32tab", "math/bits.deBruijn64tab"], apart := false, laid := [("math/bits.deBruijn32tab", laid_math_bits_deBruijn32tab), ("math/bits.deBruijn64tab", laid_math_bits_deBruijn64tab), ("internal/strconv.uint64pow10", laid_internal_strconv_uint64pow10), ("dspcompiler/processor.forms", laid_dspcompiler_processor_forms)] }
def ProcessorChecksSaid : Prop := processorChecksRow.holds Tryd.pinned (OpenSpec.ofChange processorChecksSpec)

/-- ITS FALSE NEIGHBOUR: 'it returns false'. Refute it at one input. -/
def processorChecksWrong : ChangeSpec := { name := "processorChecks", fn := fun _ => fun
  | [d] => { results := [.lit (.bool false)], args := [d] }
  | _ => none }
def ProcessorChecksWrongFalsely : Prop := processorChecksRow.holds Tryd.pinned (OpenSpec.ofChange processorChecksWrong)

/-- 'dspcompilerlaw40.ScheduleComputesTheSame': WHATEVER THE INPUT: true; the input reads as it did. -/
def scheduleComputesTheSameSpec : ChangeSpec := { name := "scheduleComputesTheSame", fn := fun _ => fun
  | [d1, d2, d3] => { results := [.lit (.bool true)], args := [d1, d2, d3] }
  | _ => none }
def scheduleComputesTheSameRow : OpenClaim := { program := "ytgdccmmcjicgkaadoor", sum := "dce6934ef5dd2a1ef7121fd336e45fb2a40308907b92f650e4173d7134e068db", func := "dspcompiler/dspcompilerlaw40.ScheduleComputesTheSame", spec := "scheduleComputesTheSame", unfollowed := true, recurses := true, named := ["dspcompiler/processor.forms"], apart := false, laid := [("dspcompiler/processor.forms", laid_dspcompiler_processor_forms)] }
def ScheduleComputesTheSameSaid : Prop := scheduleComputesTheSameRow.holds Tryd.pinned (OpenSpec.ofChange scheduleComputesTheSameSpec)

/-- ITS FALSE NEIGHBOUR: 'it returns false'. Refute it at one input. -/
def scheduleComputesTheSameWrong : ChangeSpec := { name := "scheduleComputesTheSame", fn := fun _ => fun
  | [d1, d2, d3] => { results := [.lit (.bool false)], args := [d1, d2, d3] }
  | _ => none }
def ScheduleComputesTheSameWrongFalsely : Prop := scheduleComputesTheSameRow.holds Tryd.pinned (OpenSpec.ofChange scheduleComputesTheSameWrong)

/- THE SECOND FORM. 'bulk': how many values and letters a reading holds, each counted each time it is reached (what is shared counts as often as it is met; a slice's spare places count too). A statement '..UptoSaid' is the law's where the arguments, and the package variables that the reading takes, are together of bulk at most 1048576: NARROWER than '..Said'. Prove '..Said' where nothing that the law and all that it calls make is longer than what came in: it says more and counts as full. Else prove '..UptoSaid'. A law counts once. -/
mutual
def uptoBulk {H : Type} : DataW H → Nat
  | .lit (.string bytes) => bytes.length + 1
  | .lit _ => 1
  | .nil => 1
  | .ptr d => uptoBulk d + 1
  | .slice elems spare => uptoBulkAll elems + uptoBulkAll spare + 1
  | .agg parts => uptoBulkAll parts + 1
  | .iface _ d => uptoBulk d + 1
  | .map entries => uptoBulkEntries entries + 1
  | .held _ => 1
def uptoBulkAll {H : Type} : List (DataW H) → Nat
  | [] => 0
  | d :: r => uptoBulk d + uptoBulkAll r
def uptoBulkEntries {H : Type} : List (Lit × DataW H) → Nat
  | [] => 0
  | x :: r => uptoBulkEntry x + uptoBulkEntries r
def uptoBulkEntry {H : Type} : Lit × DataW H → Nat
  | (.string bytes, d) => bytes.length + uptoBulk d + 1
  | (_, d) => uptoBulk d + 1
 end
def uptoSmall : (H : Type) → List (DataW H) → Bool := fun _ ds => decide (uptoBulkAll ds ≤ 1048576)
def OpenSpec.upto (s : _root_.Go.ChangeSpec) : _root_.Go.OpenSpec := { _root_.Go.OpenSpec.ofChange s with cond := some uptoSmall }

/-- 'dspcompilerlaw38.ProcessorWrites', WHERE WHAT IT READS IS OF BULK AT MOST 1048576: true; the input reads as it did. -/
def processorWritesUptoRow : OpenClaim := { program := "ytgdccmmcjicgkaadoor", sum := "dce6934ef5dd2a1ef7121fd336e45fb2a40308907b92f650e4173d7134e068db", func := "dspcompiler/dspcompilerlaw38.ProcessorWrites", spec := "processorWrites", inPlace := ["internal/abi.NoEscape"], recurses := true, named := ["dspcompiler/processor.forms", "internal/strconv.uint64pow10", "math/bits.deBruijn32tab", "math/bits.deBruijn64tab"], apart := false, laid := [("math/bits.deBruijn32tab", laid_math_bits_deBruijn32tab), ("math/bits.deBruijn64tab", laid_math_bits_deBruijn64tab), ("internal/strconv.uint64pow10", laid_internal_strconv_uint64pow10), ("dspcompiler/processor.forms", laid_dspcompiler_processor_forms)], narrowed := true }
def ProcessorWritesUptoSaid : Prop := processorWritesUptoRow.holds Tryd.pinned (OpenSpec.upto processorWritesSpec)

/-- 'dspcompilerlaw39.SimulateRuns', WHERE WHAT IT READS IS OF BULK AT MOST 1048576: true; the input reads as it did. -/
def simulateRunsUptoRow : OpenClaim := { program := "ytgdccmmcjicgkaadoor", sum := "dce6934ef5dd2a1ef7121fd336e45fb2a40308907b92f650e4173d7134e068db", func := "dspcompiler/dspcompilerlaw39.SimulateRuns", spec := "simulateRuns", unfollowed := true, recurses := true, named := ["dspcompiler/processor.forms"], apart := false, laid := [("dspcompiler/processor.forms", laid_dspcompiler_processor_forms)], narrowed := true }
def SimulateRunsUptoSaid : Prop := simulateRunsUptoRow.holds Tryd.pinned (OpenSpec.upto simulateRunsSpec)

/-- 'dspcompilerlaw39.SimulateForgets', WHERE WHAT IT READS IS OF BULK AT MOST 1048576: true; the input reads as it did. -/
def simulateForgetsUptoRow : OpenClaim := { program := "ytgdccmmcjicgkaadoor", sum := "dce6934ef5dd2a1ef7121fd336e45fb2a40308907b92f650e4173d7134e068db", func := "dspcompiler/dspcompilerlaw39.SimulateForgets", spec := "simulateForgets", unfollowed := true, recurses := true, named := ["dspcompiler/processor.forms"], apart := false, laid := [("dspcompiler/processor.forms", laid_dspcompiler_processor_forms)], narrowed := true }
def SimulateForgetsUptoSaid : Prop := simulateForgetsUptoRow.holds Tryd.pinned (OpenSpec.upto simulateForgetsSpec)

/-- 'dspcompilerlaw39.SimulateTimes', WHERE WHAT IT READS IS OF BULK AT MOST 1048576: true; the input reads as it did. -/
def simulateTimesUptoRow : OpenClaim := { program := "ytgdccmmcjicgkaadoor", sum := "dce6934ef5dd2a1ef7121fd336e45fb2a40308907b92f650e4173d7134e068db", func := "dspcompiler/dspcompilerlaw39.SimulateTimes", spec := "simulateTimes", unfollowed := true, recurses := true, named := ["dspcompiler/processor.forms"], apart := false, laid := [("dspcompiler/processor.forms", laid_dspcompiler_processor_forms)], narrowed := true }
def SimulateTimesUptoSaid : Prop := simulateTimesUptoRow.holds Tryd.pinned (OpenSpec.upto simulateTimesSpec)

/-- 'dspcompilerlaw39.SimulateDelays', WHERE WHAT IT READS IS OF BULK AT MOST 1048576: true; the input reads as it did. -/
def simulateDelaysUptoRow : OpenClaim := { program := "ytgdccmmcjicgkaadoor", sum := "dce6934ef5dd2a1ef7121fd336e45fb2a40308907b92f650e4173d7134e068db", func := "dspcompiler/dspcompilerlaw39.SimulateDelays", spec := "simulateDelays", unfollowed := true, recurses := true, named := ["dspcompiler/processor.forms"], apart := false, laid := [("dspcompiler/processor.forms", laid_dspcompiler_processor_forms)], narrowed := true }
def SimulateDelaysUptoSaid : Prop := simulateDelaysUptoRow.holds Tryd.pinned (OpenSpec.upto simulateDelaysSpec)

/-- 'dspcompilerlaw39.SimulateSteps', WHERE WHAT IT READS IS OF BULK AT MOST 1048576: true; the input reads as it did. -/
def simulateStepsUptoRow : OpenClaim := { program := "ytgdccmmcjicgkaadoor", sum := "dce6934ef5dd2a1ef7121fd336e45fb2a40308907b92f650e4173d7134e068db", func := "dspcompiler/dspcompilerlaw39.SimulateSteps", spec := "simulateSteps", unfollowed := true, recurses := true, named := ["dspcompiler/processor.forms"], apart := false, laid := [("dspcompiler/processor.forms", laid_dspcompiler_processor_forms)], narrowed := true }
def SimulateStepsUptoSaid : Prop := simulateStepsUptoRow.holds Tryd.pinned (OpenSpec.upto simulateStepsSpec)

/-- 'dspcompilerlaw38.ProcessorFindsTheFault', WHERE WHAT IT READS IS OF BULK AT MOST 1048576: true; the input reads as it did. -/
def processorFindsTheFaultUptoRow : OpenClaim := { program := "ytgdccmmcjicgkaadoor", sum := "dce6934ef5dd2a1ef7121fd336e45fb2a40308907b92f650e4173d7134e068db", func := "dspcompiler/dspcompilerlaw38.ProcessorFindsTheFault", spec := "processorFindsTheFault", inPlace := ["internal/abi.NoEscape"], named := ["dspcompiler/processor.forms", "internal/strconv.uint64pow10", "math/bits.deBruijn32tab", "math/bits.deBruijn64tab"], apart := false, laid := [("math/bits.deBruijn32tab", laid_math_bits_deBruijn32tab), ("math/bits.deBruijn64tab", laid_math_bits_deBruijn64tab), ("internal/strconv.uint64pow10", laid_internal_strconv_uint64pow10), ("dspcompiler/processor.forms", laid_dspcompiler_processor_forms)], narrowed := true }
def ProcessorFindsTheFaultUptoSaid : Prop := processorFindsTheFaultUptoRow.holds Tryd.pinned (OpenSpec.upto processorFindsTheFaultSpec)

/-- 'dspcompilerlaw38.ProcessorChecks', WHERE WHAT IT READS IS OF BULK AT MOST 1048576: true; the input reads as it did. -/
def processorChecksUptoRow : OpenClaim := { program := "ytgdccmmcjicgkaadoor", sum := "dce6934ef5dd2a1ef7121fd336e45fb2a40308907b92f650e4173d7134e068db", func := "dspcompiler/dspcompilerlaw38.ProcessorChecks", spec := "processorChecks", inPlace := ["internal/abi.NoEscape"], named := ["dspcompiler/processor.forms", "internal/strconv.uint64pow10", "math/bits.deBruijn32tab", "math/bits.deBruijn64tab"], apart := false, laid := [("math/bits.deBruijn32tab", laid_math_bits_deBruijn32tab), ("math/bits.deBruijn64tab", laid_math_bits_deBruijn64tab), ("internal/strconv.uint64pow10", laid_internal_strconv_uint64pow10), ("dspcompiler/processor.forms", laid_dspcompiler_processor_forms)], narrowed := true }
def ProcessorChecksUptoSaid : Prop := processorChecksUptoRow.holds Tryd.pinned (OpenSpec.upto processorChecksSpec)

/-- 'dspcompilerlaw40.ScheduleComputesTheSame', WHERE WHAT IT READS IS OF BULK AT MOST 1048576: true; the input reads as it did. -/
def scheduleComputesTheSameUptoRow : OpenClaim := { program := "ytgdccmmcjicgkaadoor", sum := "dce6934ef5dd2a1ef7121fd336e45fb2a40308907b92f650e4173d7134e068db", func := "dspcompiler/dspcompilerlaw40.ScheduleComputesTheSame", spec := "scheduleComputesTheSame", unfollowed := true, recurses := true, named := ["dspcompiler/processor.forms"], apart := false, laid := [("dspcompiler/processor.forms", laid_dspcompiler_processor_forms)], narrowed := true }
def ScheduleComputesTheSameUptoSaid : Prop := scheduleComputesTheSameUptoRow.holds Tryd.pinned (OpenSpec.upto scheduleComputesTheSameSpec)

end Rows
end Go.Proofs.YtgdccmmcjicgkaaDoor
