/-
  No cell of these rows narrows 'for every input' (looked for: loops, veiled, ifaces, maps, wideKeys, modest, calm, conditions, laid).
  DERIVED. THE GIVEN ROWS OF THIS SEAT. 4 by the template 'for every input the law returns true; each argument reads behind the call as it read before'; 0 by the template 'total and deterministic' (their statements: YtlomhaabiodofaaTotals.lean).
  GIVEN WITH THE SEED: the statements are not yours to turn. If you find one false, say at which input.
  Laid BY PROGRAM, IN A SANDBOX (cutbox-rows.mjs): the forced cells as the released guide's own fill.sh prints them over the translation b698e28dae118d9a… (all of the seat's roots in one cut). By AI agents, Wed Nov 11 2026. No macro, syntax, notation, axiom, sorry.
-/
import Derived.Test.YtlomhaabiodofaaChecked
import GoSem.Claim
import GoSem.ClaimJoined
import GoSem.ClaimMapViews
import Derived.JoinedTies
import Derived.KernelRfl
namespace Go.Proofs.Ytlomhaabiodofaa
/- THE CELL 'sum', in the pinned program and in every row, IS THE sha256 OF THE DUMP (.gsa) THAT YtlomhaabiodofaaProg.lean LOADS. Nothing in Lean hashes anything: it is a label: what it is worth is what the hold of that sum in a sandbox is worth. -/
noncomputable def Try.pinned : Pinned := { name := "ytlomhaabiodofaa", sum := "b698e28dae118d9a8820efceabcd9c9f8b6fb3ed50783ed5d260423b13788c80", checked := Try.checked }
namespace Rows
def none {H : Type} : Left H := { results := [], args := [] }

/-- 'dspcompilerlaw32.MultirateIsConvert': WHATEVER THE INPUT: true; the input reads as it did. -/
def multirateIsConvertSpec : ChangeSpec := { name := "multirateIsConvert", fn := fun _ => fun
  | [d1, d2, d3] => { results := [.lit (.bool true)], args := [d1, d2, d3] }
  | _ => none }
def multirateIsConvertRow : OpenClaim := { program := "ytlomhaabiodofaa", sum := "b698e28dae118d9a8820efceabcd9c9f8b6fb3ed50783ed5d260423b13788c80", func := "dspcompiler/dspcompilerlaw32.MultirateIsConvert", spec := "multirateIsConvert", apart := false }
def MultirateIsConvertSaid : Prop := multirateIsConvertRow.holds Try.pinned (OpenSpec.ofChange multirateIsConvertSpec)

/-- ITS FALSE NEIGHBOUR: 'it returns false'. Refute it at one input. -/
def multirateIsConvertWrong : ChangeSpec := { name := "multirateIsConvert", fn := fun _ => fun
  | [d1, d2, d3] => { results := [.lit (.bool false)], args := [d1, d2, d3] }
  | _ => none }
def MultirateIsConvertWrongFalsely : Prop := multirateIsConvertRow.holds Try.pinned (OpenSpec.ofChange multirateIsConvertWrong)

/-- 'dspcompilerlaw32.MultirateNobleUp': WHATEVER THE INPUT: true; the input reads as it did. -/
def multirateNobleUpSpec : ChangeSpec := { name := "multirateNobleUp", fn := fun _ => fun
  | [d1, d2] => { results := [.lit (.bool true)], args := [d1, d2] }
  | _ => none }
def multirateNobleUpRow : OpenClaim := { program := "ytlomhaabiodofaa", sum := "b698e28dae118d9a8820efceabcd9c9f8b6fb3ed50783ed5d260423b13788c80", func := "dspcompiler/dspcompilerlaw32.MultirateNobleUp", spec := "multirateNobleUp", apart := false }
def MultirateNobleUpSaid : Prop := multirateNobleUpRow.holds Try.pinned (OpenSpec.ofChange multirateNobleUpSpec)

/-- ITS FALSE NEIGHBOUR: 'it returns false'. Refute it at one input. -/
def multirateNobleUpWrong : ChangeSpec := { name := "multirateNobleUp", fn := fun _ => fun
  | [d1, d2] => { results := [.lit (.bool false)], args := [d1, d2] }
  | _ => none }
def MultirateNobleUpWrongFalsely : Prop := multirateNobleUpRow.holds Try.pinned (OpenSpec.ofChange multirateNobleUpWrong)

/-- 'dspcompilerlaw32.MultirateConverts': WHATEVER THE INPUT: true; the input reads as it did. -/
def multirateConvertsSpec : ChangeSpec := { name := "multirateConverts", fn := fun _ => fun
  | [d1, d2, d3, d4, d5, d6] => { results := [.lit (.bool true)], args := [d1, d2, d3, d4, d5, d6] }
  | _ => none }
def multirateConvertsRow : OpenClaim := { program := "ytlomhaabiodofaa", sum := "b698e28dae118d9a8820efceabcd9c9f8b6fb3ed50783ed5d260423b13788c80", func := "dspcompiler/dspcompilerlaw32.MultirateConverts", spec := "multirateConverts", apart := false }
def MultirateConvertsSaid : Prop := multirateConvertsRow.holds Try.pinned (OpenSpec.ofChange multirateConvertsSpec)

/-- ITS FALSE NEIGHBOUR: 'it returns false'. Refute it at one input. -/
def multirateConvertsWrong : ChangeSpec := { name := "multirateConverts", fn := fun _ => fun
  | [d1, d2, d3, d4, d5, d6] => { results := [.lit (.bool false)], args := [d1, d2, d3, d4, d5, d6] }
  | _ => none }
def MultirateConvertsWrongFalsely : Prop := multirateConvertsRow.holds Try.pinned (OpenSpec.ofChange multirateConvertsWrong)

/-- 'dspcompilerlaw32.MultirateNobleDown': WHATEVER THE INPUT: true; the input reads as it did. -/
def multirateNobleDownSpec : ChangeSpec := { name := "multirateNobleDown", fn := fun _ => fun
  | [d1, d2] => { results := [.lit (.bool true)], args := [d1, d2] }
  | _ => none }
def multirateNobleDownRow : OpenClaim := { program := "ytlomhaabiodofaa", sum := "b698e28dae118d9a8820efceabcd9c9f8b6fb3ed50783ed5d260423b13788c80", func := "dspcompiler/dspcompilerlaw32.MultirateNobleDown", spec := "multirateNobleDown", apart := false }
def MultirateNobleDownSaid : Prop := multirateNobleDownRow.holds Try.pinned (OpenSpec.ofChange multirateNobleDownSpec)

/-- ITS FALSE NEIGHBOUR: 'it returns false'. Refute it at one input. -/
def multirateNobleDownWrong : ChangeSpec := { name := "multirateNobleDown", fn := fun _ => fun
  | [d1, d2] => { results := [.lit (.bool false)], args := [d1, d2] }
  | _ => none }
def MultirateNobleDownWrongFalsely : Prop := multirateNobleDownRow.holds Try.pinned (OpenSpec.ofChange multirateNobleDownWrong)

/- THE SECOND FORM. 'bulk': how many values and letters a reading holds, each counted each time it is reached (what is shared counts as often as it is met; a slice's spare places count too). A statement '..UptoSaid' is the law's where the arguments, and the package variables that the reading takes, are together of bulk at most 1048576: NARROWER than '..Said'. Prove '..Said' where nothing that the law and all that it calls make is longer than what came in: it says more and counts as full. Else prove '..UptoSaid'. A law counts once. -/
mutual
def uptoBulk {H : Type} : DataW H → Nat
  | .lit (.string bytes) => bytes.length + 1
  | .lit _ => 1
  | .nil => 1
  | .ptr d => uptoBulk d + 1
  | .slice elems spare => uptoBulkAll elems + uptoBulkAll spare + 1
  | .agg parts => uptoBulkAll parts + 1
  | .iface _ d => uptoBulk d + 1
  | .map entries => uptoBulkEntries entries + 1
  | .held _ => 1
def uptoBulkAll {H : Type} : List (DataW H) → Nat
  | [] => 0
  | d :: r => uptoBulk d + uptoBulkAll r
def uptoBulkEntries {H : Type} : List (Lit × DataW H) → Nat
  | [] => 0
  | x :: r => uptoBulkEntry x + uptoBulkEntries r
def uptoBulkEntry {H : Type} : Lit × DataW H → Nat
  | (.string bytes, d) => bytes.length + uptoBulk d + 1
  | (_, d) => uptoBulk d + 1
 end
def uptoSmall : (H : Type) → List (DataW H) → Bool := fun _ ds => decide (uptoBulkAll ds ≤ 1048576)
def OpenSpec.upto (s : _root_.Go.ChangeSpec) : _root_.Go.OpenSpec := { _root_.Go.OpenSpec.ofChange s with cond := some uptoSmall }

/-- 'dspcompilerlaw32.MultirateIsConvert', WHERE WHAT IT READS IS OF BULK AT MOST 1048576: true; the input reads as it did. -/
def multirateIsConvertUptoRow : OpenClaim := { program := "ytlomhaabiodofaa", sum := "b698e28dae118d9a8820efceabcd9c9f8b6fb3ed50783ed5d260423b13788c80", func := "dspcompiler/dspcompilerlaw32.MultirateIsConvert", spec := "multirateIsConvert", apart := false, narrowed := true }
def MultirateIsConvertUptoSaid : Prop := multirateIsConvertUptoRow.holds Try.pinned (OpenSpec.upto multirateIsConvertSpec)

/-- 'dspcompilerlaw32.MultirateNobleUp', WHERE WHAT IT READS IS OF BULK AT MOST 1048576: true; the input reads as it did. -/
def multirateNobleUpUptoRow : OpenClaim := { program := "ytlomhaabiodofaa", sum := "b698e28dae118d9a8820efceabcd9c9f8b6fb3ed50783ed5d260423b13788c80", func := "dspcompiler/dspcompilerlaw32.MultirateNobleUp", spec := "multirateNobleUp", apart := false, narrowed := true }
def MultirateNobleUpUptoSaid : Prop := multirateNobleUpUptoRow.holds Try.pinned (OpenSpec.upto multirateNobleUpSpec)

/-- 'dspcompilerlaw32.MultirateConverts', WHERE WHAT IT READS IS OF BULK AT MOST 1048576: true; the input reads as it did. -/
def multirateConvertsUptoRow : OpenClaim := { program := "ytlomhaabiodofaa", sum := "b698e28dae118d9a8820efceabcd9c9f8b6fb3ed50783ed5d260423b13788c80", func := "dspcompiler/dspcompilerlaw32.MultirateConverts", spec := "multirateConverts", apart := false, narrowed := true }
def MultirateConvertsUptoSaid : Prop := multirateConvertsUptoRow.holds Try.pinned (OpenSpec.upto multirateConvertsSpec)

/-- 'dspcompilerlaw32.MultirateNobleDown', WHERE WHAT IT READS IS OF BULK AT MOST 1048576: true; the input reads as it did. -/
def multirateNobleDownUptoRow : OpenClaim := { program := "ytlomhaabiodofaa", sum := "b698e28dae118d9a8820efceabcd9c9f8b6fb3ed50783ed5d260423b13788c80", func := "dspcompiler/dspcompilerlaw32.MultirateNobleDown", spec := "multirateNobleDown", apart := false, narrowed := true }
def MultirateNobleDownUptoSaid : Prop := multirateNobleDownUptoRow.holds Try.pinned (OpenSpec.upto multirateNobleDownSpec)

end Rows
end Go.Proofs.Ytlomhaabiodofaa
