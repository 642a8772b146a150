/- A struct literal of many cells; the stream of a network and a state. -/
import Derived.Test.YtodnbekeidbknaaTg
import Derived.Laws.Tables
set_option linter.unusedVariables false
set_option linter.unusedSimpArgs false
namespace Go.Proofs.Ytodnbekeidbknaa
open Go.RowKit

/-- The literal of a struct whose cells are reckoned apart. -/
theorem wp_bld {ops : Array Oper} {rest : List Oper} {o : Oper} {a : Act} {Q : Exit → Act → World → Prop} {w : World} (hgd : o.guard = none) (ty : TypeId) (parts : Array (Nat × Operand)) (ho : o.op = .build ty parts) (ps : List (Nat × Value)) (hp : parts.toList.map (fun p => (p.1, a.eval p.2)) = ps) {cells : Array Value}
    (hb : Try.prog.built ty ps = some cells) (h : wpList Try.prog ops Q rest (a.put o.dst (.agg cells)) w) : wpList Try.prog ops Q (o :: rest) a w := by
  have e : (parts.map fun (i, x) => (i, a.eval x)).toList = ps := by rw [Array.toList_map]; exact hp
  refine wpList_plain hgd fun _ hK => wp_build ty parts ho (by rw [e, hb]; rfl) (hK _ _ ?_)
  rw [e, hb]; exact h
theorem built_str (n : NetD) (NA : Option Addr) (nc : Nat) (XA : Option Addr) (xc : Nat) (A : Option Addr) (k c : Nat) : Try.prog.built 38 [(0, .agg (n.lst NA nc XA xc).toArray), (2, .slice A k c)] =
    some ((n.lst NA nc XA xc ++ NetD.zero.lst none 0 none 0 ++ ([.slice A k c, .slice none 0 0, .int .i64 0, .int .i64 0, .int .i64 0] : List Value)).toArray) := by kernel_rfl
end Go.Proofs.Ytodnbekeidbknaa
