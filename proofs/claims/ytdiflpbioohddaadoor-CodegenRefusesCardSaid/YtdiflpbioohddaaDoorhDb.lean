/- The law of codegen: computes. -/
import Derived.Test.YtdiflpbioohddaaDoorhS3toCr
import Derived.Test.YtdiflpbioohddaaDoorhCytoCz
import Derived.Test.YtdiflpbioohddaaDoorhS8toY3
import Derived.Test.YtdiflpbioohddaaDoorhE5toS1
import Derived.Test.YtdiflpbioohddaaDoorhCatoCb
import Derived.OwnWalk
import Derived.Test.YtdiflpbioohddaaDoorhS16toS14
import Derived.Test.YtdiflpbioohddaaDoorhG9toG10
import Derived.Test.YtdiflpbioohddaaDoorhUtoU3
import Derived.Test.YtdiflpbioohddaaDoorhE1toE3
import Derived.Test.YtdiflpbioohddaaDoorhBtoG2
import Derived.Test.YtdiflpbioohddaaDoorhS28toCx
import Derived.Test.YtdiflpbioohddaaDoorhJ
import Derived.Test.YtdiflpbioohddaaDoorhOhtoY6
import Derived.Test.YtdiflpbioohddaaDoorhH3
set_option linter.unusedVariables false
set_option linter.unusedSimpArgs false
namespace Go.Proofs.YtdiflpbioohddaaDoor
open Go.RowKit
theorem wpList_unguard {P : Program} {ops : Array Oper} {Q : Exit → Act → World → Prop} {rest : List Oper} {a : Act} {w : World} {d : Option Tmp} {op : Op} {t : TypeId} {p : String} {af : Array Edge} {g : Option (Nat × Bool)}
    (hw : Region.wanted (Oper.mk d op t p af g) (yielded ops a.tmps) = true) (h : wpList P ops Q (Oper.mk d op t p af none :: rest) a w) : wpList P ops Q (Oper.mk d op t p af g :: rest) a w := by
  unfold wpList at h ⊢
  rw [if_pos hw]
  rw [if_pos (by rfl)] at h
  exact h
end Go.Proofs.YtdiflpbioohddaaDoor
