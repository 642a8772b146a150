/- Drafts of programs: the walk of Draft.Program of package world. Printed by gen_e24.py. -/
import Derived.Test.YtgdccmmcjicgkaaDoorsE15toE23
import Derived.Test.YtgdccmmcjicgkaaDoorsE31toU5
import Derived.Test.YtgdccmmcjicgkaaDoorsJtoJ2
import Derived.Test.YtgdccmmcjicgkaaDoorsFztoVc
import Derived.Deep.DeepCutAuto
import Derived.Deep.CutBlock
set_option linter.unusedVariables false
set_option linter.unusedSimpArgs false
namespace Go.Proofs.YtgdccmmcjicgkaaDoor
open Go.RowKit
def prgL (d0 d1 d2 d3 c0 c1 c2 c3 : Int) (V X : Value) : List Value := [.int .i64 d0, .int .i64 d1, .int .i64 d2, .int .i64 d3, .int .i64 c0, .int .i64 c1, .int .i64 c2, .int .i64 c3, V, X]
def zeros10 : List Value := prgL 0 0 0 0 0 0 0 0 (.slice none 0 0) (.slice none 0 0)
end Go.Proofs.YtgdccmmcjicgkaaDoor
