/- Networks in numbers: the walk of Raw.Net of package world. -/
import Derived.Test.YtdiflpbioohddaaDoortH3
import Derived.Test.YtdiflpbioohddaaDoortU2toCr
import Derived.Test.YtdiflpbioohddaaDoortJ2
import Derived.Test.YtdiflpbioohddaaDoortCtoCa
import Derived.Test.YtdiflpbioohddaaDoortS31toH1
import Derived.Test.YtdiflpbioohddaaDoortG9toVc
import Derived.Handy
set_option linter.unusedVariables false
set_option linter.unusedSimpArgs false
namespace Go.Proofs.YtdiflpbioohddaaDoor
open Go.RowKit
theorem word_fitsR {b f r o : Int} (h : okW b f r o = true) (y : Int) : fitsW b f r o (wordF b f r o y) = true := by
 have hl := low_high b f r o
 obtain ⟨g1, g2⟩ := within_in (m := highW b f r o - lowW b f r o + 1) (by omega) (wrap64 (y - lowW b f r o))
 unfold fitsW
 rw [h, Bool.true_and, inB_iff]
 unfold wordF
 omega
end Go.Proofs.YtdiflpbioohddaaDoor
