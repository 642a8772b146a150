/- The walk of Valid of package network. -/
import Derived.Test.YtemefigbnjkdoaaDoorG8
set_option linter.unusedVariables false
set_option linter.unusedSimpArgs false
namespace Go.Proofs.YtemefigbnjkdoaaDoor
open Go.RowKit

end Go.Proofs.YtemefigbnjkdoaaDoor
