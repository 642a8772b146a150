/- The walk of Step of the reference of layer 22, for valid networks, states and inputs. -/
import Derived.Test.YtodnbekeidbknaaT5
set_option linter.unusedVariables false
set_option linter.unusedSimpArgs false
namespace Go.Proofs.Ytodnbekeidbknaa
open Go.RowKit

end Go.Proofs.Ytodnbekeidbknaa
