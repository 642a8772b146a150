/- The walks of Shift, of package fixed and of its reference. -/
import Derived.Test.YthalkhpdcijlkaaFx
namespace Go.Proofs.Ythalkhpdcijlkaa
open Go.RowKit

end Go.Proofs.Ythalkhpdcijlkaa
