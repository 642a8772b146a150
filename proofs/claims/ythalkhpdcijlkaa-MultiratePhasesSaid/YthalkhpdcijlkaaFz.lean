/- The walks of Fits, Saturate, Reduce, of package fixed and of its reference. -/
import Derived.Test.YthalkhpdcijlkaaFy
namespace Go.Proofs.Ythalkhpdcijlkaa
open Go.RowKit

end Go.Proofs.Ythalkhpdcijlkaa
