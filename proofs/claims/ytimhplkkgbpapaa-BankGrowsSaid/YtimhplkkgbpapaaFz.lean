/- The walks of Fits, Saturate, Reduce, of package fixed and of its reference. -/
import Derived.Test.YtimhplkkgbpapaaFy
namespace Go.Proofs.Ytimhplkkgbpapaa
open Go.RowKit

end Go.Proofs.Ytimhplkkgbpapaa
