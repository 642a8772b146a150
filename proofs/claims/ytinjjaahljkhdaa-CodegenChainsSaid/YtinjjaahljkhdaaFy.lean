/- The walks of Shift, of package fixed and of its reference. -/
import Derived.Test.YtinjjaahljkhdaaFx
namespace Go.Proofs.Ytinjjaahljkhdaa
open Go.RowKit

end Go.Proofs.Ytinjjaahljkhdaa
