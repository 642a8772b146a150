/- The walks of package multirate and of its reference: every, Down. -/
import Derived.Test.YtinjjaahljkhdaaMw
namespace Go.Proofs.Ytinjjaahljkhdaa
open Go.RowKit

end Go.Proofs.Ytinjjaahljkhdaa
