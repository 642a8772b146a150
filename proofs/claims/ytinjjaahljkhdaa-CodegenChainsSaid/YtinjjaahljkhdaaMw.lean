/- The walks of package multirate and of its reference: Up, Down. -/
import Derived.Test.YtinjjaahljkhdaaK
import Derived.Test.YtinjjaahljkhdaaSm
import Derived.Test.YtinjjaahljkhdaaPq
namespace Go.Proofs.Ytinjjaahljkhdaa
open Go.RowKit

end Go.Proofs.Ytinjjaahljkhdaa
