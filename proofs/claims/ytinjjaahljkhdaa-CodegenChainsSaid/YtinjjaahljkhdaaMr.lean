/- The walks of Phases and Merge of package multirate. -/
import Derived.Test.YtinjjaahljkhdaaMx
import Derived.Test.YtinjjaahljkhdaaPq
import Derived.Test.YtinjjaahljkhdaaQ
namespace Go.Proofs.Ytinjjaahljkhdaa
open Go.RowKit

end Go.Proofs.Ytinjjaahljkhdaa
