/- The walk of Step of the reference of layer 22, for valid networks, states and inputs. -/
import Derived.Test.YtlbighjggbaejaaT5
namespace Go.Proofs.Ytlbighjggbaejaa
open Go.RowKit

end Go.Proofs.Ytlbighjggbaejaa
