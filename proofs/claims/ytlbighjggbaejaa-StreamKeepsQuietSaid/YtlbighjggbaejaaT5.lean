/- The walks of total, Values and Step of the reference of layer 22, for valid networks, states and inputs. -/
import Derived.Test.YtlbighjggbaejaaT4
namespace Go.Proofs.Ytlbighjggbaejaa
open Go.RowKit

end Go.Proofs.Ytlbighjggbaejaa
