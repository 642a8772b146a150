/- The walks of package world: formats. -/
import Derived.Test.YtdmfafbfaelfnaaPr
namespace Go.Proofs.Ytdmfafbfaelfnaa
open Go.RowKit

/-- The format made of a number. -/
def mkW (k least most above : Int) : Int × Int × Int × Int :=
  (least + withinF k 1099511627776 % (most - least + 1),
   max (least + withinF k 1099511627776 % (most - least + 1) - 1 - above - withinF k 1099511627776 / (most - least + 1) % 2) 0,
   1 + withinF k 1099511627776 / (most - least + 1) / 2 % 3,
   1 + withinF k 1099511627776 / (most - least + 1) / 2 / 3 % 2)
abbrev wordT (u : Int × Int × Int × Int) : Value := wordV u.1 u.2.1 u.2.2.1 u.2.2.2

end Go.Proofs.Ytdmfafbfaelfnaa
