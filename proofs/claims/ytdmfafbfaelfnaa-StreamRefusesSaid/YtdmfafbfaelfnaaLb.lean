/- The walks of Dot and of the statements about layer 21 that take lists. -/
import Derived.Test.YtdmfafbfaelfnaaC
import Derived.Test.YtdmfafbfaelfnaaD
namespace Go.Proofs.Ytdmfafbfaelfnaa
open Go.RowKit

/-- y is from -2^24 to 2^24. -/
def fac (y : Int) : Bool := inB y (-2 ^ 24) (2 ^ 24)
theorem fac_iff {y : Int} : fac y = true ↔ -16777216 ≤ y ∧ y ≤ 16777216 := by
  unfold fac; rw [show (2 : Int) ^ 24 = 16777216 by decide]; exact inB_iff

end Go.Proofs.Ytdmfafbfaelfnaa
