/- The walks of FixedWrapsSums, FixedSaturatesNearest, FixedDots. -/
import Derived.Test.YtdmfafbfaelfnaaLb
namespace Go.Proofs.Ytdmfafbfaelfnaa
open Go.RowKit

theorem rf_Small24 (A : Option Addr) (l : List Int) (c : Nat) (w : World) (hl : l.length ≤ 9223372036854775807) (h : Ints w A l) :
    Calls Try.prog 34 #[.slice A l.length c, .int .i64 24] w fun e w' => e = .returned (.bool (smallB l 24)) ∧ w = w' := rf_Small A l c 24 w (by decide) hl h
end Go.Proofs.Ytdmfafbfaelfnaa
