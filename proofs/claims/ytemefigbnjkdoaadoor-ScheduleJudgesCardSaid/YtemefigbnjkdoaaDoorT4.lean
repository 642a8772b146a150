/- The walks of Values, Step and Run of package network, for valid networks, states and inputs. -/
import Derived.Test.YtemefigbnjkdoaaDoorT3
import Derived.Test.YtemefigbnjkdoaaDoorPu
import Derived.Test.YtemefigbnjkdoaaDoorPs
set_option linter.unusedVariables false
set_option linter.unusedSimpArgs false
namespace Go.Proofs.YtemefigbnjkdoaaDoor
open Go.RowKit

theorem results_tmp4 {fn : Func} {t u v x : Tmp} (h : fn.results = #[.tmp t, .tmp u, .tmp v, .tmp x]) (tmps : Array Value) (P : Program) (w : World) :
    (results fn tmps).run P w = .ok (.tuple #[tmps.getD t undef, tmps.getD u undef, tmps.getD v undef, tmps.getD x undef]) w := by
  simp [results, h]
/-- The output of a step. -/
theorem vals_at {d0 d1 d2 d3 c0 c1 c2 c3 st out x : Int} {ns : List (List (Int × Int))} {nx s : List Int} (h : netB d0 d1 d2 d3 c0 c1 c2 c3 st ns nx out = true) (hs : (s.length : Int) = st) :
    (valsF d0 d1 d2 d3 c1 ns (x :: s) ns.length).length = 1 + s.length + ns.length := by
  rw [valsF_length _ _ _ _ _ _ _ _ (Nat.le_refl _), List.length_cons]; omega
end Go.Proofs.YtemefigbnjkdoaaDoor
