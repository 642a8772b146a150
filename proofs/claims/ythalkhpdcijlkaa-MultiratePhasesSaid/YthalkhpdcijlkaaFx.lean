/- The walks of package fixed and of its reference: what each function of numbers computes. -/
import Derived.Test.YthalkhpdcijlkaaRows
import Derived.Test.YthalkhpdcijlkaaW
namespace Go.Proofs.Ythalkhpdcijlkaa
open Go.RowKit

abbrev wordV (b f r o : Int) : Value := .agg #[.int .i64 b, .int .i64 f, .int .i64 r, .int .i64 o]

theorem rf_In (v lo hi : Int) (w : World) : Calls Try.prog 28 #[.int .i64 v, .int .i64 lo, .int .i64 hi] w fun e w' => e = .returned (.bool (inB v lo hi)) ∧ w = w' := by
  go_enter Try.func28, Try.ntmps28
  go_wp2
  all_goals go_ret
  all_goals exact ⟨ret_bool (by rw [Bool.eq_iff_iff]; simp [inB]; omega), rfl⟩
end Go.Proofs.Ythalkhpdcijlkaa
