/- The walks of the statements about layer 21 that take numbers alone, and of what they call of package world. -/
import Derived.Test.YtinjjaahljkhdaaFz
namespace Go.Proofs.Ytinjjaahljkhdaa
open Go.RowKit

theorem wd_Within (v m : Int) (w : World) (hm : m ≤ 9223372036854775807) : Calls Try.prog 13 #[.int .i64 v, .int .i64 m] w fun e w' => e = .returned (.int .i64 (withinF v m)) ∧ w = w' := by
  by_cases h : 1 ≤ m
  · obtain ⟨T, e1, a1, f1, f2⟩ := within_facts h v
    have F1 := Lib.hid f1
    have F2 := Lib.hid f2
    clear f1 f2
    go_enter Try.func13, Try.ntmps13
    go_wp2
    all_goals go_ret
    · exact ⟨ret_int (F1.out (by omega)).symm, rfl⟩
    · exact ⟨ret_int (F2.out (by omega)).symm, rfl⟩
  · have E : Hid (withinF v m = 0) := by unfold withinF; rw [if_pos (by omega)]; exact rfl
    go_enter Try.func13, Try.ntmps13
    go_wp2
    go_ret
    exact ⟨ret_int E.out.symm, rfl⟩
end Go.Proofs.Ytinjjaahljkhdaa
