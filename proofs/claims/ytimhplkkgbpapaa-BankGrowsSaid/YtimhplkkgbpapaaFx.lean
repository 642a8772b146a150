/- The walks of package fixed and of its reference: what each function of numbers computes. -/
import Derived.Test.YtimhplkkgbpapaaRows
import Derived.Test.YtimhplkkgbpapaaW
namespace Go.Proofs.Ytimhplkkgbpapaa
open Go.RowKit

abbrev wordV (b f r o : Int) : Value := .agg #[.int .i64 b, .int .i64 f, .int .i64 r, .int .i64 o]

theorem fx_mode (r : Int) (w : World) : Calls Try.prog 40 #[.int .i64 r] w fun e w' => e = .returned (.bool (inB r 1 3)) ∧ w = w' := by
  go_enter Try.func40, Try.ntmps40
  go_wp2
  all_goals go_ret
  all_goals exact ⟨ret_bool (by rw [Bool.eq_iff_iff]; simp [inB]; omega), rfl⟩
theorem rf_In (v lo hi : Int) (w : World) : Calls Try.prog 29 #[.int .i64 v, .int .i64 lo, .int .i64 hi] w fun e w' => e = .returned (.bool (inB v lo hi)) ∧ w = w' := by
  go_enter Try.func29, Try.ntmps29
  go_wp2
  all_goals go_ret
  all_goals exact ⟨ret_bool (by rw [Bool.eq_iff_iff]; simp [inB]; omega), rfl⟩
theorem fx_Wrap (b v : Int) (w : World) : Calls Try.prog 37 #[.int .i64 b, .int .i64 v] w fun e w' => e = .returned (.int .i64 (wrapF b v)) ∧ w = w' := by
  by_cases h : inB b 1 62 = true
  · obtain ⟨h1, h2⟩ := inB_iff.1 h
    obtain ⟨P, H, M, e1, e2, e3, a1, a2, a3, a4, a5, e4⟩ := wrap_facts h1 h2 v
    have E := Lib.hid e4
    clear e4 h a5
    go_enter Try.func37, Try.ntmps37
    go_wp2
    all_goals go_ret
    all_goals refine ⟨ret_int ?_, rfl⟩
    · rw [E.out, if_neg (by omega)]
    · rw [E.out, if_pos (by omega)]
  · have h' : inB b 1 62 = false := by simpa using h
    have := inB_no.1 h'
    have E : Hid (wrapF b v = 0) := by unfold wrapF; rw [if_neg h]; exact rfl
    clear h h'
    go_enter Try.func37, Try.ntmps37
    go_wp2
    all_goals go_ret
    all_goals exact ⟨ret_int E.out.symm, rfl⟩
theorem rf_Wrap (b v : Int) (w : World) : Calls Try.prog 19 #[.int .i64 b, .int .i64 v] w fun e w' => e = .returned (.int .i64 (wrapF b v)) ∧ w = w' := by
  by_cases h : inB b 1 62 = true
  · obtain ⟨h1, h2⟩ := inB_iff.1 h
    obtain ⟨P, H, M, e1, e2, e3, a1, a2, a3, a4, a5, e4⟩ := wrap_facts h1 h2 v
    obtain ⟨T, e5, e6, b1, b2⟩ := tmod_facts v a1
    have E := Lib.hid e4
    have E6 := Lib.hid e6
    have E5 := Lib.hid a5
    clear e4 e6 e2 e3 a5
    go_enter Try.func19, Try.ntmps19
    go_wp2_with (go_at_call 29; refine (rf_In _ _ _ _).mono ?_; rintro e w' ⟨rfl, rfl⟩)
    all_goals go_ret
    all_goals refine ⟨ret_int ?_, rfl⟩
    all_goals have E6' := E6.out
    all_goals have E5' := E5.out
    all_goals rw [E.out]
    · rw [if_neg (by omega)]; omega
    · rw [if_pos (by omega)]; omega
    · rw [if_neg (by omega)]; omega
    · rw [if_pos (by omega)]; omega
  · have h' : inB b 1 62 = false := by simpa using h
    have E : Hid (wrapF b v = 0) := by unfold wrapF; rw [if_neg h]; exact rfl
    clear h
    go_enter Try.func19, Try.ntmps19
    go_wp2_with (go_at_call 29; refine (rf_In _ _ _ _).mono ?_; rintro e w' ⟨rfl, rfl⟩)
    all_goals go_ret
    all_goals exact ⟨ret_int E.out.symm, rfl⟩
end Go.Proofs.Ytimhplkkgbpapaa
