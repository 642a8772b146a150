/- The walks of Shift, of package fixed and of its reference. -/
import Derived.Test.YtimhplkkgbpapaaFx
namespace Go.Proofs.Ytimhplkkgbpapaa
open Go.RowKit

set_option maxHeartbeats 1000000 in
theorem fx_Shift (v n r : Int) (w : World) (hv : I64 v) : Calls Try.prog 38 #[.int .i64 v, .int .i64 n, .int .i64 r] w fun e w' => e = .returned (.int .i64 (shiftF v n r)) ∧ Below w.heap.size w w' := by
  by_cases h : inB n 0 62 = true
  · obtain ⟨h1, h2⟩ := inB_iff.1 h
    by_cases h' : inB r 1 3 = true
    · obtain ⟨h3, h4⟩ := inB_iff.1 h'
      by_cases hn : n = 0
      · subst hn
        have E := Lib.hid (shift_zero (v := v) h3 h4)
        clear h1 h2
        go_enter Try.func38, Try.ntmps38
        go_wp2_with (go_at_call 40; refine (fx_mode _ _).mono ?_; rintro e w' ⟨rfl, rfl⟩)
        go_ret
        exact ⟨ret_int E.out.symm, Below.refl _ _⟩
      · have hn1 : 1 ≤ n := by omega
        obtain ⟨P, M, D, C, B, e1, e2, e3, e4, e5, a1, a2, a3, a4, a5, e6, f1, f2, f3, e7, e8⟩ := shift_facts hn1 h2 hv
        have E1 := Lib.hid f1
        have E2 := Lib.hid f2
        have E3 := Lib.hid f3
        clear h e6 f1 f2 f3 e7 e8
        have hr : r = 1 ∨ r = 2 ∨ r = 3 := by omega
        by_cases hv0 : v < 0
        · by_cases hm : M = 0
          · have hm' : (M != 0) = false := by simp [hm]
            have E3' : Hid (shiftF v n 3 = D) := by rw [E3.out, if_neg (by omega)]; exact rfl
            clear hm E3
            rcases hr with rfl | rfl | rfl
            all_goals
              go_enter Try.func38, Try.ntmps38
              go_wp2_with (go_at_call 40; refine (fx_mode _ _).mono ?_; rintro e w' ⟨rfl, rfl⟩)
              all_goals try (exfalso; omega)
              go_ret
              exact ⟨ret_int (by first | exact E1.out.symm | exact E2.out.symm | exact E3'.out.symm), (Below.refl _ _).alloc (Nat.le_refl _) _⟩
          · have hm' : (M != 0) = true := by simp [hm]
            have E3' : Hid (shiftF v n 3 = D + 1) := by rw [E3.out, if_pos ⟨by omega, by omega⟩]; exact rfl
            clear hm E3
            rcases hr with rfl | rfl | rfl
            all_goals
              go_enter Try.func38, Try.ntmps38
              go_wp2_with (go_at_call 40; refine (fx_mode _ _).mono ?_; rintro e w' ⟨rfl, rfl⟩)
              all_goals try (exfalso; omega)
              go_ret
              exact ⟨ret_int (by first | exact E1.out.symm | exact E2.out.symm | exact E3'.out.symm), (Below.refl _ _).alloc (Nat.le_refl _) _⟩
        · have E3' : Hid (shiftF v n 3 = D) := by rw [E3.out, if_neg (by omega)]; exact rfl
          clear E3
          rcases hr with rfl | rfl | rfl
          all_goals
            go_enter Try.func38, Try.ntmps38
            go_wp2_with (go_at_call 40; refine (fx_mode _ _).mono ?_; rintro e w' ⟨rfl, rfl⟩)
            all_goals try (exfalso; omega)
            go_ret
            exact ⟨ret_int (by first | exact E1.out.symm | exact E2.out.symm | exact E3'.out.symm), (Below.refl _ _).alloc (Nat.le_refl _) _⟩
    · have h'' : inB r 1 3 = false := by simpa using h'
      have E : Hid (shiftF v n r = 0) := by unfold shiftF; rw [if_neg (by simp [h, h''])]; exact rfl
      clear h h'
      go_enter Try.func38, Try.ntmps38
      go_wp2_with (go_at_call 40; refine (fx_mode _ _).mono ?_; rintro e w' ⟨rfl, rfl⟩)
      all_goals go_ret
      all_goals exact ⟨ret_int E.out.symm, Below.refl _ _⟩
  · have h' : inB n 0 62 = false := by simpa using h
    have hn := inB_no.1 h'
    have E : Hid (shiftF v n r = 0) := by unfold shiftF; rw [if_neg (by simp [h'])]; exact rfl
    clear h h'
    go_enter Try.func38, Try.ntmps38
    go_wp2_with (go_at_call 40; refine (fx_mode _ _).mono ?_; rintro e w' ⟨rfl, rfl⟩)
    all_goals go_ret
    all_goals exact ⟨ret_int E.out.symm, Below.refl _ _⟩
set_option maxHeartbeats 1000000 in
theorem rf_Shift (v n r : Int) (w : World) (hv : I64 v) : Calls Try.prog 42 #[.int .i64 v, .int .i64 n, .int .i64 r] w fun e w' => e = .returned (.int .i64 (shiftF v n r)) ∧ Below w.heap.size w w' := by
  by_cases h : inB n 0 62 = true
  · obtain ⟨h1, h2⟩ := inB_iff.1 h
    by_cases h' : inB r 1 3 = true
    · obtain ⟨h3, h4⟩ := inB_iff.1 h'
      have hr : r = 1 ∨ r = 2 ∨ r = 3 := by omega
      obtain ⟨P, R, Q, e1, e2, e3, a1, a2, a3, a4, f0, f1, f2, f3⟩ := shift_ref h1 h2 hv
      have E1 := Lib.hid f1
      have E2 := Lib.hid f2
      have E3 := Lib.hid f3
      have E0 := Lib.hid f0
      clear f0 f1 f2 f3
      rcases hr with rfl | rfl | rfl
      · go_enter Try.func42, Try.ntmps42
        go_wp2_with (go_at_call 29; refine (rf_In _ _ _ _).mono ?_; rintro e w' ⟨rfl, rfl⟩)
        go_quiet (fail)
        go_wp2
        all_goals go_ret
        · exact ⟨ret_int (by rw [E1.out, if_pos (by omega)]), below_drewN (Below.refl _ _) _⟩
        · exact ⟨ret_int (by rw [E1.out, if_neg (by omega)]), below_drewN (Below.refl _ _) _⟩
      · go_enter Try.func42, Try.ntmps42
        go_wp2_with (go_at_call 29; refine (rf_In _ _ _ _).mono ?_; rintro e w' ⟨rfl, rfl⟩)
        go_quiet (fail)
        go_wp2
        all_goals try (exfalso; omega)
        all_goals go_ret
        all_goals refine ⟨ret_int ?_, below_drewN (Below.refl _ _) _⟩
        all_goals have E0' := E0.out
        all_goals rw [E2.out]
        all_goals (show (_ : Int) = _; (repeat' split) <;> omega)
      · go_enter Try.func42, Try.ntmps42
        go_wp2_with (go_at_call 29; refine (rf_In _ _ _ _).mono ?_; rintro e w' ⟨rfl, rfl⟩)
        go_quiet (fail)
        go_wp2
        all_goals try (exfalso; omega)
        all_goals go_ret
        all_goals refine ⟨ret_int ?_, below_drewN (Below.refl _ _) _⟩
        all_goals have E0' := E0.out
        all_goals rw [E3.out]
        all_goals (show (_ : Int) = _; (repeat' split) <;> omega)
    · have h'' : inB r 1 3 = false := by simpa using h'
      have E : Hid (shiftF v n r = 0) := by unfold shiftF; rw [if_neg (by simp [h, h''])]; exact rfl
      clear h'
      go_enter Try.func42, Try.ntmps42
      go_wp2_with (go_at_call 29; refine (rf_In _ _ _ _).mono ?_; rintro e w' ⟨rfl, rfl⟩)
      all_goals go_ret
      all_goals exact ⟨ret_int E.out.symm, Below.refl _ _⟩
  · have h' : inB n 0 62 = false := by simpa using h
    have E : Hid (shiftF v n r = 0) := by unfold shiftF; rw [if_neg (by simp [h'])]; exact rfl
    clear h
    go_enter Try.func42, Try.ntmps42
    go_wp2_with (go_at_call 29; refine (rf_In _ _ _ _).mono ?_; rintro e w' ⟨rfl, rfl⟩)
    all_goals go_ret
    all_goals exact ⟨ret_int E.out.symm, Below.refl _ _⟩
end Go.Proofs.Ytimhplkkgbpapaa
