/- The walks of the statements about layer 21 that take numbers alone, and of what they call of package world. -/
import Derived.Test.YtenpffjbgpapmaaFz
namespace Go.Proofs.Ytenpffjbgpapmaa
open Go.RowKit

theorem wd_Within (v m : Int) (w : World) (hm : m ≤ 9223372036854775807) : Calls Try.prog 13 #[.int .i64 v, .int .i64 m] w fun e w' => e = .returned (.int .i64 (withinF v m)) ∧ w = w' := by
  by_cases h : 1 ≤ m
  · obtain ⟨T, e1, a1, f1, f2⟩ := within_facts h v
    have F1 := Lib.hid f1
    have F2 := Lib.hid f2
    clear f1 f2
    go_enter Try.func13, Try.ntmps13
    go_wp2
    all_goals go_ret
    · exact ⟨ret_int (F1.out (by omega)).symm, rfl⟩
    · exact ⟨ret_int (F2.out (by omega)).symm, rfl⟩
  · have E : Hid (withinF v m = 0) := by unfold withinF; rw [if_pos (by omega)]; exact rfl
    go_enter Try.func13, Try.ntmps13
    go_wp2
    go_ret
    exact ⟨ret_int E.out.symm, rfl⟩
theorem known21 (w : World) : Calls Try.prog 15 #[] w fun e w' => e = .returned (.bool true) ∧ Below w.heap.size w w' := by
  have s1 : shiftF (-3) 1 1 = -2 := by decide
  have s2 : shiftF (-3) 1 2 = -1 := by decide
  have s3 : shiftF (-3) 1 3 = -1 := by decide
  have s4 : wrapF 4 9 = -7 := by decide
  have hv : I64 (-3) := ⟨by decide, by decide⟩
  have HV := Lib.hid hv
  have hb := Below.refl w.heap.size w
  clear hv
  go_enter Try.func15, Try.ntmps15
  go_wp2_with (first
    | (go_at_call 16; refine (fx_Shift _ _ _ _ HV.out).mono ?_; rintro e w1 ⟨rfl, hb1⟩; have hb := below_then hb hb1)
    | (go_at_call 18; refine (fx_Wrap _ _ _).mono ?_; rintro e w1 ⟨rfl, rfl⟩))
  go_ret
  exact ⟨rfl, hb⟩
theorem law_FixedShifts (v n r : Int) (w : World) (hv : I64 v) (_ : I64 n) (_ : I64 r) : Calls Try.prog 4 #[.int .i64 v, .int .i64 n, .int .i64 r] w fun e w' => e = .returned (.bool true) ∧ Below w.heap.size w w' := by
  have HV := Lib.hid hv
  have hb := Below.refl w.heap.size w
  clear hv
  go_enter Try.func4, Try.ntmps4
  go_wp2_with (first
    | (go_at_call 15; refine (known21 _).mono ?_; rintro e w1 ⟨rfl, hb1⟩; have hb := below_then hb hb1)
    | (go_at_call 16; refine (fx_Shift _ _ _ _ HV.out).mono ?_; rintro e w1 ⟨rfl, hb1⟩; have hb := below_then hb hb1)
    | (go_at_call 17; refine (rf_Shift _ _ _ _ HV.out).mono ?_; rintro e w1 ⟨rfl, hb1⟩; have hb := below_then hb hb1)
    | (go_at_call 18; refine (fx_Wrap _ _ _).mono ?_; rintro e w1 ⟨rfl, rfl⟩)
    | (go_at_call 19; refine (rf_Wrap _ _ _).mono ?_; rintro e w1 ⟨rfl, rfl⟩))
  go_ret
  exact ⟨rfl, hb⟩
theorem law_FixedJudges (u : Int × Int × Int × Int) (v : Int) (w : World) (_ : I64 u.1 ∧ I64 u.2.1 ∧ I64 u.2.2.1 ∧ I64 u.2.2.2) (_ : I64 v) : Calls Try.prog 10 #[wordV u.1 u.2.1 u.2.2.1 u.2.2.2, .int .i64 v] w fun e w' => e = .returned (.bool true) ∧ Below w.heap.size w w' := by
  obtain ⟨b, f, r, o⟩ := u
  have hx := @Ext.cell
  go_enter Try.func10, Try.ntmps10
  go_wp2_with fail
  refine wp_region_ext (by kernel_rfl) (by kernel_rfl) ?_
  repeat (go_big_quiet_step (first
    | (go_at_call 15; exact ext_below (known21 _))
    | (go_at_call 27; exact ext_below (fx_Valid _ _ _ _ _))
    | (go_at_call 28; exact ext_below (rf_Valid _ _ _ _ _))
    | (go_at_call 29; exact ext_below (fx_Low _ _ _ _ _))
    | (go_at_call 30; exact ext_below (rf_Low _ _ _ _ _))
    | (go_at_call 31; exact ext_below (fx_High _ _ _ _ _))
    | (go_at_call 32; exact ext_below (rf_High _ _ _ _ _))
    | (go_at_call 26; exact ext_below (fx_Fits _ _ _ _ _ _))
    | (go_at_call 33; exact ext_below (rf_Fits _ _ _ _ _ _))
    | (go_at_call 24; exact ext_below (fx_Saturate _ _ _ _ _ _))
    | (go_at_call 34; exact ext_below (rf_Saturate _ _ _ _ _ _))
    | (go_at_call 35; exact ext_below (fx_Reduce _ _ _ _ _ _))
    | (go_at_call 36; exact ext_below (rf_Reduce _ _ _ _ _ _))))
  refine wpQuiet_nil ?_
  rintro _ ⟨⟨w1, hb1⟩, rfl⟩
  go_wp2
  go_ret
  exact ⟨rfl, ((Below.refl _ _).alloc (Nat.le_refl _) _).trans (hb1.mono (by simp))⟩
end Go.Proofs.Ytenpffjbgpapmaa
