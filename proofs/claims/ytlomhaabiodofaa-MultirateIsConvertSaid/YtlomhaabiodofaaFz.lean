/- The walks of Fits, Saturate, Reduce, of package fixed and of its reference. -/
import Derived.Test.YtlomhaabiodofaaFy
namespace Go.Proofs.Ytlomhaabiodofaa
open Go.RowKit

theorem rf_Fits (b f r o v : Int) (w : World) : Calls Try.prog 48 #[wordV b f r o, .int .i64 v] w fun e w' => e = .returned (.bool (fitsW b f r o v)) ∧ Below w.heap.size w w' := by
  have hx := @Ext.cell
  rcases Bool.eq_false_or_eq_true (okW b f r o) with h | h
  all_goals
    go_enter Try.func48, Try.ntmps48
    go_wp2
    refine wp_region_ext (by kernel_rfl) (by kernel_rfl) ?_
    repeat (go_big_quiet_step (first
      | (go_at_call 31; exact ext_below (rf_Valid_is h _))
      | (go_at_call 40; exact ext_below (rf_Low _ _ _ _ _))
      | (go_at_call 42; exact ext_below (rf_High _ _ _ _ _))
      | (go_at_call 47; exact ext_same (rf_In _ _ _ _))))
    refine wpQuiet_nil ?_
    rintro _ ⟨⟨w1, hb1⟩, rfl⟩
    go_wp2
    go_ret
    exact ⟨ret_bool (by simp [fitsW, h]), ((Below.refl _ _).alloc (Nat.le_refl _) _).trans (hb1.mono (by simp))⟩
theorem fx_Fits (b f r o v : Int) (w : World) : Calls Try.prog 44 #[wordV b f r o, .int .i64 v] w fun e w' => e = .returned (.bool (fitsW b f r o v)) ∧ Below w.heap.size w w' := by
  rcases Bool.eq_false_or_eq_true (okW b f r o) with h | h
  · go_enter Try.func44, Try.ntmps44
    go_wp2_with (first
      | (go_at_call 23; refine (fx_Valid_is h _).mono ?_; rintro e w1 ⟨rfl, hb1⟩; obtain ⟨hc1, hf1⟩ := bcell hb1)
      | (go_at_call 51; refine (fx_Low _ _ _ _ _).mono ?_; rintro e w2 ⟨rfl, hb2'⟩; have hb2 := below_then hb1 hb2'; clear hb2'; obtain ⟨hc2, hf2⟩ := bcell hb2)
      | (go_at_call 52; refine (fx_High _ _ _ _ _).mono ?_; rintro e w3 ⟨rfl, hb3'⟩; have hb3 := below_then hb2 hb3'; clear hb3'))
    all_goals go_ret
    · exact ⟨ret_bool (by simp [fitsW, h, inB]; omega), ((Below.refl _ _).alloc (Nat.le_refl _) _).trans (hb3.mono (by simp))⟩
    · exact ⟨ret_bool (by simp [fitsW, h, inB]; omega), ((Below.refl _ _).alloc (Nat.le_refl _) _).trans (hb2.mono (by simp))⟩
  · go_enter Try.func44, Try.ntmps44
    go_wp2_with (first
      | (go_at_call 23; refine (fx_Valid_is h _).mono ?_; rintro e w1 ⟨rfl, hb1⟩))
    all_goals go_ret
    all_goals exact ⟨ret_bool (by simp [fitsW, h]), ((Below.refl _ _).alloc (Nat.le_refl _) _).trans (hb1.mono (by simp))⟩
theorem fx_Saturate (b f r o v : Int) (w : World) : Calls Try.prog 46 #[wordV b f r o, .int .i64 v] w fun e w' => e = .returned (.int .i64 (satW b f r o v)) ∧ Below w.heap.size w w' := by
  have hx := @Ext.cell
  go_enter Try.func46, Try.ntmps46
  go_wp2_with fail
  refine wp_region_ext (by kernel_rfl) (by kernel_rfl) ?_
  repeat (go_big_quiet_step (first
      | (go_at_call 51; exact ext_below (fx_Low _ _ _ _ _))
      | (go_at_call 52; exact ext_below (fx_High _ _ _ _ _))))
  refine wpQuiet_nil ?_
  rintro _ ⟨⟨w1, hb1⟩, rfl⟩
  rw [sat_if]
  simp only [max_if]
  go_wp2
  go_ret
  exact ⟨ret_int rfl, ((Below.refl _ _).alloc (Nat.le_refl _) _).trans (hb1.mono (by simp))⟩
theorem rf_Saturate (b f r o v : Int) (w : World) : Calls Try.prog 50 #[wordV b f r o, .int .i64 v] w fun e w' => e = .returned (.int .i64 (satW b f r o v)) ∧ Below w.heap.size w w' := by
  have hx := @Ext.cell
  go_enter Try.func50, Try.ntmps50
  go_wp2_with fail
  refine wp_region_ext (by kernel_rfl) (by kernel_rfl) ?_
  repeat (go_big_quiet_step (first
      | (go_at_call 40; exact ext_below (rf_Low _ _ _ _ _))
      | (go_at_call 42; exact ext_below (rf_High _ _ _ _ _))))
  refine wpQuiet_nil ?_
  rintro _ ⟨⟨w1, hb1⟩, rfl⟩
  rw [sat_if]
  simp only [max_if]
  go_wp2
  go_ret
  exact ⟨ret_int rfl, ((Below.refl _ _).alloc (Nat.le_refl _) _).trans (hb1.mono (by simp))⟩
theorem fx_Reduce (b f r o v : Int) (w : World) : Calls Try.prog 26 #[wordV b f r o, .int .i64 v] w fun e w' => e = .returned (.int .i64 (reduceW b f r o v)) ∧ Below w.heap.size w w' := by
  rcases Bool.eq_false_or_eq_true (okW b f r o) with h | h
  · rcases (show o = 1 ∨ o = 2 by have := okW_iff.1 h; omega) with rfl | rfl
    all_goals
      go_enter Try.func26, Try.ntmps26
      go_wp2_with (first
        | (go_at_call 23; refine (fx_Valid_is h _).mono ?_; rintro e w1 ⟨rfl, hb1⟩; obtain ⟨hc1, hf1⟩ := bcell hb1)
        | (go_at_call 45; refine (fx_Wrap _ _ _).mono ?_; rintro e w2 ⟨rfl, hb2⟩)
        | (go_at_call 46; refine (fx_Saturate _ _ _ _ _ _).mono ?_; rintro e w2 ⟨rfl, hb2⟩))
      go_ret
      refine ⟨ret_int (by simp [reduceW, h]), ?_⟩
      first
        | (subst hb2; exact ((Below.refl _ _).alloc (Nat.le_refl _) _).trans (hb1.mono (by simp)))
        | exact (((Below.refl _ _).alloc (Nat.le_refl _) _).trans (hb1.mono (by simp))).trans (hb2.mono (by have := hb1.size; simp at this; omega))
  · go_enter Try.func26, Try.ntmps26
    go_wp2_with (first
      | (go_at_call 23; refine (fx_Valid_is h _).mono ?_; rintro e w1 ⟨rfl, hb1⟩))
    go_ret
    exact ⟨ret_int (by simp [reduceW, h]), ((Below.refl _ _).alloc (Nat.le_refl _) _).trans (hb1.mono (by simp))⟩
theorem rf_Reduce (b f r o v : Int) (w : World) : Calls Try.prog 35 #[wordV b f r o, .int .i64 v] w fun e w' => e = .returned (.int .i64 (reduceW b f r o v)) ∧ Below w.heap.size w w' := by
  rcases Bool.eq_false_or_eq_true (okW b f r o) with h | h
  · rcases (show o = 1 ∨ o = 2 by have := okW_iff.1 h; omega) with rfl | rfl
    all_goals
      go_enter Try.func35, Try.ntmps35
      go_wp2_with (first
        | (go_at_call 31; refine (rf_Valid_is h _).mono ?_; rintro e w1 ⟨rfl, hb1⟩; obtain ⟨hc1, hf1⟩ := bcell hb1)
        | (go_at_call 49; refine (rf_Wrap _ _ _).mono ?_; rintro e w2 ⟨rfl, hb2⟩)
        | (go_at_call 50; refine (rf_Saturate _ _ _ _ _ _).mono ?_; rintro e w2 ⟨rfl, hb2⟩))
      go_ret
      refine ⟨ret_int (by simp [reduceW, h]), ?_⟩
      first
        | (subst hb2; exact ((Below.refl _ _).alloc (Nat.le_refl _) _).trans (hb1.mono (by simp)))
        | exact (((Below.refl _ _).alloc (Nat.le_refl _) _).trans (hb1.mono (by simp))).trans (hb2.mono (by have := hb1.size; simp at this; omega))
  · go_enter Try.func35, Try.ntmps35
    go_wp2_with (first
      | (go_at_call 31; refine (rf_Valid_is h _).mono ?_; rintro e w1 ⟨rfl, hb1⟩))
    go_ret
    exact ⟨ret_int (by simp [reduceW, h]), ((Below.refl _ _).alloc (Nat.le_refl _) _).trans (hb1.mono (by simp))⟩
end Go.Proofs.Ytlomhaabiodofaa
