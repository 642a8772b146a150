/- The walks of Fits, Saturate, Reduce, of package fixed and of its reference. -/
import Derived.Test.YtinjjaahljkhdaaFy
namespace Go.Proofs.Ytinjjaahljkhdaa
open Go.RowKit

theorem rf_Fits (b f r o v : Int) (w : World) : Calls Try.prog 30 #[wordV b f r o, .int .i64 v] w fun e w' => e = .returned (.bool (fitsW b f r o v)) ∧ Below w.heap.size w w' := by
  have hx := @Ext.cell
  rcases Bool.eq_false_or_eq_true (okW b f r o) with h | h
  all_goals
    go_enter Try.func30, Try.ntmps30
    go_wp2
    refine wp_region_ext (by kernel_rfl) (by kernel_rfl) ?_
    repeat (go_big_quiet_step (first
      | (go_at_call 29; exact ext_below (rf_Valid_is h _))
      | (go_at_call 25; exact ext_below (rf_Low _ _ _ _ _))
      | (go_at_call 26; exact ext_below (rf_High _ _ _ _ _))
      | (go_at_call 24; exact ext_same (rf_In _ _ _ _))))
    refine wpQuiet_nil ?_
    rintro _ ⟨⟨w1, hb1⟩, rfl⟩
    go_wp2
    go_ret
    exact ⟨ret_bool (by simp [fitsW, h]), ((Below.refl _ _).alloc (Nat.le_refl _) _).trans (hb1.mono (by simp))⟩
theorem fx_Fits (b f r o v : Int) (w : World) : Calls Try.prog 28 #[wordV b f r o, .int .i64 v] w fun e w' => e = .returned (.bool (fitsW b f r o v)) ∧ Below w.heap.size w w' := by
  rcases Bool.eq_false_or_eq_true (okW b f r o) with h | h
  · go_enter Try.func28, Try.ntmps28
    go_wp2_with (first
      | (go_at_call 27; refine (fx_Valid_is h _).mono ?_; rintro e w1 ⟨rfl, hb1⟩; obtain ⟨hc1, hf1⟩ := bcell hb1)
      | (go_at_call 32; refine (fx_Low _ _ _ _ _).mono ?_; rintro e w2 ⟨rfl, hb2'⟩; have hb2 := below_then hb1 hb2'; clear hb2'; obtain ⟨hc2, hf2⟩ := bcell hb2)
      | (go_at_call 33; refine (fx_High _ _ _ _ _).mono ?_; rintro e w3 ⟨rfl, hb3'⟩; have hb3 := below_then hb2 hb3'; clear hb3'))
    all_goals go_ret
    · exact ⟨ret_bool (by simp [fitsW, h, inB]; omega), ((Below.refl _ _).alloc (Nat.le_refl _) _).trans (hb3.mono (by simp))⟩
    · exact ⟨ret_bool (by simp [fitsW, h, inB]; omega), ((Below.refl _ _).alloc (Nat.le_refl _) _).trans (hb2.mono (by simp))⟩
  · go_enter Try.func28, Try.ntmps28
    go_wp2_with (first
      | (go_at_call 27; refine (fx_Valid_is h _).mono ?_; rintro e w1 ⟨rfl, hb1⟩))
    all_goals go_ret
    all_goals exact ⟨ret_bool (by simp [fitsW, h]), ((Below.refl _ _).alloc (Nat.le_refl _) _).trans (hb1.mono (by simp))⟩
end Go.Proofs.Ytinjjaahljkhdaa
