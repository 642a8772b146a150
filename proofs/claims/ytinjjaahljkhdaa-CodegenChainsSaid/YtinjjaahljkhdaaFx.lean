/- The walks of package fixed and of its reference: what each function of numbers computes. -/
import Derived.Test.YtinjjaahljkhdaaRows
import Derived.Test.YtinjjaahljkhdaaW
namespace Go.Proofs.Ytinjjaahljkhdaa
open Go.RowKit

abbrev wordV (b f r o : Int) : Value := .agg #[.int .i64 b, .int .i64 f, .int .i64 r, .int .i64 o]

theorem fx_mode (r : Int) (w : World) : Calls Try.prog 31 #[.int .i64 r] w fun e w' => e = .returned (.bool (inB r 1 3)) ∧ w = w' := by
  go_enter Try.func31, Try.ntmps31
  go_wp2
  all_goals go_ret
  all_goals exact ⟨ret_bool (by rw [Bool.eq_iff_iff]; simp [inB]; omega), rfl⟩
theorem rf_In (v lo hi : Int) (w : World) : Calls Try.prog 24 #[.int .i64 v, .int .i64 lo, .int .i64 hi] w fun e w' => e = .returned (.bool (inB v lo hi)) ∧ w = w' := by
  go_enter Try.func24, Try.ntmps24
  go_wp2
  all_goals go_ret
  all_goals exact ⟨ret_bool (by rw [Bool.eq_iff_iff]; simp [inB]; omega), rfl⟩
theorem fx_Valid (b f r o : Int) (w : World) : Calls Try.prog 27 #[wordV b f r o] w fun e w' => e = .returned (.bool (okW b f r o)) ∧ Below w.heap.size w w' := by
  go_enter Try.func27, Try.ntmps27
  go_wp2_with (go_at_call 31; refine (fx_mode _ _).mono ?_; rintro e w' ⟨rfl, rfl⟩)
  all_goals go_ret
  all_goals exact ⟨ret_bool (by rw [Bool.eq_iff_iff]; simp [inB, okW] at *; omega), (Below.refl _ _).alloc (Nat.le_refl _) _⟩
theorem rf_Valid (b f r o : Int) (w : World) : Calls Try.prog 29 #[wordV b f r o] w fun e w' => e = .returned (.bool (okW b f r o)) ∧ Below w.heap.size w w' := by
  go_enter Try.func29, Try.ntmps29
  go_wp2_with (go_at_call 24; refine (rf_In _ _ _ _).mono ?_; rintro e w' ⟨rfl, rfl⟩)
  all_goals go_ret
  all_goals exact ⟨ret_bool (by rw [Bool.eq_iff_iff]; simp [inB, okW, wrap64] at *; omega), (Below.refl _ _).alloc (Nat.le_refl _) _⟩
theorem fx_Valid_is {b f r o : Int} {c : Bool} (h : okW b f r o = c) (w : World) : Calls Try.prog 27 #[wordV b f r o] w fun e w' => e = .returned (.bool c) ∧ Below w.heap.size w w' := by
  subst h; exact fx_Valid _ _ _ _ _
theorem rf_Valid_is {b f r o : Int} {c : Bool} (h : okW b f r o = c) (w : World) : Calls Try.prog 29 #[wordV b f r o] w fun e w' => e = .returned (.bool c) ∧ Below w.heap.size w w' := by
  subst h; exact rf_Valid _ _ _ _ _
theorem fx_Low (b f r o : Int) (w : World) : Calls Try.prog 32 #[wordV b f r o] w fun e w' => e = .returned (.int .i64 (lowW b f r o)) ∧ Below w.heap.size w w' := by
  by_cases h : okW b f r o = true
  · obtain ⟨h1, h2, h3, h4, h5, h6, h7, h8⟩ := okW_iff.1 h
    go_enter Try.func32, Try.ntmps32
    go_wp2_with (go_at_call 27; refine (fx_Valid _ _ _ _ _).mono ?_; rintro e w' ⟨rfl, hb⟩; obtain ⟨hc, hf⟩ := bcell hb)
    go_ret
    exact ⟨ret_int (by rw [low_bits h]), ((Below.refl _ _).alloc (Nat.le_refl _) _).trans (hb.mono (by simp))⟩
  · have h0 : okW b f r o = false := by simpa using h
    go_enter Try.func32, Try.ntmps32
    go_wp2_with (go_at_call 27; refine (fx_Valid _ _ _ _ _).mono ?_; rintro e w' ⟨rfl, hb⟩; obtain ⟨hc, hf⟩ := bcell hb)
    go_ret
    exact ⟨ret_int (by simp [lowW, h]), ((Below.refl _ _).alloc (Nat.le_refl _) _).trans (hb.mono (by simp))⟩
theorem rf_Low (b f r o : Int) (w : World) : Calls Try.prog 25 #[wordV b f r o] w fun e w' => e = .returned (.int .i64 (lowW b f r o)) ∧ Below w.heap.size w w' := by
  by_cases h : okW b f r o = true
  · obtain ⟨h1, h2, h3, h4, h5, h6, h7, h8⟩ := okW_iff.1 h
    go_enter Try.func25, Try.ntmps25
    go_wp2_with (go_at_call 29; refine (rf_Valid _ _ _ _ _).mono ?_; rintro e w' ⟨rfl, hb⟩; obtain ⟨hc, hf⟩ := bcell hb)
    go_ret
    exact ⟨ret_int (by rw [low_bits h]), ((Below.refl _ _).alloc (Nat.le_refl _) _).trans (hb.mono (by simp))⟩
  · have h0 : okW b f r o = false := by simpa using h
    go_enter Try.func25, Try.ntmps25
    go_wp2_with (go_at_call 29; refine (rf_Valid _ _ _ _ _).mono ?_; rintro e w' ⟨rfl, hb⟩; obtain ⟨hc, hf⟩ := bcell hb)
    go_ret
    exact ⟨ret_int (by simp [lowW, h]), ((Below.refl _ _).alloc (Nat.le_refl _) _).trans (hb.mono (by simp))⟩
theorem fx_High (b f r o : Int) (w : World) : Calls Try.prog 33 #[wordV b f r o] w fun e w' => e = .returned (.int .i64 (highW b f r o)) ∧ Below w.heap.size w w' := by
  by_cases h : okW b f r o = true
  · obtain ⟨h1, h2, h3, h4, h5, h6, h7, h8⟩ := okW_iff.1 h
    go_enter Try.func33, Try.ntmps33
    go_wp2_with (go_at_call 27; refine (fx_Valid _ _ _ _ _).mono ?_; rintro e w' ⟨rfl, hb⟩; obtain ⟨hc, hf⟩ := bcell hb)
    go_ret
    exact ⟨ret_int (by rw [high_bits h]), ((Below.refl _ _).alloc (Nat.le_refl _) _).trans (hb.mono (by simp))⟩
  · have h0 : okW b f r o = false := by simpa using h
    go_enter Try.func33, Try.ntmps33
    go_wp2_with (go_at_call 27; refine (fx_Valid _ _ _ _ _).mono ?_; rintro e w' ⟨rfl, hb⟩; obtain ⟨hc, hf⟩ := bcell hb)
    go_ret
    exact ⟨ret_int (by simp [highW, h]), ((Below.refl _ _).alloc (Nat.le_refl _) _).trans (hb.mono (by simp))⟩
theorem rf_High (b f r o : Int) (w : World) : Calls Try.prog 26 #[wordV b f r o] w fun e w' => e = .returned (.int .i64 (highW b f r o)) ∧ Below w.heap.size w w' := by
  by_cases h : okW b f r o = true
  · obtain ⟨h1, h2, h3, h4, h5, h6, h7, h8⟩ := okW_iff.1 h
    go_enter Try.func26, Try.ntmps26
    go_wp2_with (go_at_call 29; refine (rf_Valid _ _ _ _ _).mono ?_; rintro e w' ⟨rfl, hb⟩; obtain ⟨hc, hf⟩ := bcell hb)
    go_ret
    exact ⟨ret_int (by rw [high_bits h]), ((Below.refl _ _).alloc (Nat.le_refl _) _).trans (hb.mono (by simp))⟩
  · have h0 : okW b f r o = false := by simpa using h
    go_enter Try.func26, Try.ntmps26
    go_wp2_with (go_at_call 29; refine (rf_Valid _ _ _ _ _).mono ?_; rintro e w' ⟨rfl, hb⟩; obtain ⟨hc, hf⟩ := bcell hb)
    go_ret
    exact ⟨ret_int (by simp [highW, h]), ((Below.refl _ _).alloc (Nat.le_refl _) _).trans (hb.mono (by simp))⟩
end Go.Proofs.Ytinjjaahljkhdaa
