/- The walks of package fixed and of its reference: what each function of numbers computes. -/
import Derived.Test.YtlomhaabiodofaaRows
import Derived.Test.YtlomhaabiodofaaW
namespace Go.Proofs.Ytlomhaabiodofaa
open Go.RowKit

abbrev wordV (b f r o : Int) : Value := .agg #[.int .i64 b, .int .i64 f, .int .i64 r, .int .i64 o]

theorem fx_mode (r : Int) (w : World) : Calls Try.prog 43 #[.int .i64 r] w fun e w' => e = .returned (.bool (inB r 1 3)) ∧ w = w' := by
  go_enter Try.func43, Try.ntmps43
  go_wp2
  all_goals go_ret
  all_goals exact ⟨ret_bool (by rw [Bool.eq_iff_iff]; simp [inB]; omega), rfl⟩
theorem rf_In (v lo hi : Int) (w : World) : Calls Try.prog 47 #[.int .i64 v, .int .i64 lo, .int .i64 hi] w fun e w' => e = .returned (.bool (inB v lo hi)) ∧ w = w' := by
  go_enter Try.func47, Try.ntmps47
  go_wp2
  all_goals go_ret
  all_goals exact ⟨ret_bool (by rw [Bool.eq_iff_iff]; simp [inB]; omega), rfl⟩
theorem fx_Valid (b f r o : Int) (w : World) : Calls Try.prog 23 #[wordV b f r o] w fun e w' => e = .returned (.bool (okW b f r o)) ∧ Below w.heap.size w w' := by
  go_enter Try.func23, Try.ntmps23
  go_wp2_with (go_at_call 43; refine (fx_mode _ _).mono ?_; rintro e w' ⟨rfl, rfl⟩)
  all_goals go_ret
  all_goals exact ⟨ret_bool (by rw [Bool.eq_iff_iff]; simp [inB, okW] at *; omega), (Below.refl _ _).alloc (Nat.le_refl _) _⟩
theorem rf_Valid (b f r o : Int) (w : World) : Calls Try.prog 31 #[wordV b f r o] w fun e w' => e = .returned (.bool (okW b f r o)) ∧ Below w.heap.size w w' := by
  go_enter Try.func31, Try.ntmps31
  go_wp2_with (go_at_call 47; refine (rf_In _ _ _ _).mono ?_; rintro e w' ⟨rfl, rfl⟩)
  all_goals go_ret
  all_goals exact ⟨ret_bool (by rw [Bool.eq_iff_iff]; simp [inB, okW, wrap64] at *; omega), (Below.refl _ _).alloc (Nat.le_refl _) _⟩
theorem fx_Valid_is {b f r o : Int} {c : Bool} (h : okW b f r o = c) (w : World) : Calls Try.prog 23 #[wordV b f r o] w fun e w' => e = .returned (.bool c) ∧ Below w.heap.size w w' := by
  subst h; exact fx_Valid _ _ _ _ _
theorem rf_Valid_is {b f r o : Int} {c : Bool} (h : okW b f r o = c) (w : World) : Calls Try.prog 31 #[wordV b f r o] w fun e w' => e = .returned (.bool c) ∧ Below w.heap.size w w' := by
  subst h; exact rf_Valid _ _ _ _ _
theorem fx_Low (b f r o : Int) (w : World) : Calls Try.prog 51 #[wordV b f r o] w fun e w' => e = .returned (.int .i64 (lowW b f r o)) ∧ Below w.heap.size w w' := by
  by_cases h : okW b f r o = true
  · obtain ⟨h1, h2, h3, h4, h5, h6, h7, h8⟩ := okW_iff.1 h
    go_enter Try.func51, Try.ntmps51
    go_wp2_with (go_at_call 23; refine (fx_Valid _ _ _ _ _).mono ?_; rintro e w' ⟨rfl, hb⟩; obtain ⟨hc, hf⟩ := bcell hb)
    go_ret
    exact ⟨ret_int (by rw [low_bits h]), ((Below.refl _ _).alloc (Nat.le_refl _) _).trans (hb.mono (by simp))⟩
  · have h0 : okW b f r o = false := by simpa using h
    go_enter Try.func51, Try.ntmps51
    go_wp2_with (go_at_call 23; refine (fx_Valid _ _ _ _ _).mono ?_; rintro e w' ⟨rfl, hb⟩; obtain ⟨hc, hf⟩ := bcell hb)
    go_ret
    exact ⟨ret_int (by simp [lowW, h]), ((Below.refl _ _).alloc (Nat.le_refl _) _).trans (hb.mono (by simp))⟩
theorem rf_Low (b f r o : Int) (w : World) : Calls Try.prog 40 #[wordV b f r o] w fun e w' => e = .returned (.int .i64 (lowW b f r o)) ∧ Below w.heap.size w w' := by
  by_cases h : okW b f r o = true
  · obtain ⟨h1, h2, h3, h4, h5, h6, h7, h8⟩ := okW_iff.1 h
    go_enter Try.func40, Try.ntmps40
    go_wp2_with (go_at_call 31; refine (rf_Valid _ _ _ _ _).mono ?_; rintro e w' ⟨rfl, hb⟩; obtain ⟨hc, hf⟩ := bcell hb)
    go_ret
    exact ⟨ret_int (by rw [low_bits h]), ((Below.refl _ _).alloc (Nat.le_refl _) _).trans (hb.mono (by simp))⟩
  · have h0 : okW b f r o = false := by simpa using h
    go_enter Try.func40, Try.ntmps40
    go_wp2_with (go_at_call 31; refine (rf_Valid _ _ _ _ _).mono ?_; rintro e w' ⟨rfl, hb⟩; obtain ⟨hc, hf⟩ := bcell hb)
    go_ret
    exact ⟨ret_int (by simp [lowW, h]), ((Below.refl _ _).alloc (Nat.le_refl _) _).trans (hb.mono (by simp))⟩
theorem fx_High (b f r o : Int) (w : World) : Calls Try.prog 52 #[wordV b f r o] w fun e w' => e = .returned (.int .i64 (highW b f r o)) ∧ Below w.heap.size w w' := by
  by_cases h : okW b f r o = true
  · obtain ⟨h1, h2, h3, h4, h5, h6, h7, h8⟩ := okW_iff.1 h
    go_enter Try.func52, Try.ntmps52
    go_wp2_with (go_at_call 23; refine (fx_Valid _ _ _ _ _).mono ?_; rintro e w' ⟨rfl, hb⟩; obtain ⟨hc, hf⟩ := bcell hb)
    go_ret
    exact ⟨ret_int (by rw [high_bits h]), ((Below.refl _ _).alloc (Nat.le_refl _) _).trans (hb.mono (by simp))⟩
  · have h0 : okW b f r o = false := by simpa using h
    go_enter Try.func52, Try.ntmps52
    go_wp2_with (go_at_call 23; refine (fx_Valid _ _ _ _ _).mono ?_; rintro e w' ⟨rfl, hb⟩; obtain ⟨hc, hf⟩ := bcell hb)
    go_ret
    exact ⟨ret_int (by simp [highW, h]), ((Below.refl _ _).alloc (Nat.le_refl _) _).trans (hb.mono (by simp))⟩
theorem rf_High (b f r o : Int) (w : World) : Calls Try.prog 42 #[wordV b f r o] w fun e w' => e = .returned (.int .i64 (highW b f r o)) ∧ Below w.heap.size w w' := by
  by_cases h : okW b f r o = true
  · obtain ⟨h1, h2, h3, h4, h5, h6, h7, h8⟩ := okW_iff.1 h
    go_enter Try.func42, Try.ntmps42
    go_wp2_with (go_at_call 31; refine (rf_Valid _ _ _ _ _).mono ?_; rintro e w' ⟨rfl, hb⟩; obtain ⟨hc, hf⟩ := bcell hb)
    go_ret
    exact ⟨ret_int (by rw [high_bits h]), ((Below.refl _ _).alloc (Nat.le_refl _) _).trans (hb.mono (by simp))⟩
  · have h0 : okW b f r o = false := by simpa using h
    go_enter Try.func42, Try.ntmps42
    go_wp2_with (go_at_call 31; refine (rf_Valid _ _ _ _ _).mono ?_; rintro e w' ⟨rfl, hb⟩; obtain ⟨hc, hf⟩ := bcell hb)
    go_ret
    exact ⟨ret_int (by simp [highW, h]), ((Below.refl _ _).alloc (Nat.le_refl _) _).trans (hb.mono (by simp))⟩
theorem fx_Wrap (b v : Int) (w : World) : Calls Try.prog 45 #[.int .i64 b, .int .i64 v] w fun e w' => e = .returned (.int .i64 (wrapF b v)) ∧ w = w' := by
  by_cases h : inB b 1 62 = true
  · obtain ⟨h1, h2⟩ := inB_iff.1 h
    obtain ⟨P, H, M, e1, e2, e3, a1, a2, a3, a4, a5, e4⟩ := wrap_facts h1 h2 v
    have E := Lib.hid e4
    clear e4 h a5
    go_enter Try.func45, Try.ntmps45
    go_wp2
    all_goals go_ret
    all_goals refine ⟨ret_int ?_, rfl⟩
    · rw [E.out, if_neg (by omega)]
    · rw [E.out, if_pos (by omega)]
  · have h' : inB b 1 62 = false := by simpa using h
    have := inB_no.1 h'
    have E : Hid (wrapF b v = 0) := by unfold wrapF; rw [if_neg h]; exact rfl
    clear h h'
    go_enter Try.func45, Try.ntmps45
    go_wp2
    all_goals go_ret
    all_goals exact ⟨ret_int E.out.symm, rfl⟩
theorem rf_Wrap (b v : Int) (w : World) : Calls Try.prog 49 #[.int .i64 b, .int .i64 v] w fun e w' => e = .returned (.int .i64 (wrapF b v)) ∧ w = w' := by
  by_cases h : inB b 1 62 = true
  · obtain ⟨h1, h2⟩ := inB_iff.1 h
    obtain ⟨P, H, M, e1, e2, e3, a1, a2, a3, a4, a5, e4⟩ := wrap_facts h1 h2 v
    obtain ⟨T, e5, e6, b1, b2⟩ := tmod_facts v a1
    have E := Lib.hid e4
    have E6 := Lib.hid e6
    have E5 := Lib.hid a5
    clear e4 e6 e2 e3 a5
    go_enter Try.func49, Try.ntmps49
    go_wp2_with (go_at_call 47; refine (rf_In _ _ _ _).mono ?_; rintro e w' ⟨rfl, rfl⟩)
    all_goals go_ret
    all_goals refine ⟨ret_int ?_, rfl⟩
    all_goals have E6' := E6.out
    all_goals have E5' := E5.out
    all_goals rw [E.out]
    · rw [if_neg (by omega)]; omega
    · rw [if_pos (by omega)]; omega
    · rw [if_neg (by omega)]; omega
    · rw [if_pos (by omega)]; omega
  · have h' : inB b 1 62 = false := by simpa using h
    have E : Hid (wrapF b v = 0) := by unfold wrapF; rw [if_neg h]; exact rfl
    clear h
    go_enter Try.func49, Try.ntmps49
    go_wp2_with (go_at_call 47; refine (rf_In _ _ _ _).mono ?_; rintro e w' ⟨rfl, rfl⟩)
    all_goals go_ret
    all_goals exact ⟨ret_int E.out.symm, rfl⟩
end Go.Proofs.Ytlomhaabiodofaa
