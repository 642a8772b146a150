/- The walks of Mix, of its reference and of StreamMixes. -/
import Derived.Test.YtdmfafbfaelfnaaLe
namespace Go.Proofs.Ytdmfafbfaelfnaa
open Go.RowKit

/-- What lies between two numbers, and the error. -/
def mixE (old fresh step steps : Int) : Int := if (inB steps 1 4096 && inB step 0 steps) = true then (if (inB old (-16777216) 16777216 && inB fresh (-16777216) 16777216) = true then 0 else 17) else 1
def mixV (old fresh step steps : Int) : Int := if mixE old fresh step steps = 0 then old + (fresh - old) * step / steps else 0

theorem mix_facts {old fresh step steps : Int} (h1 : 1 ≤ steps) (h2 : steps ≤ 4096) (h3 : 0 ≤ step) (h4 : step ≤ steps) (h5 : -16777216 ≤ old ∧ old ≤ 16777216) (h6 : -16777216 ≤ fresh ∧ fresh ≤ 16777216) :
    ∃ X Q R F : Int, wrap64 ((fresh - old) * step) = X ∧ X.tdiv steps = Q ∧ X.tmod steps = R ∧ (-1000000000000 ≤ Q ∧ Q ≤ 1000000000000) ∧ (R < 0 → Q - 1 = F) ∧ (0 ≤ R → Q = F) ∧ mixE old fresh step steps = 0 ∧ mixV old fresh step steps = old + F ∧
    (old ≤ fresh → 0 ≤ F ∧ F ≤ fresh - old) ∧ (fresh ≤ old → fresh - old ≤ F ∧ F ≤ 0) ∧ (step = 0 → F = 0) ∧ (step = steps → F = fresh - old) := by
  have hE : mixE old fresh step steps = 0 := by
    unfold mixE; rw [if_pos (by rw [inB_iff.2 ⟨h1, h2⟩, inB_iff.2 ⟨h3, h4⟩]; rfl), if_pos (by rw [inB_iff.2 h5, inB_iff.2 h6]; rfl)]
  have hb := mul_bound (x := fresh - old) (y := step) (B := 33554432) (C := 4096) (by omega) (by omega)
  have hd := Int.mul_ediv_add_emod ((fresh - old) * step) steps
  have m1 := Int.emod_nonneg ((fresh - old) * step) (by omega : steps ≠ 0)
  have m2 := Int.emod_lt_of_pos ((fresh - old) * step) (by omega : 0 < steps)
  have t0 := Int.mul_tdiv_add_tmod ((fresh - old) * step) steps
  have t1 := Int.lt_tmod_of_pos ((fresh - old) * step) (by omega : 0 < steps)
  have t2 := Int.tmod_lt_of_pos ((fresh - old) * step) (by omega : 0 < steps)
  have bnd : old ≤ fresh → 0 ≤ (fresh - old) * step ∧ (fresh - old) * step ≤ (fresh - old) * steps := fun h =>
    ⟨Int.mul_nonneg (by omega) h3, Int.mul_le_mul_of_nonneg_left h4 (by omega)⟩
  have bnd2 : fresh ≤ old → (fresh - old) * steps ≤ (fresh - old) * step ∧ (fresh - old) * step ≤ 0 := fun h =>
    ⟨Int.mul_le_mul_of_nonpos_left (by omega) h4, Int.mul_nonpos_of_nonpos_of_nonneg (by omega) h3⟩
  have z1 : step = 0 → (fresh - old) * step = 0 := fun h => by rw [h, Int.mul_zero]
  have z2 : step = steps → (fresh - old) * step / steps = fresh - old := fun h => by rw [h]; exact Int.mul_ediv_cancel _ (by omega)
  have hu : ∀ q r : Int, (fresh - old) * step = steps * q + r → 0 ≤ r → r < steps → (fresh - old) * step / steps = q := by
    intro q r e r0 r1
    rw [e, Int.add_comm, Int.add_mul_ediv_left _ _ (by omega), Int.ediv_eq_zero_of_lt r0 r1]; omega
  refine ⟨(fresh - old) * step, _, _, (fresh - old) * step / steps, w64_in (by omega) (by omega), rfl, rfl, ?_, ?_, ?_, hE, by unfold mixV; rw [if_pos hE], ?_, ?_, ?_, z2⟩
  · generalize (fresh - old) * step = Y at *
    generalize Y.tdiv steps = Q at *
    generalize Y.tmod steps = R at *
    constructor
    · rcases Int.lt_or_le Q (-1000000000000) with h | h
      · have : steps * Q ≤ 1 * Q := Int.mul_le_mul_of_nonpos_right h1 (by omega)
        omega
      · exact h
    · rcases Int.lt_or_le 1000000000000 Q with h | h
      · have : 1 * Q ≤ steps * Q := Int.mul_le_mul_of_nonneg_right h1 (by omega)
        omega
      · exact h
  · intro hR
    exact (hu _ (((fresh - old) * step).tmod steps + steps) (by rw [Int.mul_sub]; omega) (by omega) (by omega)).symm
  · intro hR
    exact (hu _ (((fresh - old) * step).tmod steps) (by omega) hR (by omega)).symm
  · intro h
    obtain ⟨c1, c2⟩ := bnd h
    exact ⟨Int.ediv_nonneg c1 (by omega), by
      have := Int.ediv_le_ediv (by omega : 0 < steps) c2
      rwa [Int.mul_ediv_cancel _ (by omega)] at this⟩
  · intro h
    obtain ⟨c1, c2⟩ := bnd2 h
    refine ⟨?_, ?_⟩
    · have := Int.ediv_le_ediv (by omega : 0 < steps) c1
      rwa [Int.mul_ediv_cancel _ (by omega)] at this
    · have := Int.ediv_le_ediv (by omega : 0 < steps) c2
      simpa using this
  · intro h; rw [z1 h]; simp

theorem Ints.two {w : World} {x y : Int} {t : TypeId} (hx : I64 x) (hy : I64 y) : Ints (w.alloc (.cells #[.int .i64 x, .int .i64 y] t)) (some ⟨w.heap.size, 0, none⟩) [x, y] := by
  refine ⟨fun k v hk => ?_, by intro q hq; simp at hq; rcases hq with rfl | rfl <;> assumption⟩
  match k, hk with
  | 0, hk => simp at hk; subst hk; exact ⟨_, rfl, by simp, by simp [go_sem, Addr.add]⟩
  | 1, hk => simp at hk; subst hk; exact ⟨_, rfl, by simp, by simp [go_sem, Addr.add]⟩
theorem rf_Small_two {x y : Int} {w : World} {t : TypeId} (hx : I64 x) (hy : I64 y) :
    Calls Try.prog 34 #[.slice (some ⟨w.heap.size, 0, none⟩) 2 2, .int .i64 24] (w.alloc (.cells #[.int .i64 x, .int .i64 y] t)) fun e w' => e = .returned (.bool (smallB [x, y] 24)) ∧ w.alloc (.cells #[.int .i64 x, .int .i64 y] t) = w' :=
  rf_Small24 _ [x, y] 2 _ (by simp) (Ints.two hx hy)
set_option maxHeartbeats 1000000 in
theorem st_Mix (old fresh step steps : Int) (w : World) (ho : I64 old) (hf : I64 fresh) : Calls Try.prog 11 #[.int .i64 old, .int .i64 fresh, .int .i64 step, .int .i64 steps] w fun e w' => e = .returned (.tuple #[.int .i64 (mixV old fresh step steps), .int .i64 (mixE old fresh step steps)]) ∧ Below w.heap.size w w' := by
  have hb := Below.refl w.heap.size w
  by_cases h : (1 ≤ steps ∧ steps ≤ 4096) ∧ (0 ≤ step ∧ step ≤ steps)
  · obtain ⟨⟨h1, h2⟩, h3, h4⟩ := h
    by_cases g : (-16777216 ≤ old ∧ old ≤ 16777216) ∧ (-16777216 ≤ fresh ∧ fresh ≤ 16777216)
    · obtain ⟨⟨g1, g2⟩, g3, g4⟩ := g
      obtain ⟨X, Q, R, F, e1, e2, e3, b1, f1, f2, eE, eV, c1, c2, _⟩ := mix_facts h1 h2 h3 h4 ⟨g1, g2⟩ ⟨g3, g4⟩
      have HE := Lib.hid eE
      have HV := Lib.hid eV
      have F1 := Lib.hid f1
      have F2 := Lib.hid f2
      have i1 : inB steps 1 4096 = true := inB_iff.2 ⟨h1, h2⟩
      have i2 : inB step 0 steps = true := inB_iff.2 ⟨h3, h4⟩
      have i3 : smallB [old, fresh] 24 = true := small_of (by intro x hx; simp at hx; omega)
      have HO := Lib.hid ho
      have HF := Lib.hid hf
      clear eE eV f1 f2 c1 c2 ho hf
      go_enter Try.func11, Try.ntmps11
      go_wp2
      all_goals try (exfalso; omega)
      all_goals go_ret2
      · exact ⟨by rw [HE.out, HV.out, ← F1.out (by omega)]; rfl, hb⟩
      · exact ⟨by rw [HE.out, HV.out, ← F2.out (by omega)]; rfl, hb⟩
    · have i1 : inB steps 1 4096 = true := inB_iff.2 ⟨h1, h2⟩
      have i2 : inB step 0 steps = true := inB_iff.2 ⟨h3, h4⟩
      have i3 : smallB [old, fresh] 24 = false := by
        rw [Bool.eq_false_iff]
        intro hs
        have h0 := small_at hs 0
        have h1 := small_at hs 1
        rw [show (2 : Int) ^ 24 = 16777216 by decide] at h0 h1
        simp at h0 h1
        exact g ⟨h0, h1⟩
      have hn : (inB old (-16777216) 16777216 && inB fresh (-16777216) 16777216) ≠ true := by
        intro hs
        rw [Bool.and_eq_true] at hs
        exact g ⟨inB_iff.1 hs.1, inB_iff.1 hs.2⟩
      have HE : Hid (mixE old fresh step steps = 17) := by
        show _ = _
        unfold mixE; rw [if_pos (by rw [i1, i2]; rfl), if_neg hn]
      have HV : Hid (mixV old fresh step steps = 0) := by
        show _ = _
        unfold mixV; rw [if_neg (by rw [HE.out]; decide)]
      have hno : old < -16777216 ∨ 16777216 < old ∨ fresh < -16777216 ∨ 16777216 < fresh := by omega
      have HO := Lib.hid ho
      have HF := Lib.hid hf
      clear hn g ho hf
      go_enter Try.func11, Try.ntmps11
      go_wp2
      all_goals try (exfalso; omega)
      all_goals go_ret2
      all_goals exact ⟨by rw [HE.out, HV.out]; rfl, hb⟩
  · have hi : (inB steps 1 4096 && inB step 0 steps) ≠ true := by
      intro hs
      rw [Bool.and_eq_true] at hs
      exact h ⟨inB_iff.1 hs.1, inB_iff.1 hs.2⟩
    have HE : Hid (mixE old fresh step steps = 1) := by
      show _ = _
      unfold mixE; rw [if_neg hi]
    have HV : Hid (mixV old fresh step steps = 0) := by
      show _ = _
      unfold mixV; rw [if_neg (by rw [HE.out]; decide)]
    have hno : steps < 1 ∨ 4096 < steps ∨ step < 0 ∨ steps < step := by omega
    have HO := Lib.hid ho
    have HF := Lib.hid hf
    clear hi h ho hf
    go_enter Try.func11, Try.ntmps11
    go_wp2
    all_goals try (exfalso; omega)
    all_goals go_ret2
    all_goals exact ⟨by rw [HE.out, HV.out]; rfl, hb⟩
set_option maxHeartbeats 1000000 in
theorem rf_Mix (old fresh step steps : Int) (w : World) (ho : I64 old) (hf : I64 fresh) : Calls Try.prog 18 #[.int .i64 old, .int .i64 fresh, .int .i64 step, .int .i64 steps] w fun e w' => e = .returned (.tuple #[.int .i64 (mixV old fresh step steps), .int .i64 (mixE old fresh step steps)]) ∧ Below w.heap.size w w' := by
  have hb := Below.refl w.heap.size w
  by_cases h : (1 ≤ steps ∧ steps ≤ 4096) ∧ (0 ≤ step ∧ step ≤ steps)
  · obtain ⟨⟨h1, h2⟩, h3, h4⟩ := h
    by_cases g : (-16777216 ≤ old ∧ old ≤ 16777216) ∧ (-16777216 ≤ fresh ∧ fresh ≤ 16777216)
    · obtain ⟨⟨g1, g2⟩, g3, g4⟩ := g
      obtain ⟨X, Q, R, F, e1, e2, e3, b1, f1, f2, eE, eV, c1, c2, _⟩ := mix_facts h1 h2 h3 h4 ⟨g1, g2⟩ ⟨g3, g4⟩
      have HE := Lib.hid eE
      have HV := Lib.hid eV
      have F1 := Lib.hid f1
      have F2 := Lib.hid f2
      have i1 : inB steps 1 4096 = true := inB_iff.2 ⟨h1, h2⟩
      have i2 : inB step 0 steps = true := inB_iff.2 ⟨h3, h4⟩
      have i3 : smallB [old, fresh] 24 = true := small_of (by intro x hx; simp at hx; omega)
      have HO := Lib.hid ho
      have HF := Lib.hid hf
      clear eE eV f1 f2 c1 c2 ho hf
      go_enter Try.func18, Try.ntmps18
      go_wp2_with (first
        | (go_at_call 16; refine (rf_In _ _ _ _).mono ?_; rintro e w' ⟨rfl, rfl⟩)
        | (go_at_call 34; with_reducible refine (rf_Small_two HO.out HF.out).mono ?_; rintro e w' ⟨rfl, rfl⟩))
      all_goals try (exfalso; omega)
      all_goals go_ret2
      · exact ⟨by rw [HE.out, HV.out, ← F1.out (by omega)]; rfl, (Below.refl _ _).alloc (Nat.le_refl _) _⟩
      · exact ⟨by rw [HE.out, HV.out, ← F2.out (by omega)]; rfl, (Below.refl _ _).alloc (Nat.le_refl _) _⟩
    · have i1 : inB steps 1 4096 = true := inB_iff.2 ⟨h1, h2⟩
      have i2 : inB step 0 steps = true := inB_iff.2 ⟨h3, h4⟩
      have i3 : smallB [old, fresh] 24 = false := by
        rw [Bool.eq_false_iff]
        intro hs
        have h0 := small_at hs 0
        have h1 := small_at hs 1
        rw [show (2 : Int) ^ 24 = 16777216 by decide] at h0 h1
        simp at h0 h1
        exact g ⟨h0, h1⟩
      have hn : (inB old (-16777216) 16777216 && inB fresh (-16777216) 16777216) ≠ true := by
        intro hs
        rw [Bool.and_eq_true] at hs
        exact g ⟨inB_iff.1 hs.1, inB_iff.1 hs.2⟩
      have HE : Hid (mixE old fresh step steps = 17) := by
        show _ = _
        unfold mixE; rw [if_pos (by rw [i1, i2]; rfl), if_neg hn]
      have HV : Hid (mixV old fresh step steps = 0) := by
        show _ = _
        unfold mixV; rw [if_neg (by rw [HE.out]; decide)]
      have hno : old < -16777216 ∨ 16777216 < old ∨ fresh < -16777216 ∨ 16777216 < fresh := by omega
      have HO := Lib.hid ho
      have HF := Lib.hid hf
      clear hn g ho hf
      go_enter Try.func18, Try.ntmps18
      go_wp2_with (first
        | (go_at_call 16; refine (rf_In _ _ _ _).mono ?_; rintro e w' ⟨rfl, rfl⟩)
        | (go_at_call 34; with_reducible refine (rf_Small_two HO.out HF.out).mono ?_; rintro e w' ⟨rfl, rfl⟩))
      all_goals try (exfalso; omega)
      all_goals go_ret2
      all_goals exact ⟨by rw [HE.out, HV.out]; rfl, (Below.refl _ _).alloc (Nat.le_refl _) _⟩
  · have hi : (inB steps 1 4096 && inB step 0 steps) ≠ true := by
      intro hs
      rw [Bool.and_eq_true] at hs
      exact h ⟨inB_iff.1 hs.1, inB_iff.1 hs.2⟩
    have HE : Hid (mixE old fresh step steps = 1) := by
      show _ = _
      unfold mixE; rw [if_neg hi]
    have HV : Hid (mixV old fresh step steps = 0) := by
      show _ = _
      unfold mixV; rw [if_neg (by rw [HE.out]; decide)]
    have hno : steps < 1 ∨ 4096 < steps ∨ step < 0 ∨ steps < step := by omega
    have HO := Lib.hid ho
    have HF := Lib.hid hf
    have hi' : inB steps 1 4096 = false ∨ (inB steps 1 4096 = true ∧ inB step 0 steps = false) := by
      cases h1 : inB steps 1 4096 <;> cases h2 : inB step 0 steps <;> simp_all
    clear hi h ho hf
    rcases hi' with i1 | ⟨i1, i2⟩
    all_goals
      go_enter Try.func18, Try.ntmps18
      go_wp2_with (go_at_call 16; refine (rf_In _ _ _ _).mono ?_; rintro e w' ⟨rfl, rfl⟩)
      all_goals try (exfalso; omega)
      all_goals go_ret2
      all_goals exact ⟨by rw [HE.out, HV.out]; rfl, hb⟩
theorem known42 (w : World) : Calls Try.prog 4 #[] w fun e w' => e = .returned (.bool true) ∧ Below w.heap.size w w' := by
  have e1 : mixV 0 (-3) 1 2 = -2 := by decide
  have e2 : mixE 0 (-3) 1 2 = 0 := by decide
  go_enter Try.func4, Try.ntmps4
  go_wp2_with (go_at_call 11; refine (st_Mix _ _ _ _ _ ⟨by decide, by decide⟩ ⟨by decide, by decide⟩).mono ?_; rintro e w1 ⟨rfl, hb1⟩)
  go_ret
  exact ⟨rfl, hb1⟩
end Go.Proofs.Ytdmfafbfaelfnaa
