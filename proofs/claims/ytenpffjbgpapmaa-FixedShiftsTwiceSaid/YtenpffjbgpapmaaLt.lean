/- The walks of FixedShiftsTwice and FixedRounds. -/
import Derived.Test.YtenpffjbgpapmaaLa
namespace Go.Proofs.Ytenpffjbgpapmaa
open Go.RowKit

theorem law_FixedShiftsTwice (v u a b r : Int) (w : World) (hv : I64 v) (hu : I64 u) (_ : I64 a) (_ : I64 b) (_ : I64 r) : Calls Try.prog 6 #[.int .i64 v, .int .i64 u, .int .i64 a, .int .i64 b, .int .i64 r] w fun e w' => e = .returned (.bool true) ∧ Below w.heap.size w w' := by
  obtain ⟨ha1, ha2⟩ := within_in (m := 31) (by decide) a
  obtain ⟨hb1, hb2⟩ := within_in (m := 31) (by decide) b
  obtain ⟨hr1, hr2⟩ := within_in (m := 3) (by decide) r
  obtain ⟨x, hx⟩ : ∃ x, withinF a 31 = x := ⟨_, rfl⟩
  obtain ⟨y, hy⟩ : ∃ y, withinF b 31 = y := ⟨_, rfl⟩
  obtain ⟨z, hz⟩ : ∃ z, withinF r 3 = z := ⟨_, rfl⟩
  rw [hx] at ha1 ha2
  rw [hy] at hb1 hb2
  rw [hz] at hr1 hr2
  have E : shiftF (shiftF v x 1) y 1 = shiftF v (x + y) 1 := shift_shift ha1 hb1 (by omega)
  have M := fun h : v ≤ u => shift_mono (n := x) (r := 1 + z) hv hu h ha1 (by omega) (by omega) (by omega)
  have HV := Lib.hid hv
  have HU := Lib.hid hu
  have hs : I64 (shiftF v x 1) := shift_i64 hv
  have HS := Lib.hid hs
  have hb := Below.refl w.heap.size w
  clear hv hu hs
  rcases Int.lt_or_le u v with hlt | hle
  · clear M
    go_enter Try.func6, Try.ntmps6
    go_wp2_with (first
      | (go_at_call 13; refine (wd_Within _ _ _ (by decide)).mono ?_; rintro e w1 ⟨rfl, rfl⟩)
      | (go_at_call 15; refine (known21 _).mono ?_; rintro e w1 ⟨rfl, hb1⟩; have hb := below_then hb hb1)
      | (go_at_call 16; with_reducible refine (fx_Shift v _ _ _ HV.out).mono ?_; rintro e w1 ⟨rfl, hb1⟩; have hb := below_then hb hb1)
      | (go_at_call 16; with_reducible refine (fx_Shift (shiftF v x 1) _ _ _ HS.out).mono ?_; rintro e w1 ⟨rfl, hb1⟩; have hb := below_then hb hb1))
    go_ret
    exact ⟨rfl, hb⟩
  · have M' := M hle
    clear M
    go_enter Try.func6, Try.ntmps6
    go_wp2_with (first
      | (go_at_call 13; refine (wd_Within _ _ _ (by decide)).mono ?_; rintro e w1 ⟨rfl, rfl⟩)
      | (go_at_call 15; refine (known21 _).mono ?_; rintro e w1 ⟨rfl, hb1⟩; have hb := below_then hb hb1)
      | (go_at_call 16; with_reducible refine (fx_Shift v _ _ _ HV.out).mono ?_; rintro e w1 ⟨rfl, hb1⟩; have hb := below_then hb hb1)
      | (go_at_call 16; with_reducible refine (fx_Shift u _ _ _ HU.out).mono ?_; rintro e w1 ⟨rfl, hb1⟩; have hb := below_then hb hb1)
      | (go_at_call 16; with_reducible refine (fx_Shift (shiftF v x 1) _ _ _ HS.out).mono ?_; rintro e w1 ⟨rfl, hb1⟩; have hb := below_then hb hb1))
    go_ret
    exact ⟨rfl, hb⟩
theorem law_FixedRounds (v n : Int) (w : World) (_ : I64 v) (_ : I64 n) : Calls Try.prog 5 #[.int .i64 v, .int .i64 n] w fun e w' => e = .returned (.bool true) ∧ Below w.heap.size w w' := by
  obtain ⟨ha1, ha2⟩ := within_in (m := 20) (by decide) n
  obtain ⟨x, hx⟩ : ∃ x, withinF n 20 = x := ⟨_, rfl⟩
  rw [hx] at ha1 ha2
  obtain ⟨T, e1, _, t1, t2⟩ := tmod_facts v (P := 1099511627776) (by decide)
  obtain ⟨P, A, B, C, f1, f2, f3, f4, f5, f6, f7, f8, f9⟩ := rounds_facts (v := T) (n := x) ⟨t1, t2⟩ ha1 ha2
  have hT : I64 T := ⟨by omega, by omega⟩
  have HT := Lib.hid hT
  have hb := Below.refl w.heap.size w
  clear hT
  rcases Int.lt_or_le T 0 with hlt | hle
  · obtain ⟨g1, g2, g3⟩ := f8 hlt
    clear f8 f9
    go_enter Try.func5, Try.ntmps5
    go_wp2_with (first
      | (go_at_call 13; refine (wd_Within _ _ _ (by decide)).mono ?_; rintro e w1 ⟨rfl, rfl⟩)
      | (go_at_call 15; refine (known21 _).mono ?_; rintro e w1 ⟨rfl, hb1⟩; have hb := below_then hb hb1)
      | (go_at_call 16; with_reducible refine (fx_Shift T _ _ _ HT.out).mono ?_; rintro e w1 ⟨rfl, hb1⟩; have hb := below_then hb hb1))
    all_goals go_ret
    all_goals exact ⟨ret_bool (by first | rfl | (simp; omega)), hb⟩
  · obtain ⟨g1, g2, g3⟩ := f9 hle
    clear f8 f9
    go_enter Try.func5, Try.ntmps5
    go_wp2_with (first
      | (go_at_call 13; refine (wd_Within _ _ _ (by decide)).mono ?_; rintro e w1 ⟨rfl, rfl⟩)
      | (go_at_call 15; refine (known21 _).mono ?_; rintro e w1 ⟨rfl, hb1⟩; have hb := below_then hb hb1)
      | (go_at_call 16; with_reducible refine (fx_Shift T _ _ _ HT.out).mono ?_; rintro e w1 ⟨rfl, hb1⟩; have hb := below_then hb hb1))
    all_goals go_ret
    all_goals exact ⟨ret_bool (by first | rfl | (simp; omega)), hb⟩
end Go.Proofs.Ytenpffjbgpapmaa
