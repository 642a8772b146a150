/- The laws Combines and Exchanges of chapter 32. -/
import Derived.Test.YthalkhpdcijlkaaMk
import Derived.Test.YthalkhpdcijlkaaMn
namespace Go.Proofs.Ythalkhpdcijlkaa
open Go.RowKit

set_option maxRecDepth 100000 in
set_option maxHeartbeats 2000000 in
theorem law_MultirateCombines (u : Option Addr × Nat × List Int) (a0 b0 : Int) (w : World) (hu : Ints w u.1 u.2.2 ∧ u.2.2.length ≤ 9223372036854775807) (_ : I64 a0) (_ : I64 b0) :
    Calls Try.prog 4 #[.slice u.1 u.2.2.length u.2.1, .int .i64 a0, .int .i64 b0] w fun e w' => e = .returned (.bool true) ∧ Below w.heap.size w w' := by
  obtain ⟨A, c, x⟩ := u
  obtain ⟨h, hx⟩ := hu
  simp only at h hx ⊢
  have hb := Below.refl w.heap.size w
  by_cases hlong : 100 < x.length
  · go_enter Try.func4, Try.ntmps4
    go_wp2_with (go_at_call 8; refine (known32 _).mono ?_; rintro e w1 ⟨rfl, hb1⟩; have hb := below_then hb hb1)
    go_ret
    exact ⟨rfl, hb⟩
  obtain ⟨g1, g2⟩ := within_in (m := 4) (by decide) a0
  obtain ⟨g3, g4⟩ := within_in (m := 3) (by decide) b0
  obtain ⟨n, hn⟩ : ∃ n, withinF a0 4 = n := ⟨_, rfl⟩
  obtain ⟨m, hm⟩ : ∃ m, withinF b0 3 = m := ⟨_, rfl⟩
  rw [hn] at g1 g2
  rw [hm] at g3 g4
  obtain ⟨a, ha⟩ := Int.eq_ofNat_of_zero_le (by omega : 0 ≤ 1 + n)
  obtain ⟨b, hb'⟩ := Int.eq_ofNat_of_zero_le (by omega : 0 ≤ 1 + m)
  have a1 : 1 ≤ a ∧ a ≤ 4 := by omega
  have b1 : 1 ≤ b ∧ b ≤ 3 := by omega
  obtain ⟨p, hp⟩ : ∃ p, a * b = p := ⟨_, rfl⟩
  have p1 : 1 ≤ p ∧ p ≤ 12 := by rw [← hp]; exact ⟨Nat.mul_pos a1.1 b1.1, Nat.mul_le_mul a1.2 b1.2⟩
  have hP : wrap64 ((1 + n) * (1 + m)) = (p : Int) := by rw [ha, hb', ← Int.natCast_mul, hp]; exact w64_in (by omega) (by omega)
  have L1 : a * x.length ≤ 4 * 100 := Nat.mul_le_mul a1.2 (by omega)
  have L2 : b * (a * x.length) ≤ 3 * (4 * 100) := Nat.mul_le_mul b1.2 L1
  have L3 : p * x.length ≤ 12 * 100 := Nat.mul_le_mul p1.2 (by omega)
  have C1 := cnt_le x.length 0 a a1.1
  have l1 := upF_length x a
  have l2 := upF_length (upF x a) b
  have l3 := upF_length x p
  have l4 := everyF_length x 0 a
  have l5 := everyF_length x 0 p
  have C2 := cnt_le x.length 0 p p1.1
  rw [l1] at l2
  have K1 := Lib.hid (up_ok (n := x.length) a1.1 (by omega) (by omega) (by omega))
  have K2 := Lib.hid (up_ok (n := (upF x a).length) b1.1 (by omega) (by omega) (by rw [l1]; omega))
  have K3 := Lib.hid (up_ok (n := x.length) p1.1 (by omega) (by omega) (by omega))
  have K4 := Lib.hid (down_ok (n := x.length) a1.1 (by omega) (by omega))
  have K5 := Lib.hid (down_ok (n := (everyF x 0 a).length) b1.1 (by omega) (by omega))
  have K6 := Lib.hid (down_ok (n := x.length) p1.1 (by omega) (by omega))
  have E1 := Lib.hid (show upF (upF x a) b = upF x p by rw [← hp]; exact up_up x a1.1 b1.1)
  have E2 := Lib.hid (show everyF (everyF x 0 a) 0 b = everyF x 0 p by rw [← hp]; exact every_every x a1.1 b1.1)
  have G1 : (upF x a).length ≤ 9223372036854775807 := by omega
  have G2 : (everyF x 0 a).length ≤ 9223372036854775807 := by omega
  have G3 : (upF x p).length ≤ 9223372036854775807 := by omega
  have G4 : (everyF x 0 p).length ≤ 9223372036854775807 := by omega
  have HA := Lib.hid ha
  have HB := Lib.hid hb'
  clear L1 L2 L3 C1 C2 l1 l2 l3 l4 l5 ha hb' hp
  go_enter Try.func4, Try.ntmps4
  go_wp2_with (go_at_call 7; refine (wd_Within _ _ _ (by omega)).mono ?_; rintro e w' ⟨rfl, rfl⟩)
  refine (mr_Up_ok A x c a _ _ HA.out K1.out hx h).mono ?_
  rintro e w1 ⟨A1, c1, rfl, hi1, hb1⟩
  have hb := below_then hb hb1
  have h := h.grow hb1
  clear hb1
  go_wp2_with fail
  refine (mr_Up_ok A1 (upF x a) c1 b _ _ HB.out K2.out G1 hi1).mono ?_
  rintro e w2 ⟨A2, c2, rfl, hi2, hb2⟩
  have hb := below_then hb hb2
  have h := h.grow hb2
  clear hb2 hi1
  go_wp2_with fail
  refine (mr_Up_ok A x c p _ _ rfl K3.out hx h).mono ?_
  rintro e w3 ⟨A3, c3, rfl, hi3, hb3⟩
  have hb := below_then hb hb3
  have h := h.grow hb3
  have hi2 := hi2.grow hb3
  clear hb3
  go_wp2_with fail
  refine (mr_Down_ok A x c a _ _ HA.out K4.out hx h).mono ?_
  rintro e w4 ⟨A4, c4, rfl, hi4, hb4⟩
  have hb := below_then hb hb4
  have h := h.grow hb4
  have hi2 := hi2.grow hb4
  have hi3 := hi3.grow hb4
  clear hb4
  go_wp2_with fail
  refine (mr_Down_ok A4 (everyF x 0 a) c4 b _ _ HB.out K5.out G2 hi4).mono ?_
  rintro e w5 ⟨A5, c5, rfl, hi5, hb5⟩
  have hb := below_then hb hb5
  have h := h.grow hb5
  have hi2 := hi2.grow hb5
  have hi3 := hi3.grow hb5
  clear hb5 hi4
  go_wp2_with fail
  refine (mr_Down_ok A x c p _ _ rfl K6.out hx h).mono ?_
  rintro e w6 ⟨A6, c6, rfl, hi6, hb6⟩
  have hb := below_then hb hb6
  have hi2 := hi2.grow hb6
  have hi3 := hi3.grow hb6
  have hi5 := hi5.grow hb6
  clear hb6 h
  go_wp2_with fail
  refine (known32 _).mono ?_
  rintro e w7 ⟨rfl, hb7⟩
  have hb := below_then hb hb7
  have hi2 := hi2.grow hb7
  have hi3 := hi3.grow hb7
  have hi5 := hi5.grow hb7
  have hi6 := hi6.grow hb7
  clear hb7
  go_wp2_with fail
  refine (rf_Same A2 A3 _ _ c2 c3 _ G3 E1.out hi2 hi3).mono ?_
  rintro e w8 ⟨rfl, hb8⟩
  have hb := below_then hb hb8
  have hi5 := hi5.grow hb8
  have hi6 := hi6.grow hb8
  clear hb8 hi2 hi3
  go_wp2_with fail
  refine (rf_Same A5 A6 _ _ c5 c6 _ G4 E2.out hi5 hi6).mono ?_
  rintro e w9 ⟨rfl, hb9⟩
  have hb := below_then hb hb9
  clear hb9
  go_wp2
  go_ret
  exact ⟨rfl, hb⟩
end Go.Proofs.Ythalkhpdcijlkaa
