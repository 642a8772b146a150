/- The walks of Dot and of the statements about layer 21 that take lists. -/
import Derived.Test.YtenpffjbgpapmaaC
import Derived.Test.YtenpffjbgpapmaaD
namespace Go.Proofs.Ytenpffjbgpapmaa
open Go.RowKit

/-- y is from -2^24 to 2^24. -/
def fac (y : Int) : Bool := inB y (-2 ^ 24) (2 ^ 24)
theorem fac_iff {y : Int} : fac y = true ↔ -16777216 ≤ y ∧ y ≤ 16777216 := by
  unfold fac; rw [show (2 : Int) ^ 24 = 16777216 by decide]; exact inB_iff

theorem fx_factor (v : Int) (w : World) : Calls Try.prog 40 #[.int .i64 v] w fun e w' => e = .returned (.bool (fac v)) ∧ w = w' := by
  go_enter Try.func40, Try.ntmps40
  go_wp2
  all_goals go_ret
  all_goals exact ⟨ret_bool (by rw [Bool.eq_iff_iff, fac_iff]; simp; omega), rfl⟩
set_option maxHeartbeats 1000000 in
theorem fx_Dot (A B : Option Addr) (c x : List Int) (p q : Nat) (w : World) (hc : c.length ≤ 1000000) (hx : x.length ≤ 1000000) (h : Ints w A c) (g : Ints w B x) :
    Calls Try.prog 20 #[.slice A c.length p, .slice B x.length q] w fun e w' => e = .returned (.tuple #[.int .i64 (dotV c x), .int .i64 (dotE c x)]) ∧ w = w' := by
  by_cases hl : c.length = x.length
  · by_cases h64 : c.length ≤ 64
    · have hne : ((c.length : Int) != (x.length : Int)) = false := by simp [hl]
      have hle : c.length ≤ x.length := by omega
      have HV := Lib.hid (dot_of (c := c) (x := x) hl h64)
      have HL := Lib.hid hl
      clear hl
      go_enter Try.func20, Try.ntmps20
      go_wp2
      go_loop [6, 19] (fun s i => ∃ k : Nat, k ≤ c.length ∧ i = .int .i64 k ∧ s = .int .i64 (dotN c x k) ∧ (c.take k).all fac = true ∧ (x.take k).all fac = true) (fun _ i => c.length - (intOf i).toNat)
      case atStart => exact ⟨0, Nat.zero_le _, rfl, rfl, rfl, rfl⟩
      case round =>
        obtain ⟨k, hk, rfl, rfl, a1, a2⟩ := hrel
        by_cases hlt : k < c.length
        · obtain ⟨ad, y, rfl, hb, hy, hcy, i1, i2⟩ := h.at_ hlt
          obtain ⟨ad2, z, rfl, hb2, hz, hcz, j1, j2⟩ := g.at_ (k := k) (by omega)
          have S1 := Lib.hid (take_succ_all hy fac)
          have S2 := Lib.hid (take_succ_all hz fac)
          have N1 := Lib.hid (all_no hy (p := fac))
          have N2 := Lib.hid (all_no hz (p := fac))
          have A1 := Lib.hid a1
          have A2 := Lib.hid a2
          have hd : dotN c x (k + 1) = dotN c x k + y * z := by simp [dotN, hy, hz]
          have hb' := dotN_take (c := c) (x := x) (k := k) a1 a2 (by omega)
          obtain ⟨D, hD⟩ : ∃ D, dotN c x k = D := ⟨_, rfl⟩
          rw [hD] at hd hb'
          have HD := Lib.hid hd
          clear hd a1 a2 hy hz h g
          rcases Bool.eq_false_or_eq_true (fac y) with iy | iy
          · rcases Bool.eq_false_or_eq_true (fac z) with iz | iz
            · obtain ⟨m1, m2⟩ := mul_bound (B := 16777216) (C := 16777216) (fac_iff.1 iy) (fac_iff.1 iz)
              obtain ⟨X, hX⟩ : ∃ X, y * z = X := ⟨_, rfl⟩
              rw [hX] at m1 m2
              have t1 : wrap64 X = X := w64_in (by omega) (by omega)
              go_wp2_with (go_at_call 40; refine (fx_factor _ _).mono ?_; rintro e w' ⟨rfl, rfl⟩)
              go_round
              case rel => exact ⟨k + 1, by omega, by go_num, by rw [HD.out, hX], by rw [S1.out, A1.out, iy]; rfl, by rw [S2.out, A2.out, iz]; rfl⟩
              case measure => simp [intOf]; omega
            · go_wp2_with (go_at_call 40; refine (fx_factor _ _).mono ?_; rintro e w' ⟨rfl, rfl⟩)
              go_ret2
              have hs : (smallB c 24 && smallB x 24) = false := by
                have : x.all fac = false := N2.out iz
                show (c.all fac && x.all fac) = false
                rw [this]; simp
              have := HV.out _ hs
              exact ⟨by rw [this.1, this.2]; rfl, rfl⟩
          · go_wp2_with (go_at_call 40; refine (fx_factor _ _).mono ?_; rintro e w' ⟨rfl, rfl⟩)
            go_ret2
            have hs : (smallB c 24 && smallB x 24) = false := by
              have : c.all fac = false := N1.out iy
              show (c.all fac && x.all fac) = false
              rw [this]; simp
            have := HV.out _ hs
            exact ⟨by rw [this.1, this.2]; rfl, rfl⟩
        · go_wp2
          go_ret2
          have hk' : k = c.length := by omega
          subst hk'
          have hs : (smallB c 24 && smallB x 24) = true := by
            show (c.all fac && x.all fac) = true
            have hl' := HL.out
            rw [List.take_of_length_le (by omega)] at a1
            rw [List.take_of_length_le (by omega)] at a2
            rw [a1, a2]; rfl
          have := HV.out _ hs
          exact ⟨by rw [this.1, this.2]; rfl, rfl⟩
    · have hne : ((c.length : Int) != (x.length : Int)) = false := by simp [hl]
      have HV : Hid (dotV c x = 0 ∧ dotE c x = 4) := by
        have n64 : 64 < c.length := by omega
        have nl : ¬ c.length ≠ x.length := not_not_intro hl
        show dotV c x = 0 ∧ dotE c x = 4
        unfold dotV dotE; simp only [if_pos n64, if_neg nl, and_self]
      clear hl
      go_enter Try.func20, Try.ntmps20
      go_wp2
      go_ret2
      exact ⟨by rw [HV.out.1, HV.out.2]; rfl, rfl⟩
  · have hne : ((c.length : Int) != (x.length : Int)) = true := by simp; omega
    have HV : Hid (dotV c x = 0 ∧ dotE c x = 1) := by
      unfold dotV dotE; rw [if_pos hl, if_pos hl]; exact ⟨rfl, rfl⟩
    clear hl
    go_enter Try.func20, Try.ntmps20
    go_wp2
    go_ret2
    exact ⟨by rw [HV.out.1, HV.out.2]; rfl, rfl⟩
end Go.Proofs.Ytenpffjbgpapmaa
