/- The walks of FixedWrapsSums, FixedSaturatesNearest, FixedDots. -/
import Derived.Test.YtenpffjbgpapmaaLb
namespace Go.Proofs.Ytenpffjbgpapmaa
open Go.RowKit

theorem rf_Small24 (A : Option Addr) (l : List Int) (c : Nat) (w : World) (hl : l.length ≤ 9223372036854775807) (h : Ints w A l) :
    Calls Try.prog 38 #[.slice A l.length c, .int .i64 24] w fun e w' => e = .returned (.bool (smallB l 24)) ∧ w = w' := rf_Small A l c 24 w (by decide) hl h
set_option maxHeartbeats 1000000 in
theorem rf_Dot (A B : Option Addr) (c x : List Int) (p q : Nat) (w : World) (hc : c.length ≤ 1000000) (hx : x.length ≤ 1000000) (h : Ints w A c) (g : Ints w B x) :
    Calls Try.prog 21 #[.slice A c.length p, .slice B x.length q] w fun e w' => e = .returned (.tuple #[.int .i64 (dotV c x), .int .i64 (dotE c x)]) ∧ Below w.heap.size w w' := by
  by_cases hl : c.length = x.length
  · by_cases h64 : c.length ≤ 64
    · have hne : ((c.length : Int) != (x.length : Int)) = false := by simp [hl]
      have hle : c.length ≤ x.length := by omega
      have HV := dot_of (c := c) (x := x) hl h64
      rcases Bool.eq_false_or_eq_true (smallB c 24) with s1 | s1
      · rcases Bool.eq_false_or_eq_true (smallB x 24) with s2 | s2
        · have HB := fun k => dotN_bound s1 s2 k
          have H1 := small_at s1
          have H2 := small_at s2
          have HV := Lib.hid (HV true (by rw [s1, s2]; rfl))
          clear hl
          go_enter Try.func21, Try.ntmps21
          go_wp2_with (first
            | (go_at_call 38; with_reducible refine (rf_Small24 A c p _ (by omega) h).mono ?_; rintro e w' ⟨rfl, rfl⟩)
            | (go_at_call 38; with_reducible refine (rf_Small24 B x q _ (by omega) g).mono ?_; rintro e w' ⟨rfl, rfl⟩))
          go_loopw [6, 7] (fun s i wr => ∃ k : Nat, k ≤ c.length ∧ i = .int .i64 k ∧ s = .int .i64 (dotN c x k) ∧ Below w.heap.size w wr) (fun _ i _ => c.length - (intOf i).toNat)
          case atStart => exact ⟨0, Nat.zero_le _, rfl, rfl, Below.refl _ _⟩
          case round =>
            obtain ⟨k, hk, rfl, rfl, hbw⟩ := hrel
            by_cases hlt : k < c.length
            · obtain ⟨ad, y, rfl, hb, hy, hcy, i1, i2⟩ := h.at_ hlt
              obtain ⟨ad2, z, rfl, hb2, hz, hcz, j1, j2⟩ := g.at_ (k := k) (by omega)
              have q1 := (hbw.cell (p := ad.add k) (by rw [block_add]; exact hb)).trans hcy
              have q2 := (hbw.cell (p := ad2.add k) (by rw [block_add]; exact hb2)).trans hcz
              have hd : dotN c x (k + 1) = dotN c x k + y * z := by simp [dotN, hy, hz]
              have hb0 := HB k
              have hb1 := HB (k + 1)
              rw [hd] at hb1
              have hY := H1 k
              have hZ := H2 k
              rw [hy, show (2 : Int) ^ 24 = 16777216 by decide] at hY
              rw [hz, show (2 : Int) ^ 24 = 16777216 by decide] at hZ
              simp only [Option.getD_some] at hY hZ
              obtain ⟨m1, m2⟩ := mul_bound (B := 16777216) (C := 16777216) hY hZ
              obtain ⟨X, hX⟩ : ∃ X, y * z = X := ⟨_, rfl⟩
              obtain ⟨D, hD⟩ : ∃ D, dotN c x k = D := ⟨_, rfl⟩
              rw [hX] at hd hb1 m1 m2
              rw [hD] at hd hb0 hb1
              have HD := Lib.hid hd
              have t1 : IntKind.i64.wrap X = X := IntWalk.i64_in _ (by omega)
              have t2 : IntKind.i64.wrap (D + X) = D + X := IntWalk.i64_in _ (by omega)
              clear hd hy hz hcy hcz h g H1 H2 HB hb0 hb1 m1 m2 hY hZ
              go_wp2
              go_quiet (fail)
              clear t1 t2
              go_wp2
              go_roundw
              case rel => exact ⟨k + 1, by omega, by go_num, by rw [HD.out], below_drewN hbw _⟩
              case measure => simp [intOf]; omega
            · go_wp2
              go_ret2
              obtain rfl : k = c.length := by omega
              exact ⟨by rw [HV.out.1, HV.out.2]; rfl, hbw⟩
        · have HV := Lib.hid (HV false (by rw [s1, s2]; rfl))
          clear hl
          go_enter Try.func21, Try.ntmps21
          go_wp2_with (first
            | (go_at_call 38; with_reducible refine (rf_Small24 A c p _ (by omega) h).mono ?_; rintro e w' ⟨rfl, rfl⟩)
            | (go_at_call 38; with_reducible refine (rf_Small24 B x q _ (by omega) g).mono ?_; rintro e w' ⟨rfl, rfl⟩))
          go_ret2
          exact ⟨by rw [HV.out.1, HV.out.2]; rfl, Below.refl _ _⟩
      · have HV := Lib.hid (HV false (by rw [s1]; rfl))
        clear hl
        go_enter Try.func21, Try.ntmps21
        go_wp2_with (first
            | (go_at_call 38; with_reducible refine (rf_Small24 A c p _ (by omega) h).mono ?_; rintro e w' ⟨rfl, rfl⟩)
            | (go_at_call 38; with_reducible refine (rf_Small24 B x q _ (by omega) g).mono ?_; rintro e w' ⟨rfl, rfl⟩))
        go_ret2
        exact ⟨by rw [HV.out.1, HV.out.2]; rfl, Below.refl _ _⟩
    · have hne : ((c.length : Int) != (x.length : Int)) = false := by simp [hl]
      have HV : Hid (dotV c x = 0 ∧ dotE c x = 4) := by
        have n64 : 64 < c.length := by omega
        have nl : ¬ c.length ≠ x.length := not_not_intro hl
        show dotV c x = 0 ∧ dotE c x = 4
        unfold dotV dotE; simp only [if_pos n64, if_neg nl, and_self]
      clear hl
      go_enter Try.func21, Try.ntmps21
      go_wp2
      go_ret2
      exact ⟨by rw [HV.out.1, HV.out.2]; rfl, Below.refl _ _⟩
  · have hne : ((c.length : Int) != (x.length : Int)) = true := by simp; omega
    have HV : Hid (dotV c x = 0 ∧ dotE c x = 1) := by
      unfold dotV dotE; rw [if_pos hl, if_pos hl]; exact ⟨rfl, rfl⟩
    clear hl
    go_enter Try.func21, Try.ntmps21
    go_wp2
    go_ret2
    exact ⟨by rw [HV.out.1, HV.out.2]; rfl, Below.refl _ _⟩
set_option maxRecDepth 100000 in
set_option maxHeartbeats 1000000 in
theorem law_FixedWrapsSums (b0 : Int) (u : Option Addr × Nat × List Int) (w : World) (_ : I64 b0) (h : Ints w u.1 u.2.2 ∧ u.2.2.length ≤ 9223372036854775807) :
    Calls Try.prog 7 #[.int .i64 b0, .slice u.1 u.2.2.length u.2.1] w fun e w' => e = .returned (.bool true) ∧ Below w.heap.size w w' := by
  obtain ⟨A, c, l⟩ := u
  obtain ⟨h, hl⟩ := h
  obtain ⟨g1, g2⟩ := within_in (m := 40) (by decide) b0
  obtain ⟨n, hb⟩ : ∃ n, withinF b0 40 = n := ⟨_, rfl⟩
  rw [hb] at g1 g2
  have g3 : n ≤ 63 := by omega
  have hb1 : 1 ≤ 1 + n := by omega
  have hb2 : 1 + n ≤ 40 := by omega
  go_enter Try.func7, Try.ntmps7
  go_wp2_with (go_at_call 13; refine (wd_Within _ _ _ (by decide)).mono ?_; rintro e w1 ⟨rfl, rfl⟩)
  have hb0 := Below.refl w.heap.size w
  go_loop [5, 6, 7] (fun s t i => ∃ (k : Nat) (S : Int), k ≤ l.length ∧ k ≤ 200 ∧ i = .int .i64 k ∧ s = .int .i64 S ∧ t = .int .i64 (wrapF (1 + n) S) ∧ -(k * 1125899906842624) ≤ S ∧ S ≤ k * 1125899906842624) (fun _ _ i => l.length - (intOf i).toNat)
  case atStart => exact ⟨0, 0, Nat.zero_le _, by omega, rfl, rfl, by rw [wrap_zero hb1 (by omega)], by omega, by omega⟩
  case round =>
    obtain ⟨k, S, hk, hk2, rfl, rfl, rfl, s1, s2⟩ := hrel
    by_cases hlt : k < l.length ∧ k < 200
    · obtain ⟨hlt, hlt2⟩ := hlt
      obtain ⟨ad, y, rfl, hb', hy, hcy, i1, i2⟩ := h.at_ hlt
      obtain ⟨T, e1, _, t1, t2⟩ := tmod_facts y (P := 1125899906842624) (by decide)
      have hw := wrap_add hb1 (by omega : 1 + n ≤ 62) S T
      have hn1 : (1 + n - 1).toNat = n.toNat := by omega
      obtain ⟨r1, r2⟩ := wrap_range hb1 (by omega : 1 + n ≤ 62) S
      rw [hn1] at r1 r2
      have r3 := pow_62 (n := n.toNat) (by omega)
      obtain ⟨V, hV⟩ : ∃ V, wrapF (1 + n) S = V := ⟨_, rfl⟩
      rw [hV] at hw r1 r2
      have HW := Lib.hid hw
      have hb39 : (2 : Int) ^ n.toNat ≤ 2 ^ 39 := pow_le (by omega)
      have e39 : (2 : Int) ^ 39 = 549755813888 := by decide
      rw [e39] at hb39
      have r4 : -549755813888 ≤ V ∧ V ≤ 549755813888 := by omega
      clear hw r1 r2 r3 hb39 e39 hy h hn1
      go_wp2_with (go_at_call 18; refine (fx_Wrap _ _ _).mono ?_; rintro e w1 ⟨rfl, rfl⟩)
      go_round
      case rel => exact ⟨k + 1, S + T, by omega, by omega, by go_num, rfl, by rw [HW.out], by omega, by omega⟩
      case measure => simp [intOf]; omega
    · have hnot : ¬ k < l.length ∨ ¬ k < 200 := by omega
      have hn1 : (1 + n - 1).toNat = (1 + n).toNat - 1 := by omega
      have hin := fun (x : -2 ^ ((1 + n).toNat - 1) ≤ S ∧ S < 2 ^ ((1 + n).toNat - 1)) => wrap_of_in (s := S) hb1 (by omega : 1 + n ≤ 62) (by rw [hn1]; exact x.1) (by rw [hn1]; exact x.2)
      have hp := w64_pow (n := (1 + n).toNat - 1) (by omega)
      have hq := pow_62 (n := (1 + n).toNat - 1) (by omega)
      have hq1 := pow_pos' ((1 + n).toNat - 1)
      obtain ⟨H, hH⟩ : ∃ H, (2 : Int) ^ ((1 + n).toNat - 1) = H := ⟨_, rfl⟩
      rw [hH] at hin hp hq hq1
      rw [← hH] at hp
      rw [hH] at hp
      obtain ⟨V, hV⟩ : ∃ V, wrapF (1 + n) S = V := ⟨_, rfl⟩
      rw [hV] at hin
      have HI := Lib.hid hin
      have hp' : wrap64 (2 ^ ((1 + n).toNat - 1)) = H := by rw [hH]; exact hp
      clear hin h hlt hn1 hH hp
      rcases hnot with hnot | hnot
      all_goals
        go_wp2_with (first
          | (go_at_call 15; refine (known21 _).mono ?_; rintro e w1 ⟨rfl, hb1'⟩; have hb0 := below_then hb0 hb1')
          | (go_at_call 18; refine (fx_Wrap _ _ _).mono ?_; rintro e w1 ⟨rfl, rfl⟩))
        all_goals go_ret
        all_goals exact ⟨ret_bool (by first | rfl | (rw [beq_iff_eq]; exact HI.out ⟨by assumption, by assumption⟩)), hb0⟩
end Go.Proofs.Ytenpffjbgpapmaa
