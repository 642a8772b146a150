/- The walks of wide, Valid and light over lifting steps. -/
import Derived.Test.YtimhplkkgbpapaaV5
namespace Go.Proofs.Ytimhplkkgbpapaa
open Go.RowKit

set_option maxRecDepth 100000 in
theorem r33_wide (A : Option Addr) (l : List Int) (c : Nat) (w : World) (hl : l.length ≤ 9223372036854775807) (h : Ints w A l) :
    Calls Try.prog 30 #[.slice A l.length c] w fun e w' => e = .returned (.bool (l.all wB)) ∧ w = w' := by
  go_enter Try.func30, Try.ntmps30
  go_wp2
  go_loop [3] (fun i => ∃ k : Nat, k ≤ l.length ∧ i = .int .i64 k ∧ (l.take k).all wB = true) (fun i => l.length - (intOf i).toNat)
  case atStart => exact ⟨0, Nat.zero_le _, rfl, rfl⟩
  case round =>
    obtain ⟨k, hk, rfl, hall⟩ := hrel
    by_cases hlt : k < l.length
    · obtain ⟨ad, x, rfl, hb, hx, hc, i1, i2⟩ := h.at_ hlt
      have hs := take_succ_all hx wB
      have hno := all_no hx (p := wB)
      have HS := Lib.hid hs
      have HN := Lib.hid hno
      have HA := Lib.hid hall
      have HX := Lib.hid hx
      clear hs hno hall hx h
      rcases Bool.eq_false_or_eq_true (inB x (-2147483648) 2147483647) with hin | hin
      · go_wp2_with (go_at_call 29; refine (rf_In _ _ _ _).mono ?_; rintro e w' ⟨rfl, rfl⟩)
        go_round
        case rel => exact ⟨k + 1, by omega, by go_num, by rw [HS.out, HA.out, show wB x = true from hin]; rfl⟩
        case measure => simp [intOf]; omega
      · go_wp2_with (go_at_call 29; refine (rf_In _ _ _ _).mono ?_; rintro e w' ⟨rfl, rfl⟩)
        go_ret
        exact ⟨ret_bool (HN.out hin).symm, rfl⟩
    · go_wp2
      go_ret
      exact ⟨ret_bool (by rw [List.take_of_length_le (by omega)] at hall; exact hall.symm), rfl⟩
theorem headB_parts {o : Bool} {st sh : Int} {cf : List Int} (h : headB (o, st, cf, sh) = true) : cf.length ≤ 8 ∧ inB sh 0 20 = true ∧ inB st (-8) 8 = true := by
  unfold headB at h
  rw [Bool.and_eq_true, Bool.and_eq_true] at h
  exact ⟨of_decide_eq_true h.1, h.2.1, h.2.2⟩
set_option maxRecDepth 100000 in
set_option maxHeartbeats 2000000 in
theorem r33_Valid (A : Option Addr) (ls : List Lft) (c : Nat) (w : World) (h : Lifts w A ls) (hl : ls.length ≤ 1000000) (hl2 : ∀ s ∈ ls, s.2.2.1.length ≤ 9223372036854775807) :
    Calls Try.prog 28 #[.slice A ls.length c] w fun e w' => e = .returned (.bool (lftsB ls)) ∧ w = w' := by
  by_cases hl12 : 12 < ls.length
  · have hf : lftsB ls = false := by unfold lftsB; rw [decide_eq_false (by omega), Bool.false_and]
    have HF := Lib.hid hf
    clear hf
    go_enter Try.func28, Try.ntmps28
    go_wp2
    all_goals try (exfalso; omega)
    all_goals go_ret
    all_goals exact ⟨ret_bool HF.out.symm, rfl⟩
  · have hl3 : ls.length ≤ 12 := by omega
    have HL2 := Lib.hid hl2
    clear hl2
    go_enter Try.func28, Try.ntmps28
    go_wp2
    all_goals try (exfalso; omega)
    go_loop [3, 4] (fun i _ => ∃ k : Nat, k ≤ ls.length ∧ i = .int .i64 k ∧ Hid ((ls.take k).all lftB = true)) (fun i _ => ls.length - (intOf i).toNat)
    case atStart => exact ⟨0, Nat.zero_le _, rfl, rfl⟩
    case round =>
      obtain ⟨k, hk, rfl, HA⟩ := hrel
      by_cases hlt : k < ls.length
      · obtain ⟨s, hs⟩ : ∃ s, ls[k]? = some s := ⟨_, List.getElem?_eq_getElem hlt⟩
        obtain ⟨ad, C, cc, rfl, hba, c0, c1, c2, c3, hi, i1, i2⟩ := h k s hs
        have HSU := Lib.hid (take_succ_all hs lftB)
        have HNO := Lib.hid (fun q => lfts_no hs q)
        have hcl := HL2.out s (List.mem_of_getElem? hs)
        obtain ⟨o, st, cf, sh⟩ := s
        simp only at c0 c1 c2 c3 hi i1 i2 hcl
        clear hs
        rcases Bool.eq_false_or_eq_true (headB (o, st, cf, sh)) with hh | hh
        · obtain ⟨g0, g1, g2⟩ := headB_parts hh
          have d1 : decide ((8 : Int) < (cf.length : Int)) = false := by simp; omega
          have HH := Lib.hid hh
          clear hh
          go_wp2_with (go_at_call 29; refine (rf_In _ _ _ _).mono ?_; rintro e w' ⟨rfl, rfl⟩)
          clear g1 g2 d1
          go_loop [4] (fun i => ∃ j : Nat, j ≤ cf.length ∧ i = .int .i64 j ∧ Hid ((cf.take j).all cfB = true)) (fun i => cf.length - (intOf i).toNat)
          case atStart => exact ⟨0, Nat.zero_le _, rfl, rfl⟩
          case round =>
            obtain ⟨j, hj, rfl, HC⟩ := hrel
            by_cases hlt2 : j < cf.length
            · obtain ⟨ad2, x, rfl, hbx, hx, cx, x1, x2⟩ := hi.at_ hlt2
              have HS2 := Lib.hid (take_succ_all hx cfB)
              have HN2 := Lib.hid (all_no hx (p := cfB))
              clear hx
              rcases Bool.eq_false_or_eq_true (inB x (-4096) 4096) with hin | hin
              · go_wp2_with (go_at_call 29; refine (rf_In _ _ _ _).mono ?_; rintro e w' ⟨rfl, rfl⟩)
                go_round
                case rel => exact ⟨j + 1, by omega, by go_num, by show _ = _; rw [HS2.out, HC.out, show cfB x = true from hin]; rfl⟩
                case measure => simp [intOf]; omega
              · go_wp2_with (go_at_call 29; refine (rf_In _ _ _ _).mono ?_; rintro e w' ⟨rfl, rfl⟩)
                go_ret
                exact ⟨ret_bool (HNO.out (by unfold lftB; rw [HN2.out hin, Bool.and_false])).symm, rfl⟩
            · obtain rfl : j = cf.length := by omega
              go_wp2
              all_goals try (exfalso; omega)
              go_round
              case rel => exact ⟨k + 1, by omega, by go_num, by show _ = _; rw [HSU.out, HA.out]; unfold lftB; rw [HH.out]; have := HC.out; rw [List.take_length] at this; rw [this]; rfl⟩
              case measure => simp [intOf]; omega
        · have hno := HNO.out (show lftB (o, st, cf, sh) = false by unfold lftB; rw [hh]; rfl)
          have HF := Lib.hid hno
          clear hno
          by_cases g1 : cf.length ≤ 8
          · have d1 : decide ((8 : Int) < (cf.length : Int)) = false := by simp; omega
            rcases Bool.eq_false_or_eq_true (inB sh 0 20) with g2 | g2
            · have g3 : inB st (-8) 8 = false := by
                have := hh
                unfold headB at this
                rw [decide_eq_true g1, g2] at this
                simpa using this
              clear hh
              go_wp2_with (go_at_call 29; refine (rf_In _ _ _ _).mono ?_; rintro e w' ⟨rfl, rfl⟩)
              go_ret
              exact ⟨ret_bool HF.out.symm, rfl⟩
            · clear hh
              go_wp2_with (go_at_call 29; refine (rf_In _ _ _ _).mono ?_; rintro e w' ⟨rfl, rfl⟩)
              go_ret
              exact ⟨ret_bool HF.out.symm, rfl⟩
          · have d1 : decide ((8 : Int) < (cf.length : Int)) = true := by simp; omega
            clear hh
            go_wp2_with (go_at_call 29; refine (rf_In _ _ _ _).mono ?_; rintro e w' ⟨rfl, rfl⟩)
            go_ret
            exact ⟨ret_bool HF.out.symm, rfl⟩
      · obtain rfl : k = ls.length := by omega
        go_wp2
        all_goals try (exfalso; omega)
        go_ret
        exact ⟨ret_bool (by unfold lftsB; have := HA.out; rw [List.take_length] at this; rw [this, decide_eq_true hl3]; rfl), rfl⟩
/-- Steps are not too many to be looked at. -/
def lightB (ls : List Lft) : Bool := (ls.all fun s => decide (s.2.2.1.length ≤ 20)) && decide (ls.length ≤ 20)
set_option maxRecDepth 100000 in
theorem l33_light (A : Option Addr) (ls : List Lft) (c : Nat) (w : World) (h : Lifts w A ls) (hl : ls.length ≤ 9223372036854775807) (hl2 : ∀ s ∈ ls, s.2.2.1.length ≤ 9223372036854775807) :
    Calls Try.prog 13 #[.slice A ls.length c] w fun e w' => e = .returned (.bool (lightB ls)) ∧ w = w' := by
  have HL2 := Lib.hid hl2
  clear hl2
  go_enter Try.func13, Try.ntmps13
  go_wp2
  go_loop [3] (fun i => ∃ k : Nat, k ≤ ls.length ∧ i = .int .i64 k ∧ Hid (((ls.take k).all fun s => decide (s.2.2.1.length ≤ 20)) = true)) (fun i => ls.length - (intOf i).toNat)
  case atStart => exact ⟨0, Nat.zero_le _, rfl, rfl⟩
  case round =>
    obtain ⟨k, hk, rfl, HA⟩ := hrel
    by_cases hlt : k < ls.length
    · obtain ⟨s, hs⟩ : ∃ s, ls[k]? = some s := ⟨_, List.getElem?_eq_getElem hlt⟩
      obtain ⟨ad, C, cc, rfl, hba, c0, c1, c2, c3, hi, i1, i2⟩ := h k s hs
      have HSU := Lib.hid (take_succ_all hs fun s : Lft => decide (s.2.2.1.length ≤ 20))
      have HN := Lib.hid (all_no hs (p := fun s : Lft => decide (s.2.2.1.length ≤ 20)))
      have hcl := HL2.out s (List.mem_of_getElem? hs)
      obtain ⟨o, st, cf, sh⟩ := s
      simp only at c0 c1 c2 c3 hi i1 i2 hcl
      clear hs
      by_cases g1 : cf.length ≤ 20
      · have d1 : decide ((20 : Int) < (cf.length : Int)) = false := by simp; omega
        go_wp2
        go_round
        case rel => exact ⟨k + 1, by omega, by go_num, by show _ = _; rw [HSU.out, HA.out, decide_eq_true g1]; rfl⟩
        case measure => simp [intOf]; omega
      · have d1 : decide ((20 : Int) < (cf.length : Int)) = true := by simp; omega
        go_wp2
        go_ret
        exact ⟨ret_bool (by unfold lightB; rw [HN.out (decide_eq_false g1)]; rfl), rfl⟩
    · obtain rfl : k = ls.length := by omega
      go_wp2
      all_goals go_ret
      all_goals exact ⟨ret_bool (by unfold lightB; have := HA.out; rw [List.take_length] at this; rw [this, Bool.true_and, decide_eq_decide]; omega), rfl⟩
end Go.Proofs.Ytimhplkkgbpapaa
