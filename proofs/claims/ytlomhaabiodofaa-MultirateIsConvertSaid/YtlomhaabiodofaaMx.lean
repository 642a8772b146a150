/- The walks of package multirate and of its reference: every, Down. -/
import Derived.Test.YtlomhaabiodofaaMw
namespace Go.Proofs.Ytlomhaabiodofaa
open Go.RowKit

set_option maxHeartbeats 1000000 in
theorem mr_every (A : Option Addr) (x : List Int) (c fr m : Nat) (w : World) (hx : x.length ≤ 1000000) (h : Ints w A x) (hf : fr ≤ 1000000) (h1 : 1 ≤ m) (h2 : m ≤ 1000) :
    Calls Try.prog 28 #[.slice A x.length c, .int .i64 fr, .int .i64 m] w (RetInts1 w (everyF x fr m)) := by
  go_enter Try.func28, Try.ntmps28
  go_wp2
  go_loopw [7, 8] (fun v i wr => ∃ k p : Nat, k ≤ cnt x.length fr m ∧ i = .int .i64 p ∧ Hid (p = fr + k * m) ∧ p ≤ 3000000 ∧ Own w.heap.size wr v (everyN x fr m k) ∧ Below w.heap.size w wr) (fun _ i _ => 3000000 - (intOf i).toNat)
  case atStart => exact ⟨0, fr, Nat.zero_le _, rfl, by show fr = _; omega, by omega, Own.nil, Below.refl _ _⟩
  case round =>
    obtain ⟨k, p, hk, rfl, HP, hp, hown, hbw⟩ := hrel
    by_cases hlt : p < x.length
    · have hxw : Ints wr A x := h.grow hbw
      obtain ⟨ad, y, rfl, ba, hy, ca, i1, i2⟩ := hxw.at_ hlt
      have hkc : k < cnt x.length fr m := (cnt_iff h1).1 (by rw [← HP.out]; exact hlt)
      have HS := Lib.hid (everyN_succ (fr := fr) (m := m) (k := k) (by rw [← HP.out]; exact hy))
      have hlen' : (everyN x fr m k).length < 100000000 := by rw [everyN_length]; have := cnt_le x.length fr m h1; omega
      have hI : I64 y := ⟨i1, i2⟩
      have hsz := hbw.size
      have HP2 : Hid (p + m = fr + (k + 1) * m) := by have := HP.out; show _ = _; rw [Nat.add_mul]; omega
      clear hy hxw
      go_wp2_with (at_builtin; refine app_int wr rfl _ _ rfl w.heap.size hown rfl rfl hlen' hsz hI ?_; intro v1 w1 hown1 hbel1)
      go_roundw
      case rel => exact ⟨k + 1, p + m, by omega, by go_num, HP2, by omega, by rw [HS.out]; exact hown1, hbw.trans hbel1⟩
      case measure => simp [intOf]; omega
    · have hkc : k = cnt x.length fr m := by
        have hn : ¬ k < cnt x.length fr m := fun hc => hlt (by rw [HP.out]; exact (cnt_iff (n := x.length) (fr := fr) (k := k) h1).2 hc)
        omega
      go_wp2
      go_ret
      subst hkc
      exact RetInts1.mk hown hbw
set_option maxHeartbeats 1000000 in
theorem mr_Down (A : Option Addr) (x : List Int) (c : Nat) (M : Int) (w : World) (hx : x.length ≤ 9223372036854775807) (h : Ints w A x) :
    Calls Try.prog 12 #[.slice A x.length c, .int .i64 M] w (RetInts w (downV x M) (downE x.length M)) := by
  rcases Bool.eq_false_or_eq_true (inB M 1 12) with hp | hp
  · obtain ⟨l1, l2⟩ := inB_iff.1 hp
    obtain ⟨m, rfl⟩ := Int.eq_ofNat_of_zero_le (by omega : 0 ≤ M)
    by_cases hlong : 4096 < x.length
    · have hE : downE x.length m = 4 := by unfold downE; rw [hp, if_pos rfl, if_pos hlong]
      have hV : downV x m = [] := downV_no (by rw [hE]; decide)
      rw [hE, hV]
      clear hE hV
      go_enter Try.func12, Try.ntmps12
      go_wp2_with (go_at_call 24; refine (mr_permitted _ _).mono ?_; rintro e w' ⟨rfl, rfl⟩)
      go_ret2
      exact RetInts.mk Own.nil (Below.refl _ _)
    · have hE : downE x.length m = 0 := by unfold downE; rw [hp, if_pos rfl, if_neg hlong]
      have hV : downV x m = everyF x 0 m := downV_of hE
      rw [hE, hV]
      clear hE hV
      go_enter Try.func12, Try.ntmps12
      go_wp2_with (first
        | (go_at_call 24; refine (mr_permitted _ _).mono ?_; rintro e w' ⟨rfl, rfl⟩)
        | (go_at_call 28; refine (mr_every A x c 0 m _ (by omega) h (by omega) (by omega) (by omega)).mono ?_; rintro e w1 ⟨v, rfl, hown, hb⟩))
      go_ret2
      exact RetInts.mk hown hb
  · have hE : downE x.length M = 20 := by unfold downE; rw [hp, if_neg (by decide)]
    have hV : downV x M = [] := downV_no (by rw [hE]; decide)
    rw [hE, hV]
    clear hE hV
    go_enter Try.func12, Try.ntmps12
    go_wp2_with (go_at_call 24; refine (mr_permitted _ _).mono ?_; rintro e w' ⟨rfl, rfl⟩)
    go_ret2
    exact RetInts.mk Own.nil (Below.refl _ _)
set_option maxHeartbeats 1000000 in
theorem rf32_Down (A : Option Addr) (x : List Int) (c : Nat) (M : Int) (w : World) (hx : x.length ≤ 9223372036854775807) (h : Ints w A x) :
    Calls Try.prog 37 #[.slice A x.length c, .int .i64 M] w (RetInts w (downV x M) (downE x.length M)) := by
  rcases Bool.eq_false_or_eq_true (inB M 1 12) with hp | hp
  · obtain ⟨l1, l2⟩ := inB_iff.1 hp
    obtain ⟨m, rfl⟩ := Int.eq_ofNat_of_zero_le (by omega : 0 ≤ M)
    by_cases hlong : 4096 < x.length
    · have hE : downE x.length m = 4 := by unfold downE; rw [hp, if_pos rfl, if_pos hlong]
      have hV : downV x m = [] := downV_no (by rw [hE]; decide)
      rw [hE, hV]
      clear hE hV
      go_enter Try.func37, Try.ntmps37
      go_wp2_with (go_at_call 32; refine (rf_factor _ _).mono ?_; rintro e w' ⟨rfl, rfl⟩)
      go_ret2
      exact RetInts.mk Own.nil (Below.refl _ _)
    · have hE : downE x.length m = 0 := by unfold downE; rw [hp, if_pos rfl, if_neg hlong]
      have hV : downV x m = everyF x 0 m := downV_of hE
      rw [hE, hV]
      clear hE hV
      go_enter Try.func37, Try.ntmps37
      go_wp2_with (go_at_call 32; refine (rf_factor _ _).mono ?_; rintro e w' ⟨rfl, rfl⟩)
      go_loopw [6, 7] (fun v i wr => ∃ k p : Nat, k ≤ cnt x.length 0 m ∧ i = .int .i64 p ∧ Hid (p = 0 + k * m) ∧ p ≤ 3000000 ∧ Own w.heap.size wr v (everyN x 0 m k) ∧ Below w.heap.size w wr) (fun _ i _ => 3000000 - (intOf i).toNat)
      case atStart => exact ⟨0, 0, Nat.zero_le _, rfl, by show 0 = _; omega, by omega, Own.nil, Below.refl _ _⟩
      case round =>
        obtain ⟨k, p, hk, rfl, HP, hp', hown, hbw⟩ := hrel
        by_cases hlt : p < x.length
        · have hxw : Ints wr A x := h.grow hbw
          obtain ⟨ad, y, rfl, ba, hy, ca, i1, i2⟩ := hxw.at_ hlt
          have hkc : k < cnt x.length 0 m := (cnt_iff (by omega)).1 (by rw [← HP.out]; exact hlt)
          have HS := Lib.hid (everyN_succ (fr := 0) (m := m) (k := k) (by rw [← HP.out]; exact hy))
          have hlen' : (everyN x 0 m k).length < 100000000 := by rw [everyN_length]; have := cnt_le x.length 0 m (by omega); omega
          have hI : I64 y := ⟨i1, i2⟩
          have hsz := hbw.size
          have HP2 : Hid (p + m = 0 + (k + 1) * m) := by have := HP.out; show _ = _; rw [Nat.add_mul]; omega
          clear hy hxw
          go_wp2_with (at_builtin; refine app_int wr rfl _ _ rfl w.heap.size hown rfl rfl hlen' hsz hI ?_; intro v1 w1 hown1 hbel1)
          go_roundw
          case rel => exact ⟨k + 1, p + m, by omega, by go_num, HP2, by omega, by rw [HS.out]; exact hown1, hbw.trans hbel1⟩
          case measure => simp [intOf]; omega
        · have hkc : k = cnt x.length 0 m := by
            have hn : ¬ k < cnt x.length 0 m := fun hc => hlt (by rw [HP.out]; exact (cnt_iff (n := x.length) (fr := 0) (k := k) (by omega)).2 hc)
            omega
          go_wp2
          go_ret2
          subst hkc
          exact RetInts.mk hown hbw
  · have hE : downE x.length M = 20 := by unfold downE; rw [hp, if_neg (by decide)]
    have hV : downV x M = [] := downV_no (by rw [hE]; decide)
    rw [hE, hV]
    clear hE hV
    go_enter Try.func37, Try.ntmps37
    go_wp2_with (go_at_call 32; refine (rf_factor _ _).mono ?_; rintro e w' ⟨rfl, rfl⟩)
    go_ret2
    exact RetInts.mk Own.nil (Below.refl _ _)
end Go.Proofs.Ytlomhaabiodofaa
