/- The walks of package multirate and of its reference: Up, Down. -/
import Derived.Test.YtlomhaabiodofaaK
import Derived.Test.YtlomhaabiodofaaSm
import Derived.Test.YtlomhaabiodofaaMp
namespace Go.Proofs.Ytlomhaabiodofaa
open Go.RowKit

theorem mr_permitted (m : Int) (w : World) : Calls Try.prog 24 #[.int .i64 m] w fun e w' => e = .returned (.bool (inB m 1 12)) ∧ w = w' := by
  go_enter Try.func24, Try.ntmps24
  go_wp2
  all_goals go_ret
  all_goals exact ⟨ret_bool (by rw [Bool.eq_iff_iff]; simp [inB]; omega), rfl⟩
theorem rf_factor (m : Int) (w : World) : Calls Try.prog 32 #[.int .i64 m] w fun e w' => e = .returned (.bool (inB m 1 12)) ∧ w = w' := by
  go_enter Try.func32, Try.ntmps32
  go_wp2_with (go_at_call 47; refine (rf_In _ _ _ _).mono ?_; rintro e w' ⟨rfl, rfl⟩)
  go_ret
  exact ⟨rfl, rfl⟩
set_option maxHeartbeats 1000000 in
theorem mr_Up (A : Option Addr) (x : List Int) (c : Nat) (L : Int) (w : World) (hx : x.length ≤ 9223372036854775807) (h : Ints w A x) :
    Calls Try.prog 10 #[.slice A x.length c, .int .i64 L] w (RetInts w (upV x L) (upE x.length L)) := by
  rcases Bool.eq_false_or_eq_true (inB L 1 12) with hp | hp
  · obtain ⟨l1, l2⟩ := inB_iff.1 hp
    obtain ⟨l, rfl⟩ := Int.eq_ofNat_of_zero_le (by omega : 0 ≤ L)
    by_cases hlong : 4096 < x.length
    · have hE : upE x.length l = 4 := by unfold upE; rw [hp, if_pos rfl, if_pos (.inl hlong)]
      have hV : upV x l = [] := upV_no (by rw [hE]; decide)
      rw [hE, hV]
      clear hE hV
      go_enter Try.func10, Try.ntmps10
      go_wp2_with (go_at_call 24; refine (mr_permitted _ _).mono ?_; rintro e w' ⟨rfl, rfl⟩)
      go_ret2
      exact RetInts.mk Own.nil (Below.refl _ _)
    · have hmul : (l : Int) * x.length = ((l * x.length : Nat) : Int) := (Int.natCast_mul _ _).symm
      have hw : wrap64 ((l : Int) * x.length) = ((l * x.length : Nat) : Int) := by
        have := mul_bound (x := (l : Int)) (y := (x.length : Int)) (B := 12) (C := 4096) (by omega) (by omega)
        rw [hmul, Int.natCast_mul]; exact w64_in (by omega) (by omega)
      obtain ⟨n, hn⟩ : ∃ n, l * x.length = n := ⟨_, rfl⟩
      rw [hn] at hw
      clear hmul
      by_cases hbig : 4096 < n
      · have hE : upE x.length l = 4 := by unfold upE; rw [hp, if_pos rfl, if_pos (.inr (by rw [← Int.natCast_mul, hn]; omega))]
        have hV : upV x l = [] := upV_no (by rw [hE]; decide)
        rw [hE, hV]
        clear hE hV hn
        go_enter Try.func10, Try.ntmps10
        go_wp2_with (go_at_call 24; refine (mr_permitted _ _).mono ?_; rintro e w' ⟨rfl, rfl⟩)
        all_goals try (exfalso; omega)
        all_goals go_ret2
        all_goals exact RetInts.mk Own.nil (Below.refl _ _)
      · have hE : upE x.length l = 0 := by unfold upE; rw [hp, if_pos rfl, if_neg (by rw [← Int.natCast_mul, hn]; omega)]
        have hV : upV x l = upF x l := upV_of hE
        rw [hE, hV]
        have HN := Lib.hid hn
        have hn1 : n ≤ 100000000 := by omega
        clear hE hV hn
        go_enter Try.func10, Try.ntmps10
        go_wp2_with (first
          | (go_at_call 24; refine (mr_permitted _ _).mono ?_; rintro e w' ⟨rfl, rfl⟩)
          | (at_make; refine mk_int rfl _ _ rfl w.heap.size n rfl rfl hw hn1 (Nat.le_refl _) ?_; intro w1 hown1 hb1))
        all_goals try (exfalso; omega)
        have hown0 : Own w.heap.size w1 (.slice (some ⟨w.heap.size, 0, none⟩) n n) (upN x l 0) := by rw [upN_zero, HN.out]; exact hown1
        have hz1 := hown1.block
        clear hown1
        go_loopw [29] (fun i wr => ∃ k : Nat, k ≤ x.length ∧ i = .int .i64 k ∧ Own w.heap.size wr (.slice (some ⟨w.heap.size, 0, none⟩) n n) (upN x l k) ∧ Below w.heap.size w wr) (fun i _ => x.length - (intOf i).toNat)
        case atStart => exact ⟨0, Nat.zero_le _, rfl, hown0, hb1⟩
        case round =>
          obtain ⟨k, hk, rfl, hown, hbw⟩ := hrel
          by_cases hlt : k < x.length
          · have hxw : Ints wr A x := h.grow hbw
            obtain ⟨ad, y, rfl, ba, hy, ca, i1, i2⟩ := hxw.at_ hlt
            have HU := Lib.hid (upN_succ (l := l) (by omega) hy)
            have hkl : k * l < n := by
              have := HN.out
              rw [← this, Nat.mul_comm l]
              exact Nat.mul_lt_mul_of_pos_right hlt (by omega)
            have hm : wrap64 ((k : Int) * l) = ((k * l : Nat) : Int) := by rw [← Int.natCast_mul]; exact w64_in (by omega) (by omega)
            have hlen := upN_length x l k
            obtain ⟨q, hq⟩ : ∃ q, k * l = q := ⟨_, rfl⟩
            rw [hq] at hm hkl
            have HQ := Lib.hid hq
            obtain ⟨z, hz⟩ : ∃ z, (upN x l k)[q]? = some z := ⟨_, List.getElem?_eq_getElem (by rw [hlen, HN.out]; exact hkl)⟩
            have cz := hown.cell hz
            have cf := hown.free q
            have hset := hown.set q (y := y) ⟨i1, i2⟩
            have HSET := Lib.hid hset
            clear hy hown hset hq hlen hz hxw
            go_wp2
            go_roundw
            case rel => exact ⟨k + 1, by omega, by go_num, by rw [HU.out, HQ.out]; exact HSET.out, hbw.setCell (Nat.le_refl _) _⟩
            case measure => simp [intOf]; omega
          · go_wp2
            go_ret2
            obtain rfl : k = x.length := by omega
            exact RetInts.mk hown hbw
  · have hE : upE x.length L = 20 := by unfold upE; rw [hp, if_neg (by decide)]
    have hV : upV x L = [] := upV_no (by rw [hE]; decide)
    rw [hE, hV]
    clear hE hV
    go_enter Try.func10, Try.ntmps10
    go_wp2_with (go_at_call 24; refine (mr_permitted _ _).mono ?_; rintro e w' ⟨rfl, rfl⟩)
    go_ret2
    exact RetInts.mk Own.nil (Below.refl _ _)
set_option maxHeartbeats 1000000 in
theorem rf32_Up (A : Option Addr) (x : List Int) (c : Nat) (L : Int) (w : World) (hx : x.length ≤ 9223372036854775807) (h : Ints w A x) :
    Calls Try.prog 34 #[.slice A x.length c, .int .i64 L] w (RetInts w (upV x L) (upE x.length L)) := by
  rcases Bool.eq_false_or_eq_true (inB L 1 12) with hp | hp
  · obtain ⟨l1, l2⟩ := inB_iff.1 hp
    obtain ⟨l, rfl⟩ := Int.eq_ofNat_of_zero_le (by omega : 0 ≤ L)
    by_cases hlong : 4096 < x.length
    · have hE : upE x.length l = 4 := by unfold upE; rw [hp, if_pos rfl, if_pos (.inl hlong)]
      have hV : upV x l = [] := upV_no (by rw [hE]; decide)
      rw [hE, hV]
      clear hE hV
      go_enter Try.func34, Try.ntmps34
      go_wp2_with (go_at_call 32; refine (rf_factor _ _).mono ?_; rintro e w' ⟨rfl, rfl⟩)
      go_ret2
      exact RetInts.mk Own.nil (Below.refl _ _)
    · have hmul : (x.length : Int) * l = ((l * x.length : Nat) : Int) := by rw [Int.natCast_mul, Int.mul_comm]
      have hw : wrap64 ((x.length : Int) * l) = ((l * x.length : Nat) : Int) := by
        have := mul_bound (x := (l : Int)) (y := (x.length : Int)) (B := 12) (C := 4096) (by omega) (by omega)
        rw [hmul, Int.natCast_mul]; exact w64_in (by omega) (by omega)
      obtain ⟨n, hn⟩ : ∃ n, l * x.length = n := ⟨_, rfl⟩
      rw [hn] at hw
      clear hmul
      by_cases hbig : 4096 < n
      · have hE : upE x.length l = 4 := by unfold upE; rw [hp, if_pos rfl, if_pos (.inr (by rw [← Int.natCast_mul, hn]; omega))]
        have hV : upV x l = [] := upV_no (by rw [hE]; decide)
        rw [hE, hV]
        clear hE hV hn
        go_enter Try.func34, Try.ntmps34
        go_wp2_with (go_at_call 32; refine (rf_factor _ _).mono ?_; rintro e w' ⟨rfl, rfl⟩)
        all_goals try (exfalso; omega)
        all_goals go_ret2
        all_goals exact RetInts.mk Own.nil (Below.refl _ _)
      · have hE : upE x.length l = 0 := by unfold upE; rw [hp, if_pos rfl, if_neg (by rw [← Int.natCast_mul, hn]; omega)]
        have hV : upV x l = upF x l := upV_of hE
        rw [hE, hV]
        have HN := Lib.hid hn
        have hn1 : n ≤ 100000000 := by omega
        clear hE hV hn
        go_enter Try.func34, Try.ntmps34
        go_wp2_with (first
          | (go_at_call 32; refine (rf_factor _ _).mono ?_; rintro e w' ⟨rfl, rfl⟩)
          | (at_make; refine mk_int rfl _ _ rfl w.heap.size n rfl rfl hw hn1 (Nat.le_refl _) ?_; intro w1 hown1 hb1))
        all_goals try (exfalso; omega)
        have hown0 : Own w.heap.size w1 (.slice (some ⟨w.heap.size, 0, none⟩) n n) (upN x l 0) := by rw [upN_zero, HN.out]; exact hown1
        have hz1 := hown1.block
        clear hown1
        go_loopw [7] (fun i wr => ∃ k : Nat, k ≤ x.length ∧ i = .int .i64 k ∧ Own w.heap.size wr (.slice (some ⟨w.heap.size, 0, none⟩) n n) (upN x l k) ∧ Below w.heap.size w wr) (fun i _ => x.length - (intOf i).toNat)
        case atStart => exact ⟨0, Nat.zero_le _, rfl, hown0, hb1⟩
        case round =>
          obtain ⟨k, hk, rfl, hown, hbw⟩ := hrel
          by_cases hlt : k < x.length
          · have hxw : Ints wr A x := h.grow hbw
            obtain ⟨ad, y, rfl, ba, hy, ca, i1, i2⟩ := hxw.at_ hlt
            have HU := Lib.hid (upN_succ (l := l) (by omega) hy)
            have hkl : k * l < n := by
              have := HN.out
              rw [← this, Nat.mul_comm l]
              exact Nat.mul_lt_mul_of_pos_right hlt (by omega)
            have hm : wrap64 ((k : Int) * l) = ((k * l : Nat) : Int) := by rw [← Int.natCast_mul]; exact w64_in (by omega) (by omega)
            have hlen := upN_length x l k
            obtain ⟨q, hq⟩ : ∃ q, k * l = q := ⟨_, rfl⟩
            rw [hq] at hm hkl
            have HQ := Lib.hid hq
            obtain ⟨z, hz⟩ : ∃ z, (upN x l k)[q]? = some z := ⟨_, List.getElem?_eq_getElem (by rw [hlen, HN.out]; exact hkl)⟩
            have cz := hown.cell hz
            have cf := hown.free q
            have hset := hown.set q (y := y) ⟨i1, i2⟩
            have HSET := Lib.hid hset
            clear hy hown hset hq hlen hz hxw
            go_wp2
            go_roundw
            case rel => exact ⟨k + 1, by omega, by go_num, by rw [HU.out, HQ.out]; exact HSET.out, hbw.setCell (Nat.le_refl _) _⟩
            case measure => simp [intOf]; omega
          · go_wp2
            go_ret2
            obtain rfl : k = x.length := by omega
            exact RetInts.mk hown hbw
  · have hE : upE x.length L = 20 := by unfold upE; rw [hp, if_neg (by decide)]
    have hV : upV x L = [] := upV_no (by rw [hE]; decide)
    rw [hE, hV]
    clear hE hV
    go_enter Try.func34, Try.ntmps34
    go_wp2_with (go_at_call 32; refine (rf_factor _ _).mono ?_; rintro e w' ⟨rfl, rfl⟩)
    go_ret2
    exact RetInts.mk Own.nil (Below.refl _ _)
end Go.Proofs.Ytlomhaabiodofaa
