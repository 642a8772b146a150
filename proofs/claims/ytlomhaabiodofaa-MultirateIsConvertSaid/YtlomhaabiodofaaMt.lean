/- The walks of Expand and of its reference. -/
import Derived.Test.YtlomhaabiodofaaMr
import Derived.Test.YtlomhaabiodofaaMs
import Derived.Test.YtlomhaabiodofaaZ
namespace Go.Proofs.Ytlomhaabiodofaa
open Go.RowKit

set_option maxRecDepth 100000 in
set_option maxHeartbeats 1000000 in
theorem mr_Expand (A : Option Addr) (x : List Int) (c : Nat) (M : Int) (w : World) (hx : x.length ≤ 9223372036854775807) (h : Ints w A x) :
    Calls Try.prog 15 #[.slice A x.length c, .int .i64 M] w (RetInts w (expV x M) (expE x.length M)) := by
  rcases Bool.eq_false_or_eq_true (inB M 1 12) with hp | hp
  · obtain ⟨l1, l2⟩ := inB_iff.1 hp
    obtain ⟨m, rfl⟩ := Int.eq_ofNat_of_zero_le (by omega : 0 ≤ M)
    by_cases hlong : 4096 < x.length
    · have hE : expE x.length m = 4 := by unfold expE; rw [hp, if_pos rfl, if_pos (.inl hlong)]
      have hV : expV x m = [] := expV_no (by rw [hE]; decide)
      rw [hE, hV]
      clear hE hV
      go_enter Try.func15, Try.ntmps15
      go_wp2_with (go_at_call 24; refine (mr_permitted _ _).mono ?_; rintro e w' ⟨rfl, rfl⟩)
      go_ret2
      exact RetInts.mk Own.nil (Below.refl _ _)
    by_cases h0 : x.length = 0
    · have hE : expE x.length m = 0 := by unfold expE; rw [hp, if_pos rfl, if_neg (by rw [h0]; omega)]
      have hV : expV x m = [] := by rw [expV_of hE, List.eq_nil_of_length_eq_zero h0]; rfl
      rw [hE, hV]
      clear hE hV
      go_enter Try.func15, Try.ntmps15
      go_wp2_with (go_at_call 24; refine (mr_permitted _ _).mono ?_; rintro e w' ⟨rfl, rfl⟩)
      all_goals try (exfalso; omega)
      go_ret2
      exact RetInts.mk Own.nil (Below.refl _ _)
    obtain ⟨P, hP⟩ : ∃ P, (x.length - 1) * m = P := ⟨_, rfl⟩
    have hmul : ((x.length : Int) - 1) * m = (P : Int) := by rw [← hP, Int.natCast_mul, Int.natCast_sub (by omega)]; rfl
    have hPb : P ≤ 4096 * 12 := by rw [← hP]; exact Nat.mul_le_mul (by omega) (by omega)
    have hL : exLen m x.length = P + 1 := by unfold exLen; rw [if_neg h0, hP]
    by_cases hbig : 4096 < P + 1
    · have hE : expE x.length m = 4 := by unfold expE; rw [hp, if_pos rfl, if_pos (.inr (by rw [hmul]; omega))]
      have hV : expV x m = [] := expV_no (by rw [hE]; decide)
      rw [hE, hV]
      clear hE hV hP hL
      go_enter Try.func15, Try.ntmps15
      go_wp2_with (go_at_call 24; refine (mr_permitted _ _).mono ?_; rintro e w' ⟨rfl, rfl⟩)
      all_goals try (exfalso; omega)
      go_ret2
      exact RetInts.mk Own.nil (Below.refl _ _)
    have hE : expE x.length m = 0 := by unfold expE; rw [hp, if_pos rfl, if_neg (by rw [hmul]; omega)]
    have hV : expV x m = gridN x m x.length := by rw [expV_of hE, gridN_all (by omega)]
    rw [hE, hV]
    obtain ⟨n, hn⟩ : ∃ n, P + 1 = n := ⟨_, rfl⟩
    have hN1 : (P : Int) + 1 = (n : Int) := by omega
    rw [hn] at hL
    have HL := Lib.hid hL
    have hnb : n ≤ 100000000 := by omega
    clear hE hV hP hL
    go_enter Try.func15, Try.ntmps15
    go_wp2_with (first
      | (go_at_call 24; refine (mr_permitted _ _).mono ?_; rintro e w' ⟨rfl, rfl⟩)
      | (at_make; refine mk_int rfl _ _ rfl w.heap.size n rfl rfl (by omega) hnb (Nat.le_refl _) ?_; intro w1 hown1 hb1))
    all_goals try (exfalso; omega)
    have hown0 : Own w.heap.size w1 (.slice (some ⟨w.heap.size, 0, none⟩) n n) (gridN x m 0) := by rw [gridN_zero, HL.out]; exact hown1
    clear hown1
    go_loopw [31] (fun i wr => ∃ k : Nat, k ≤ x.length ∧ i = .int .i64 k ∧ Own w.heap.size wr (.slice (some ⟨w.heap.size, 0, none⟩) n n) (gridN x m k) ∧ Below w.heap.size w wr) (fun i _ => x.length - (intOf i).toNat)
    case atStart => exact ⟨0, Nat.zero_le _, rfl, hown0, hb1⟩
    case round =>
      obtain ⟨k, hk, rfl, hown, hbw⟩ := hrel
      by_cases hlt : k < x.length
      · have hxw : Ints wr A x := h.grow hbw
        obtain ⟨ad, y, rfl, ba, hy, ca, i1, i2⟩ := hxw.at_ hlt
        have HU := Lib.hid (gridN_succ (m := m) (by omega) hy)
        have hkl : k * m < n := by have := exLen_lt (m := m) hlt; rw [HL.out] at this; exact this
        have hm : (k : Int) * m = ((k * m : Nat) : Int) := (Int.natCast_mul _ _).symm
        have hlen := gridN_length x m k
        obtain ⟨q, hq⟩ : ∃ q, k * m = q := ⟨_, rfl⟩
        rw [hq] at hm hkl
        have HQ := Lib.hid hq
        obtain ⟨z, hz⟩ : ∃ z, (gridN x m k)[q]? = some z := ⟨_, List.getElem?_eq_getElem (by rw [hlen, HL.out]; exact hkl)⟩
        have cz := hown.cell hz
        have cf := hown.free q
        have HSET := Lib.hid (hown.set q (y := y) ⟨i1, i2⟩)
        clear hy hown hq hlen hz hxw hmul
        go_wp2
        all_goals try (exfalso; omega)
        go_roundw
        case rel => exact ⟨k + 1, by omega, by go_num, by rw [HU.out, HQ.out]; exact HSET.out, hbw.setCell (Nat.le_refl _) _⟩
        case measure => simp [intOf]; omega
      · go_wp2
        go_ret2
        obtain rfl : k = x.length := by omega
        exact RetInts.mk hown hbw
  · have hE : expE x.length M = 20 := by unfold expE; rw [hp, if_neg (by decide)]
    have hV : expV x M = [] := expV_no (by rw [hE]; decide)
    rw [hE, hV]
    clear hE hV
    go_enter Try.func15, Try.ntmps15
    go_wp2_with (go_at_call 24; refine (mr_permitted _ _).mono ?_; rintro e w' ⟨rfl, rfl⟩)
    go_ret2
    exact RetInts.mk Own.nil (Below.refl _ _)
end Go.Proofs.Ytlomhaabiodofaa
