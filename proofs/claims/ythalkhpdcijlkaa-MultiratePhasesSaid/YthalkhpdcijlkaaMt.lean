/- The walks of Expand and of its reference. -/
import Derived.Test.YthalkhpdcijlkaaMr
import Derived.Test.YthalkhpdcijlkaaMs
import Derived.Test.YthalkhpdcijlkaaZ
namespace Go.Proofs.Ythalkhpdcijlkaa
open Go.RowKit

set_option maxRecDepth 100000 in
set_option maxHeartbeats 1000000 in
theorem mr_Expand (A : Option Addr) (x : List Int) (c : Nat) (M : Int) (w : World) (hx : x.length ≤ 9223372036854775807) (h : Ints w A x) :
    Calls Try.prog 16 #[.slice A x.length c, .int .i64 M] w (RetInts w (expV x M) (expE x.length M)) := by
  rcases Bool.eq_false_or_eq_true (inB M 1 12) with hp | hp
  · obtain ⟨l1, l2⟩ := inB_iff.1 hp
    obtain ⟨m, rfl⟩ := Int.eq_ofNat_of_zero_le (by omega : 0 ≤ M)
    by_cases hlong : 4096 < x.length
    · have hE : expE x.length m = 4 := by unfold expE; rw [hp, if_pos rfl, if_pos (.inl hlong)]
      have hV : expV x m = [] := expV_no (by rw [hE]; decide)
      rw [hE, hV]
      clear hE hV
      go_enter Try.func16, Try.ntmps16
      go_wp2_with (go_at_call 24; refine (mr_permitted _ _).mono ?_; rintro e w' ⟨rfl, rfl⟩)
      go_ret2
      exact RetInts.mk Own.nil (Below.refl _ _)
    by_cases h0 : x.length = 0
    · have hE : expE x.length m = 0 := by unfold expE; rw [hp, if_pos rfl, if_neg (by rw [h0]; omega)]
      have hV : expV x m = [] := by rw [expV_of hE, List.eq_nil_of_length_eq_zero h0]; rfl
      rw [hE, hV]
      clear hE hV
      go_enter Try.func16, Try.ntmps16
      go_wp2_with (go_at_call 24; refine (mr_permitted _ _).mono ?_; rintro e w' ⟨rfl, rfl⟩)
      all_goals try (exfalso; omega)
      go_ret2
      exact RetInts.mk Own.nil (Below.refl _ _)
    obtain ⟨P, hP⟩ : ∃ P, (x.length - 1) * m = P := ⟨_, rfl⟩
    have hmul : ((x.length : Int) - 1) * m = (P : Int) := by rw [← hP, Int.natCast_mul, Int.natCast_sub (by omega)]; rfl
    have hPb : P ≤ 4096 * 12 := by rw [← hP]; exact Nat.mul_le_mul (by omega) (by omega)
    have hL : exLen m x.length = P + 1 := by unfold exLen; rw [if_neg h0, hP]
    by_cases hbig : 4096 < P + 1
    · have hE : expE x.length m = 4 := by unfold expE; rw [hp, if_pos rfl, if_pos (.inr (by rw [hmul]; omega))]
      have hV : expV x m = [] := expV_no (by rw [hE]; decide)
      rw [hE, hV]
      clear hE hV hP hL
      go_enter Try.func16, Try.ntmps16
      go_wp2_with (go_at_call 24; refine (mr_permitted _ _).mono ?_; rintro e w' ⟨rfl, rfl⟩)
      all_goals try (exfalso; omega)
      go_ret2
      exact RetInts.mk Own.nil (Below.refl _ _)
    have hE : expE x.length m = 0 := by unfold expE; rw [hp, if_pos rfl, if_neg (by rw [hmul]; omega)]
    have hV : expV x m = gridN x m x.length := by rw [expV_of hE, gridN_all (by omega)]
    rw [hE, hV]
    obtain ⟨n, hn⟩ : ∃ n, P + 1 = n := ⟨_, rfl⟩
    have hN1 : (P : Int) + 1 = (n : Int) := by omega
    rw [hn] at hL
    have HL := Lib.hid hL
    have hnb : n ≤ 100000000 := by omega
    clear hE hV hP hL
    go_enter Try.func16, Try.ntmps16
    go_wp2_with (first
      | (go_at_call 24; refine (mr_permitted _ _).mono ?_; rintro e w' ⟨rfl, rfl⟩)
      | (at_make; refine mk_int rfl _ _ rfl w.heap.size n rfl rfl (by omega) hnb (Nat.le_refl _) ?_; intro w1 hown1 hb1))
    all_goals try (exfalso; omega)
    have hown0 : Own w.heap.size w1 (.slice (some ⟨w.heap.size, 0, none⟩) n n) (gridN x m 0) := by rw [gridN_zero, HL.out]; exact hown1
    clear hown1
    go_loopw [31] (fun i wr => ∃ k : Nat, k ≤ x.length ∧ i = .int .i64 k ∧ Own w.heap.size wr (.slice (some ⟨w.heap.size, 0, none⟩) n n) (gridN x m k) ∧ Below w.heap.size w wr) (fun i _ => x.length - (intOf i).toNat)
    case atStart => exact ⟨0, Nat.zero_le _, rfl, hown0, hb1⟩
    case round =>
      obtain ⟨k, hk, rfl, hown, hbw⟩ := hrel
      by_cases hlt : k < x.length
      · have hxw : Ints wr A x := h.grow hbw
        obtain ⟨ad, y, rfl, ba, hy, ca, i1, i2⟩ := hxw.at_ hlt
        have HU := Lib.hid (gridN_succ (m := m) (by omega) hy)
        have hkl : k * m < n := by have := exLen_lt (m := m) hlt; rw [HL.out] at this; exact this
        have hm : (k : Int) * m = ((k * m : Nat) : Int) := (Int.natCast_mul _ _).symm
        have hlen := gridN_length x m k
        obtain ⟨q, hq⟩ : ∃ q, k * m = q := ⟨_, rfl⟩
        rw [hq] at hm hkl
        have HQ := Lib.hid hq
        obtain ⟨z, hz⟩ : ∃ z, (gridN x m k)[q]? = some z := ⟨_, List.getElem?_eq_getElem (by rw [hlen, HL.out]; exact hkl)⟩
        have cz := hown.cell hz
        have cf := hown.free q
        have HSET := Lib.hid (hown.set q (y := y) ⟨i1, i2⟩)
        clear hy hown hq hlen hz hxw hmul
        go_wp2
        all_goals try (exfalso; omega)
        go_roundw
        case rel => exact ⟨k + 1, by omega, by go_num, by rw [HU.out, HQ.out]; exact HSET.out, hbw.setCell (Nat.le_refl _) _⟩
        case measure => simp [intOf]; omega
      · go_wp2
        go_ret2
        obtain rfl : k = x.length := by omega
        exact RetInts.mk hown hbw
  · have hE : expE x.length M = 20 := by unfold expE; rw [hp, if_neg (by decide)]
    have hV : expV x M = [] := expV_no (by rw [hE]; decide)
    rw [hE, hV]
    clear hE hV
    go_enter Try.func16, Try.ntmps16
    go_wp2_with (go_at_call 24; refine (mr_permitted _ _).mono ?_; rintro e w' ⟨rfl, rfl⟩)
    go_ret2
    exact RetInts.mk Own.nil (Below.refl _ _)
set_option maxRecDepth 100000 in
set_option maxHeartbeats 1000000 in
theorem rf32_Expand (A : Option Addr) (x : List Int) (c : Nat) (M : Int) (w : World) (hx : x.length ≤ 9223372036854775807) (h : Ints w A x) :
    Calls Try.prog 17 #[.slice A x.length c, .int .i64 M] w (RetInts w (expV x M) (expE x.length M)) := by
  rcases Bool.eq_false_or_eq_true (inB M 1 12) with hp | hp
  · obtain ⟨l1, l2⟩ := inB_iff.1 hp
    obtain ⟨m, rfl⟩ := Int.eq_ofNat_of_zero_le (by omega : 0 ≤ M)
    by_cases hlong : 4096 < x.length
    · have hE : expE x.length m = 4 := by unfold expE; rw [hp, if_pos rfl, if_pos (.inl hlong)]
      have hV : expV x m = [] := expV_no (by rw [hE]; decide)
      rw [hE, hV]
      clear hE hV
      go_enter Try.func17, Try.ntmps17
      go_wp2_with (go_at_call 26; refine (rf_factor _ _).mono ?_; rintro e w' ⟨rfl, rfl⟩)
      all_goals try (exfalso; omega)
      go_ret2
      exact RetInts.mk Own.nil (Below.refl _ _)
    obtain ⟨P, hmul⟩ : ∃ P : Int, ((x.length : Int) - 1) * m = P := ⟨_, rfl⟩
    have hPb : -12 ≤ P ∧ P ≤ 49152 := by
      have := mul_bound (x := (x.length : Int) - 1) (y := (m : Int)) (B := 4096) (C := 12) (by omega) (by omega)
      rw [hmul] at this
      refine ⟨?_, by omega⟩
      rw [← hmul]
      rcases Nat.eq_zero_or_pos x.length with h0 | h0
      · rw [h0]; simp; omega
      · have : 0 ≤ ((x.length : Int) - 1) * m := Int.mul_nonneg (by omega) (by omega)
        omega
    by_cases hbig : 4096 < P + 1
    · have hE : expE x.length m = 4 := by unfold expE; rw [hp, if_pos rfl, if_pos (.inr (by rw [hmul]; omega))]
      have hV : expV x m = [] := expV_no (by rw [hE]; decide)
      rw [hE, hV]
      clear hE hV
      go_enter Try.func17, Try.ntmps17
      go_wp2_with (go_at_call 26; refine (rf_factor _ _).mono ?_; rintro e w' ⟨rfl, rfl⟩)
      all_goals try (exfalso; omega)
      all_goals go_ret2
      all_goals exact RetInts.mk Own.nil (Below.refl _ _)
    have hE : expE x.length m = 0 := by unfold expE; rw [hp, if_pos rfl, if_neg (by rw [hmul]; omega)]
    have hV : expV x m = expF x m := expV_of hE
    rw [hE, hV]
    have hlx : exLen m x.length ≤ 4096 := by
      unfold exLen
      split
      · omega
      · have : (((x.length - 1) * m : Nat) : Int) = P := by rw [← hmul, Int.natCast_mul, Int.natCast_sub (by omega)]; rfl
        omega
    have hN1 : (m : Int) - 1 = ((m - 1 : Nat) : Int) := by omega
    clear hE hV
    go_enter Try.func17, Try.ntmps17
    go_wp2_with (go_at_call 26; refine (rf_factor _ _).mono ?_; rintro e w' ⟨rfl, rfl⟩)
    all_goals try (exfalso; omega)
    clear hmul hPb hbig
    go_loopw [6, 7] (fun v i wr => ∃ k : Nat, k ≤ x.length ∧ i = .int .i64 k ∧ Own w.heap.size wr v (exN x m k) ∧ Below w.heap.size w wr) (fun _ i _ => x.length - (intOf i).toNat)
    case atStart => exact ⟨0, Nat.zero_le _, rfl, Own.nil, Below.refl _ _⟩
    case round =>
      obtain ⟨k, hk, rfl, hown, hbw⟩ := hrel
      by_cases hlt : k < x.length
      · obtain ⟨ad, y, rfl, ba, hy, ca0, i1, i2⟩ := h.at_ hlt
        have ca := (hbw.cell (by rw [block_add]; exact ba)).trans ca0
        have CA := Lib.hid ca0
        have BA := Lib.hid ba
        have hI : I64 y := ⟨i1, i2⟩
        have hsz := hbw.size
        rcases Nat.eq_zero_or_pos k with hk0 | hk0
        · subst hk0
          have HS := Lib.hid (exN_one (m := m) hy)
          have ca : wr.cell? ad = some (.int .i64 y) := by simpa [Addr.add] using ca
          have hlen' : (exN x m 0).length < 100000000 := by rw [exN_length]; simp [exLen]
          clear hy h ca0
          go_wp2_with (at_builtin; refine app_int wr rfl _ _ rfl w.heap.size hown rfl rfl hlen' hsz hI ?_; intro v1 w1 hown1 hbel1)
          all_goals try (exfalso; omega)
          go_roundw
          case rel => exact ⟨1, by omega, by go_num, by rw [HS.out]; exact hown1, hbw.trans hbel1⟩
          case measure => simp [intOf]; omega
        · have HS := Lib.hid (exN_succ (m := m) (by omega) hk0 hy)
          have hmono : exLen m k ≤ 4096 := by
            have : exLen m k ≤ exLen m x.length := by
              unfold exLen
              rw [if_neg (by omega), if_neg (by omega)]
              have : (k - 1) * m ≤ (x.length - 1) * m := Nat.mul_le_mul_right _ (by omega)
              omega
            omega
          have hlz : (exN x m k).length + (m - 1) ≤ 1000000 := by rw [exN_length]; omega
          have hlen' : (exN x m k ++ List.replicate (m - 1) 0).length < 100000000 := by rw [List.length_append, exN_length, List.length_replicate]; omega
          clear hy hmono h ca0
          go_wp2_with (first
            | (at_builtin; refine zeros_int rfl _ _ rfl w.heap.size (m - 1) hown rfl rfl rfl hlz hsz ?_; intro v1 w1 hown1 hbel1; have hbw2 := hbw.trans hbel1; have hsz2 := hbw2.size; obtain ca2 : w1.cell? (ad.add k) = some (.int .i64 y) := ((hbw2.cell (by rw [block_add]; exact BA.out)).trans CA.out))
            | (at_builtin; refine app_int _ rfl _ _ rfl w.heap.size hown1 rfl rfl hlen' hsz2 hI ?_; intro v2 w2 hown2 hbel2))
          all_goals try (exfalso; omega)
          go_roundw
          case rel => exact ⟨k + 1, by omega, by go_num, by rw [HS.out]; exact hown2, hbw2.trans hbel2⟩
          case measure => simp [intOf]; omega
      · go_wp2
        all_goals try (exfalso; omega)
        go_ret2
        obtain rfl : k = x.length := by omega
        exact RetInts.mk hown hbw
  · have hE : expE x.length M = 20 := by unfold expE; rw [hp, if_neg (by decide)]
    have hV : expV x M = [] := expV_no (by rw [hE]; decide)
    rw [hE, hV]
    clear hE hV
    go_enter Try.func17, Try.ntmps17
    go_wp2_with (go_at_call 26; refine (rf_factor _ _).mono ?_; rintro e w' ⟨rfl, rfl⟩)
    go_ret2
    exact RetInts.mk Own.nil (Below.refl _ _)
end Go.Proofs.Ythalkhpdcijlkaa
