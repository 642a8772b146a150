/- The walks of Convert, Filter (package multirate and its reference) and of the reference's Join, on all ways. -/
import Derived.Test.YtlomhaabiodofaaNy
import Derived.Test.YtlomhaabiodofaaMjw
namespace Go.Proofs.Ytlomhaabiodofaa
open Go.RowKit

theorem conv_zero {b f r o b' f' r' o' up down : Int} {h x : List Int} (hE : convE b f r o b' f' r' o' h up down x = 0) :
    okW b f r o = true ∧ okW b' f' r' o' = true ∧ inB up 1 12 = true ∧ inB down 1 12 = true ∧ ¬ (49 < h.length ∨ 4096 < x.length ∨ 4096 < up * x.length) ∧ wordsB b' f' r' o' h = true ∧ wordsB b f r o x = true := by
  unfold convE at hE
  split at hE
  · rename_i h1
    split at hE
    · rename_i h2
      split at hE
      · cases hE
      · rename_i h3
        split at hE
        · rename_i h4
          rw [Bool.and_eq_true] at h1 h2 h4
          exact ⟨h1.1, h1.2, h2.1, h2.2, h3, h4.1, h4.2⟩
        · cases hE
    · cases hE
  · cases hE
theorem mr_Convert (A B : Option Addr) (h x : List Int) (c d : Nat) (up down b f r o b' f' r' o' : Int) (w : World) (hl : h.length ≤ 9223372036854775807) (xl : x.length ≤ 9223372036854775807) (hh : Ints w A h) (hx : Ints w B x) :
    Calls Try.prog 9 #[.slice A h.length c, .int .i64 up, .int .i64 down, wordV b f r o, wordV b' f' r' o', .slice B x.length d] w (RetInts w (convV b f r o b' f' r' o' h up down x) (convE b f r o b' f' r' o' h up down x)) := by
  by_cases hE : convE b f r o b' f' r' o' h up down x = 0
  · obtain ⟨k1, k2, p1, p2, hlen, q1, q2⟩ := conv_zero hE
    obtain ⟨a1, a2⟩ := inB_iff.1 p1
    obtain ⟨a3, a4⟩ := inB_iff.1 p2
    obtain ⟨U, rfl⟩ := Int.eq_ofNat_of_zero_le (by omega : 0 ≤ up)
    obtain ⟨D, rfl⟩ := Int.eq_ofNat_of_zero_le (by omega : 0 ≤ down)
    rw [← Int.natCast_mul] at hlen
    have e : convV b f r o b' f' r' o' h U D x = convF b f r o f' h U D x := by unfold convV; rw [if_pos hE]; simp
    rw [hE, e]
    exact mr_Convert_good A B h x c d U D b f r o b' f' r' o' w hh hx k1 k2 (by omega) (by omega) (by omega) (by omega) (by omega) (by omega) (by omega) q1 q2
  · exact mr_Convert_bad A B h x c d up down b f r o b' f' r' o' w hl xl hh hx hE
theorem rf_Convert (A B : Option Addr) (h x : List Int) (c d : Nat) (up down b f r o b' f' r' o' : Int) (w : World) (hl : h.length ≤ 9223372036854775807) (xl : x.length ≤ 9223372036854775807) (hh : Ints w A h) (hx : Ints w B x) :
    Calls Try.prog 16 #[.slice A h.length c, .int .i64 up, .int .i64 down, wordV b f r o, wordV b' f' r' o', .slice B x.length d] w (RetInts w (convV b f r o b' f' r' o' h up down x) (convE b f r o b' f' r' o' h up down x)) := by
  by_cases hE : convE b f r o b' f' r' o' h up down x = 0
  · obtain ⟨k1, k2, p1, p2, hlen, q1, q2⟩ := conv_zero hE
    obtain ⟨a1, a2⟩ := inB_iff.1 p1
    obtain ⟨a3, a4⟩ := inB_iff.1 p2
    obtain ⟨U, rfl⟩ := Int.eq_ofNat_of_zero_le (by omega : 0 ≤ up)
    obtain ⟨D, rfl⟩ := Int.eq_ofNat_of_zero_le (by omega : 0 ≤ down)
    rw [← Int.natCast_mul] at hlen
    have e : convV b f r o b' f' r' o' h U D x = convF b f r o f' h U D x := by unfold convV; rw [if_pos hE]; simp
    rw [hE, e]
    exact rf_Convert_good A B h x c d U D b f r o b' f' r' o' w hh hx k1 k2 (by omega) (by omega) (by omega) (by omega) (by omega) (by omega) (by omega) q1 q2
  · exact rf_Convert_bad A B h x c d up down b f r o b' f' r' o' w hl xl hh hx hE
theorem mr_Filter (A B : Option Addr) (h x : List Int) (c d : Nat) (b f r o b' f' r' o' : Int) (w : World) (hl : h.length ≤ 9223372036854775807) (xl : x.length ≤ 9223372036854775807) (hh : Ints w A h) (hx : Ints w B x) :
    Calls Try.prog 11 #[.slice A h.length c, wordV b f r o, wordV b' f' r' o', .slice B x.length d] w (RetInts w (convV b f r o b' f' r' o' h 1 1 x) (convE b f r o b' f' r' o' h 1 1 x)) := by
  have hh2 : Ints ((w.alloc (.cells #[.int .i64 b, .int .i64 f, .int .i64 r, .int .i64 o] 26)).alloc (.cells #[.int .i64 b', .int .i64 f', .int .i64 r', .int .i64 o'] 26)) A h := hh.grow (((Below.refl _ _).alloc (Nat.le_refl _) _).alloc (by simp) _)
  have hx2 : Ints ((w.alloc (.cells #[.int .i64 b, .int .i64 f, .int .i64 r, .int .i64 o] 26)).alloc (.cells #[.int .i64 b', .int .i64 f', .int .i64 r', .int .i64 o'] 26)) B x := hx.grow (((Below.refl _ _).alloc (Nat.le_refl _) _).alloc (by simp) _)
  go_enter Try.func11, Try.ntmps11
  go_wp2_with (go_at_call 9; refine (mr_Convert A B h x c d 1 1 b f r o b' f' r' o' _ hl xl hh2 hx2).mono ?_; rintro e w1 ⟨v1, rfl, ho1, hb1⟩)
  go_ret2
  exact RetInts.mk (ho1.base (by simp; omega)) (below_box2 hb1)
theorem rf_Filter (A B : Option Addr) (h x : List Int) (c d : Nat) (b f r o b' f' r' o' : Int) (w : World) (hl : h.length ≤ 9223372036854775807) (xl : x.length ≤ 9223372036854775807) (hh : Ints w A h) (hx : Ints w B x) :
    Calls Try.prog 17 #[.slice A h.length c, wordV b f r o, wordV b' f' r' o', .slice B x.length d] w (RetInts w (convV b f r o b' f' r' o' h 1 1 x) (convE b f r o b' f' r' o' h 1 1 x)) := by
  have hh2 : Ints ((w.alloc (.cells #[.int .i64 b, .int .i64 f, .int .i64 r, .int .i64 o] 26)).alloc (.cells #[.int .i64 b', .int .i64 f', .int .i64 r', .int .i64 o'] 26)) A h := hh.grow (((Below.refl _ _).alloc (Nat.le_refl _) _).alloc (by simp) _)
  have hx2 : Ints ((w.alloc (.cells #[.int .i64 b, .int .i64 f, .int .i64 r, .int .i64 o] 26)).alloc (.cells #[.int .i64 b', .int .i64 f', .int .i64 r', .int .i64 o'] 26)) B x := hx.grow (((Below.refl _ _).alloc (Nat.le_refl _) _).alloc (by simp) _)
  go_enter Try.func17, Try.ntmps17
  go_wp2_with (go_at_call 16; refine (rf_Convert A B h x c d 1 1 b f r o b' f' r' o' _ hl xl hh2 hx2).mono ?_; rintro e w1 ⟨v1, rfl, ho1, hb1⟩)
  go_ret2
  exact RetInts.mk (ho1.base (by simp; omega)) (below_box2 hb1)
theorem rf_Small_is {l : List Int} {q : Bool} (e : smallB l 24 = q) (A : Option Addr) (c : Nat) (w : World) (hl : l.length ≤ 9223372036854775807) (h : Ints w A l) :
    Calls Try.prog 38 #[.slice A l.length c, .int .i64 24] w fun e w' => e = .returned (.bool q) ∧ w = w' := by rw [← e]; exact rf_Small A l c 24 w (by decide) hl h
theorem small_okB (l : List Int) : smallB l 24 = l.all okB := rfl
set_option maxRecDepth 100000 in
set_option maxHeartbeats 2000000 in
theorem rf32_Join (A B : Option Addr) (h g : List Int) (c d : Nat) (w : World) (hx : h.length ≤ 9223372036854775807) (gx : g.length ≤ 9223372036854775807) (hh : Ints w A h) (hg : Ints w B g) :
    Calls Try.prog 19 #[.slice A h.length c, .slice B g.length d] w (RetInts w (joinV h g) (joinE h g)) := by
  have hb := Below.refl w.heap.size w
  by_cases hlong : 49 < h.length ∨ 49 < g.length
  · have hE : joinE h g = 4 := by unfold joinE; rw [if_pos hlong]
    have hV : joinV h g = [] := by unfold joinV; rw [if_neg (by rw [hE]; decide)]
    rw [hE, hV]
    clear hE hV
    go_enter Try.func19, Try.ntmps19
    go_wp2
    all_goals try (exfalso; omega)
    all_goals go_ret2
    all_goals exact RetInts.mk Own.nil hb
  have hl1 : h.length ≤ 49 := by omega
  have hl2 : g.length ≤ 49 := by omega
  rcases Bool.eq_false_or_eq_true (smallB h 24) with q1 | q1
  · rcases Bool.eq_false_or_eq_true (smallB g 24) with q2 | q2
    · have HOK : Hid (∀ x ∈ h, -16777216 ≤ x ∧ x ≤ 16777216) := okB_all q1
      have GOK : Hid (∀ x ∈ g, -16777216 ≤ x ∧ x ≤ 16777216) := okB_all q2
      have hE : joinE h g = 0 := by
        unfold joinE
        rw [if_neg hlong, if_pos ⟨q1, q2⟩]
      have hV : joinV h g = joinF h g := by unfold joinV; rw [if_pos hE]
      rw [hE, hV]
      clear hE hV hlong
      by_cases hz : h.length = 0 ∨ g.length = 0
      · have hF : joinF h g = [] := by
          apply List.eq_nil_of_length_eq_zero
          unfold joinF
          rw [joinN_length]
          unfold joinLen
          rw [if_pos]
          rcases hz with hz | hz
          · exact .inl (List.eq_nil_of_length_eq_zero hz)
          · exact .inr (List.eq_nil_of_length_eq_zero hz)
        rw [hF]
        clear hF
        go_enter Try.func19, Try.ntmps19
        go_wp2_with (first
          | (go_at_call 38; (with_reducible refine (rf_Small_is q1 A c _ hx hh).mono ?_); rintro e w' ⟨rfl, rfl⟩)
          | (go_at_call 38; (with_reducible refine (rf_Small_is q2 B d _ gx hg).mono ?_); rintro e w' ⟨rfl, rfl⟩))
        all_goals try (exfalso; omega)
        all_goals go_ret2
        all_goals exact RetInts.mk Own.nil hb
      · have z1 : 1 ≤ h.length := by omega
        have z2 : 1 ≤ g.length := by omega
        have hL : joinLen h g = h.length + g.length - 1 := by
          unfold joinLen
          rw [if_neg]
          rintro (hc | hc)
          · rw [hc] at z1; simp at z1
          · rw [hc] at z2; simp at z2
        obtain ⟨n, hn⟩ : ∃ n, h.length + g.length - 1 = n := ⟨_, rfl⟩
        rw [hn] at hL
        have HL := Lib.hid hL
        have hN : (h.length : Int) + g.length - 1 = n := by omega
        have hnb : n ≤ 100000000 := by omega
        clear hL hz
        go_enter Try.func19, Try.ntmps19
        go_wp2_with (first
          | (go_at_call 38; (with_reducible refine (rf_Small_is q1 A c _ hx hh).mono ?_); rintro e w' ⟨rfl, rfl⟩)
          | (go_at_call 38; (with_reducible refine (rf_Small_is q2 B d _ gx hg).mono ?_); rintro e w' ⟨rfl, rfl⟩)
          | (at_make; refine mk_int rfl _ _ rfl w.heap.size n rfl rfl (by omega) hnb (Nat.le_refl _) ?_; intro w1 hown1 hb1))
        all_goals try (exfalso; omega)
        have hown0 : Own w.heap.size w1 (.slice (some ⟨w.heap.size, 0, none⟩) n n) (joinN h g 0 0) := by rw [joinN_zero, HL.out]; exact hown1
        clear hown1
        go_loopw [7] (fun i wr => ∃ I : Nat, I ≤ h.length ∧ i = .int .i64 I ∧ Own w.heap.size wr (.slice (some ⟨w.heap.size, 0, none⟩) n n) (joinN h g I 0) ∧ Below w.heap.size w wr) (fun i _ => h.length - (intOf i).toNat)
        case atStart => exact ⟨0, Nat.zero_le _, rfl, hown0, hb1⟩
        case round =>
          obtain ⟨I, hI, rfl, hown, hbw⟩ := hrel
          by_cases hlt : I < h.length
          · obtain ⟨a, ha⟩ : ∃ a, h[I]? = some a := ⟨_, List.getElem?_eq_getElem hlt⟩
            have HA := Lib.hid ha
            obtain ⟨a3, a4⟩ := HOK.out a (List.mem_of_getElem? ha)
            clear ha
            go_wp2
            all_goals try (exfalso; omega)
            go_loopw [8] (fun i wr2 => ∃ J : Nat, J ≤ g.length ∧ i = .int .i64 J ∧ Own w.heap.size wr2 (.slice (some ⟨w.heap.size, 0, none⟩) n n) (joinN h g I J) ∧ Below w.heap.size w wr2) (fun i _ => g.length - (intOf i).toNat)
            case atStart => exact ⟨0, Nat.zero_le _, rfl, hown, hbw⟩
            case round =>
              obtain ⟨J, hJ, rfl, hown2, hbw2⟩ := hrel
              by_cases hlt2 : J < g.length
              · obtain ⟨ad, a', rfl, ba, ha', ca, a1, a2⟩ := (hh.grow hbw2).at_ hlt
                obtain rfl : a' = a := by have := HA.out; rw [ha'] at this; injection this
                obtain ⟨ad2, b, rfl, bb, hbb, cb, b1, b2⟩ := (hg.grow hbw2).at_ hlt2
                obtain ⟨b3, b4⟩ := GOK.out b (List.mem_of_getElem? hbb)
                obtain ⟨s, hs⟩ : ∃ s, (joinN h g I J)[I + J]? = some s := ⟨_, List.getElem?_eq_getElem (by rw [joinN_length, HL.out]; omega)⟩
                obtain ⟨s1, s2⟩ := joinN_bound HOK.out GOK.out (by omega) hs
                have HS := Lib.hid (joinN_succ HA.out hbb hs)
                have hmb := mul_bound (x := a') (y := b) (B := 16777216) (C := 16777216) ⟨a3, a4⟩ ⟨b3, b4⟩
                obtain ⟨P, hP⟩ : ∃ P, a' * b = P := ⟨_, rfl⟩
                rw [hP] at hmb HS
                have cs := hown2.cell hs
                have cf := hown2.free (I + J)
                have HSET := Lib.hid (hown2.set (I + J) (y := s + P) ⟨by omega, by omega⟩)
                have hij : I + J < n := by omega
                clear hbb hs hown2 ha'
                go_wp2
                all_goals try (exfalso; omega)
                go_region
                go_wp2
                go_roundw
                case rel => exact ⟨J + 1, by omega, by go_num, by rw [HS.out]; exact ⟨HSET.out.1.drew, HSET.out.2⟩, Below.drew (below_set (k := I + J) (u := .int .i64 (s + P)) hbw2 (Nat.le_refl _))⟩
                case measure => simp [intOf]; omega
              · obtain rfl : J = g.length := by omega
                go_wp2
                all_goals try (exfalso; omega)
                go_roundw
                case rel => exact ⟨I + 1, by omega, by go_num, by rw [← joinN_row]; exact hown2, hbw2⟩
                case measure => simp [intOf]; omega
          · go_wp2
            all_goals try (exfalso; omega)
            go_ret2
            obtain rfl : I = h.length := by omega
            exact RetInts.mk hown hbw
    · obtain ⟨hE, hV⟩ := joinE_bad hlong (.inr q2)
      rw [hE, hV]
      clear hE hV hlong
      go_enter Try.func19, Try.ntmps19
      go_wp2_with (first
        | (go_at_call 38; (with_reducible refine (rf_Small_is q1 A c _ hx hh).mono ?_); rintro e w' ⟨rfl, rfl⟩)
        | (go_at_call 38; (with_reducible refine (rf_Small_is q2 B d _ gx hg).mono ?_); rintro e w' ⟨rfl, rfl⟩))
      all_goals try (exfalso; omega)
      all_goals go_ret2
      all_goals exact RetInts.mk Own.nil hb
  · obtain ⟨hE, hV⟩ := joinE_bad hlong (.inl q1)
    rw [hE, hV]
    clear hE hV hlong
    go_enter Try.func19, Try.ntmps19
    go_wp2_with (go_at_call 38; (with_reducible refine (rf_Small_is q1 A c _ hx hh).mono ?_); rintro e w' ⟨rfl, rfl⟩)
    all_goals try (exfalso; omega)
    all_goals go_ret2
    all_goals exact RetInts.mk Own.nil hb
end Go.Proofs.Ytlomhaabiodofaa
