/- The walk of the law Converts. -/
import Derived.Test.YtlomhaabiodofaaNz
import Derived.Test.YtlomhaabiodofaaMk
namespace Go.Proofs.Ytlomhaabiodofaa
open Go.RowKit

theorem convV_len (b f r o b' f' r' o' : Int) (h : List Int) (up down : Int) (x : List Int) : (convV b f r o b' f' r' o' h up down x).length ≤ 4096 := by
  unfold convV
  split
  · rename_i hE
    obtain ⟨k1, k2, p1, p2, hlen, q1, q2⟩ := conv_zero hE
    obtain ⟨a1, a2⟩ := inB_iff.1 p1
    obtain ⟨a3, a4⟩ := inB_iff.1 p2
    obtain ⟨U, rfl⟩ := Int.eq_ofNat_of_zero_le (by omega : 0 ≤ up)
    obtain ⟨D, rfl⟩ := Int.eq_ofNat_of_zero_le (by omega : 0 ≤ down)
    rw [← Int.natCast_mul] at hlen
    simp only [Int.toNat_natCast]
    unfold convF
    rw [show (everyF (filtF b f r o f' h (upF x U)) 0 D).length = cnt (filtF b f r o f' h (upF x U)).length 0 D from everyN_length _ _ _ _]
    have := cnt_le (filtF b f r o f' h (upF x U)).length 0 D (by omega)
    rw [filtF_length] at this ⊢
    rw [show (upF x U).length = U * x.length from upN_length _ _ _] at this ⊢
    omega
  · simp
theorem joinV_len (h g : List Int) : (joinV h g).length ≤ 98 := by
  unfold joinV
  split
  · rename_i hE
    unfold joinF
    rw [joinN_length]
    unfold joinLen
    unfold joinE at hE
    split at hE
    · cases hE
    · split <;> omega
  · simp
set_option maxRecDepth 100000 in
set_option maxHeartbeats 2000000 in
theorem law_MultirateConverts (u : Option Addr × Nat × List Int) (up down : Int) (p q : Int × Int × Int × Int) (v : Option Addr × Nat × List Int) (w : World) (hu : Ints w u.1 u.2.2 ∧ u.2.2.length ≤ 9223372036854775807) (_ : I64 up) (_ : I64 down)
    (_ : I64 p.1 ∧ I64 p.2.1 ∧ I64 p.2.2.1 ∧ I64 p.2.2.2) (_ : I64 q.1 ∧ I64 q.2.1 ∧ I64 q.2.2.1 ∧ I64 q.2.2.2) (hv : Ints w v.1 v.2.2 ∧ v.2.2.length ≤ 9223372036854775807) :
    Calls Try.prog 5 #[.slice u.1 u.2.2.length u.2.1, .int .i64 up, .int .i64 down, wordV p.1 p.2.1 p.2.2.1 p.2.2.2, wordV q.1 q.2.1 q.2.2.1 q.2.2.2, .slice v.1 v.2.2.length v.2.1] w fun e w' => e = .returned (.bool true) ∧ Below w.heap.size w w' := by
  obtain ⟨A, c, h⟩ := u
  obtain ⟨B, d, x⟩ := v
  obtain ⟨b, f, r, o⟩ := p
  obtain ⟨b', f', r', o'⟩ := q
  obtain ⟨hh, hhl⟩ := hu
  obtain ⟨hx, hxl⟩ := hv
  simp only at hh hhl hx hxl ⊢
  by_cases hlong : 100 < x.length ∨ 60 < h.length
  · go_enter Try.func5, Try.ntmps5
    go_wp2_with (go_at_call 13; refine (known32 _).mono ?_; rintro e w1 ⟨rfl, hb1⟩)
    all_goals try (exfalso; omega)
    all_goals go_ret
    all_goals exact ⟨rfl, below_box2 hb1⟩
  have s1 : x.length ≤ 100 := by omega
  have s2 : h.length ≤ 60 := by omega
  have hcm := fun (w : World) (h1 : Ints w A h) (h2 : Ints w B x) => mr_Convert A B h x c d up down b f r o b' f' r' o' w hhl hxl h1 h2
  have hcr := fun (w : World) (h1 : Ints w A h) (h2 : Ints w B x) => rf_Convert A B h x c d up down b f r o b' f' r' o' w hhl hxl h1 h2
  have hfm := fun (w : World) (h1 : Ints w A h) (h2 : Ints w B x) => mr_Filter A B h x c d b f r o b' f' r' o' w hhl hxl h1 h2
  have hfr := fun (w : World) (h1 : Ints w A h) (h2 : Ints w B x) => rf_Filter A B h x c d b f r o b' f' r' o' w hhl hxl h1 h2
  have hjm := fun (w : World) (h1 : Ints w A h) (h2 : Ints w B x) => mr_Join A B h x c d w hhl hxl h1 h2
  have hjr := fun (w : World) (h1 : Ints w A h) (h2 : Ints w B x) => rf32_Join A B h x c d w hhl hxl h1 h2
  have n1 := convV_len b f r o b' f' r' o' h up down x
  have n2 := convV_len b f r o b' f' r' o' h 1 1 x
  have n3 := joinV_len h x
  obtain ⟨V1, e1⟩ : ∃ V, convV b f r o b' f' r' o' h up down x = V := ⟨_, rfl⟩
  obtain ⟨V2, e2⟩ : ∃ V, convV b f r o b' f' r' o' h 1 1 x = V := ⟨_, rfl⟩
  obtain ⟨V3, e3⟩ : ∃ V, joinV h x = V := ⟨_, rfl⟩
  obtain ⟨E1, f1⟩ : ∃ V, convE b f r o b' f' r' o' h up down x = V := ⟨_, rfl⟩
  obtain ⟨E2, f2⟩ : ∃ V, convE b f r o b' f' r' o' h 1 1 x = V := ⟨_, rfl⟩
  obtain ⟨E3, f3⟩ : ∃ V, joinE h x = V := ⟨_, rfl⟩
  rw [e1] at n1
  rw [e2] at n2
  rw [e3] at n3
  rw [e1, f1] at hcm hcr
  rw [e2, f2] at hfm hfr
  rw [e3, f3] at hjm hjr
  have HCM := Lib.hid hcm
  have HCR := Lib.hid hcr
  have HFM := Lib.hid hfm
  have HFR := Lib.hid hfr
  have HJM := Lib.hid hjm
  have HJR := Lib.hid hjr
  have m1 : V1.length ≤ 9223372036854775807 := by omega
  have m2 : V2.length ≤ 9223372036854775807 := by omega
  have m3 : V3.length ≤ 9223372036854775807 := by omega
  clear hcm hcr hfm hfr hjm hjr e1 e2 e3 f1 f2 f3 hlong
  have hh2 : Ints ((w.alloc (.cells #[.int .i64 b, .int .i64 f, .int .i64 r, .int .i64 o] 26)).alloc (.cells #[.int .i64 b', .int .i64 f', .int .i64 r', .int .i64 o'] 26)) A h := hh.grow (((Below.refl _ _).alloc (Nat.le_refl _) _).alloc (by simp) _)
  have hx2 : Ints ((w.alloc (.cells #[.int .i64 b, .int .i64 f, .int .i64 r, .int .i64 o] 26)).alloc (.cells #[.int .i64 b', .int .i64 f', .int .i64 r', .int .i64 o'] 26)) B x := hx.grow (((Below.refl _ _).alloc (Nat.le_refl _) _).alloc (by simp) _)
  go_enter Try.func5, Try.ntmps5
  go_wp2_with (go_at_call 9; refine (HCM.out _ hh2 hx2).mono ?_; rintro e w1 ⟨v1, rfl, ho1, hb⟩; obtain ⟨A1, c1, rfl, _, hi1⟩ := ho1.form; clear ho1; obtain ⟨hc, hf⟩ := bcell hb)
  all_goals try (exfalso; omega)
  go_wp2_with (go_at_call 16; refine (HCR.out _ (hh2.grow hb) (hx2.grow hb)).mono ?_; rintro e w2 ⟨v1, rfl, ho1, hb1⟩; obtain ⟨A2, c2, rfl, _, hi2⟩ := ho1.form; have hi1 := hi1.grow hb1; have hb9 := below_then hb hb1; clear hb hb1 hc hf ho1; have hb := hb9; clear hb9; obtain ⟨hc, hf⟩ := bcell hb)
  go_wp2_with (go_at_call 11; refine (HFM.out _ (hh2.grow hb) (hx2.grow hb)).mono ?_; rintro e w3 ⟨v1, rfl, ho1, hb1⟩; obtain ⟨A3, c3, rfl, _, hi3⟩ := ho1.form; have hi1 := hi1.grow hb1; have hi2 := hi2.grow hb1; have hb9 := below_then hb hb1; clear hb hb1 hc hf ho1; have hb := hb9; clear hb9; obtain ⟨hc, hf⟩ := bcell hb)
  go_wp2_with (go_at_call 17; refine (HFR.out _ (hh2.grow hb) (hx2.grow hb)).mono ?_; rintro e w4 ⟨v1, rfl, ho1, hb1⟩; obtain ⟨A4, c4, rfl, _, hi4⟩ := ho1.form; have hi1 := hi1.grow hb1; have hi2 := hi2.grow hb1; have hi3 := hi3.grow hb1; have hb9 := below_then hb hb1; clear hb hb1 hc hf ho1; have hb := hb9; clear hb9)
  go_wp2_with (go_at_call 18; refine (HJM.out _ (hh2.grow hb) (hx2.grow hb)).mono ?_; rintro e w5 ⟨v1, rfl, ho1, hb1⟩; obtain ⟨A5, c5, rfl, _, hi5⟩ := ho1.form; have hi1 := hi1.grow hb1; have hi2 := hi2.grow hb1; have hi3 := hi3.grow hb1; have hi4 := hi4.grow hb1; have hb9 := below_then hb hb1; clear hb hb1 ho1; have hb := hb9; clear hb9)
  go_wp2_with (go_at_call 19; refine (HJR.out _ (hh2.grow hb) (hx2.grow hb)).mono ?_; rintro e w6 ⟨v1, rfl, ho1, hb1⟩; obtain ⟨A6, c6, rfl, _, hi6⟩ := ho1.form; have hi1 := hi1.grow hb1; have hi2 := hi2.grow hb1; have hi3 := hi3.grow hb1; have hi4 := hi4.grow hb1; have hi5 := hi5.grow hb1; have hb9 := below_then hb hb1; clear hb hb1 ho1; have hb := hb9; clear hb9)
  go_wp2_with fail
  refine (known32 _).mono ?_
  rintro e w7 ⟨rfl, hb1⟩
  have hi1 := hi1.grow hb1
  have hi2 := hi2.grow hb1
  have hi3 := hi3.grow hb1
  have hi4 := hi4.grow hb1
  have hi5 := hi5.grow hb1
  have hi6 := hi6.grow hb1
  have hb := below_then hb hb1
  clear hb1
  go_wp2_with fail
  refine (rf_Same A1 A2 V1 V1 c1 c2 _ m1 rfl hi1 hi2).mono ?_
  rintro e w8 ⟨rfl, hb1⟩
  have hi3 := hi3.grow hb1
  have hi4 := hi4.grow hb1
  have hi5 := hi5.grow hb1
  have hi6 := hi6.grow hb1
  have hb := below_then hb hb1
  clear hb1
  go_wp2_with fail
  refine (rf_Same A3 A4 V2 V2 c3 c4 _ m2 rfl hi3 hi4).mono ?_
  rintro e w9 ⟨rfl, hb1⟩
  have hi5 := hi5.grow hb1
  have hi6 := hi6.grow hb1
  have hb := below_then hb hb1
  clear hb1
  go_wp2_with fail
  refine (rf_Same A5 A6 V3 V3 c5 c6 _ m3 rfl hi5 hi6).mono ?_
  rintro e w9 ⟨rfl, hb1⟩
  have hb := below_then hb hb1
  clear hb1
  go_wp2
  go_ret
  exact ⟨rfl, below_box2 hb⟩
end Go.Proofs.Ytlomhaabiodofaa
