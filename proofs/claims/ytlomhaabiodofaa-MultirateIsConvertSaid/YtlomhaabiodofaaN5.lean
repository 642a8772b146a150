/- The walk of the law IsConvert. -/
import Derived.Test.YtlomhaabiodofaaN2
namespace Go.Proofs.Ytlomhaabiodofaa
open Go.RowKit

set_option maxRecDepth 100000 in
set_option maxHeartbeats 4000000 in
theorem law_MultirateIsConvert (u : Int × Int × (Option Addr × Nat × List Int) × (Option Addr × Nat × List Int)) (m0 : Int) (p0 : Int) (w : World) (hu : (I64 u.1 ∧ I64 u.2.1) ∧ (Ints w u.2.2.1.1 u.2.2.1.2.2 ∧ u.2.2.1.2.2.length ≤ 9223372036854775807) ∧ (Ints w u.2.2.2.1 u.2.2.2.2.2 ∧ u.2.2.2.2.2.length ≤ 9223372036854775807)) (_ : I64 m0) (_ : I64 p0) :
    Calls Try.prog 3 #[.agg #[.int .i64 u.1, .int .i64 u.2.1, .slice u.2.2.1.1 u.2.2.1.2.2.length u.2.2.1.2.1, .slice u.2.2.2.1 u.2.2.2.2.2.length u.2.2.2.2.1], .int .i64 m0, .int .i64 p0] w fun e w' => e = .returned (.bool true) ∧ Below w.heap.size w w' := by
  obtain ⟨dn, cn, ⟨A, ca, t⟩, ⟨B, cb, y⟩⟩ := u
  obtain ⟨_, ⟨ht, htl⟩, ⟨hy, hyl⟩⟩ := hu
  simp only at ht htl hy hyl ⊢
  obtain ⟨n1, hn1⟩ : ∃ n1, (withinF t.length (20 + 1)).toNat = n1 := ⟨_, rfl⟩
  obtain ⟨n2, hn2⟩ : ∃ n2, min y.length 40 = n2 := ⟨_, rfl⟩
  have hn1b : n1 ≤ 20 := by have := within_in (m := 20 + 1) (by decide) (t.length : Int); omega
  have hn2b : n2 ≤ 40 := by omega
  have k1 := mkWD_ok dn
  have k2 := mkWC_ok cn
  have hparts := fun (w : World) (h1 : Ints w A t) (h2 : Ints w B y) => ln_parts dn cn 20 A B t y ca cb w h1 h2 htl hyl (by decide) (by decide)
  rw [hn1, hn2] at hparts
  obtain ⟨D, hD⟩ : ∃ D, mkW dn 6 12 2 = D := ⟨_, rfl⟩
  obtain ⟨C, hC⟩ : ∃ C, mkW cn 6 9 1 = C := ⟨_, rfl⟩
  rw [hD] at hparts k1
  rw [hC] at hparts k2
  obtain ⟨h, hh⟩ : ∃ h, wordsF C.1 C.2.1 C.2.2.1 C.2.2.2 t n1 = h := ⟨_, rfl⟩
  obtain ⟨x, hx⟩ : ∃ x, wordsF D.1 D.2.1 D.2.2.1 D.2.2.2 y n2 = x := ⟨_, rfl⟩
  have fh : wordsB C.1 C.2.1 C.2.2.1 C.2.2.2 h = true := by rw [← hh]; exact words_fits k2 t n1
  have fx : wordsB D.1 D.2.1 D.2.2.1 D.2.2.2 x = true := by rw [← hx]; exact words_fits k1 y n2
  have lh : h.length = n1 := by rw [← hh]; exact wordsF_length _ _ _ _ _ _
  have lx : x.length = n2 := by rw [← hx]; exact wordsF_length _ _ _ _ _ _
  have hpt : ∀ (w : World), Ints w A t → Ints w B y → Calls Try.prog 7 #[.agg #[.int .i64 dn, .int .i64 cn, .slice A t.length ca, .slice B y.length cb], .int .i64 20] w (fun e w' => ∃ A1 c1 A2 c2, e = .returned (.tuple #[.slice A1 h.length c1, wordT D, wordT C, .slice A2 x.length c2]) ∧ Ints w' A1 h ∧ Ints w' A2 x ∧ Below w.heap.size w w') := fun w h1 h2 => by
    rw [lh, lx, ← hh, ← hx]; exact hparts w h1 h2
  have HPT := Lib.hid hpt
  have lh' : h.length ≤ 20 := by omega
  have lx' : x.length ≤ 40 := by omega
  have FH := Lib.hid fh
  have FX := Lib.hid fx
  have K1 := Lib.hid k1
  have K2 := Lib.hid k2
  obtain ⟨m1, m2⟩ := within_in (m := 6) (by decide) m0
  obtain ⟨mq, hmq⟩ : ∃ q, withinF m0 6 = q := ⟨_, rfl⟩
  rw [hmq] at m1 m2
  obtain ⟨m, hm⟩ := Int.eq_ofNat_of_zero_le (by omega : 0 ≤ 1 + mq)
  have m3 : 1 ≤ m := by omega
  have m4 : m ≤ 6 := by omega
  have Hm := Lib.hid hm
  have hwm : ∀ w, Calls Try.prog 8 #[.int .i64 m0, .int .i64 6] w fun e w' => e = .returned (.int .i64 mq) ∧ w = w' := fun w => by rw [← hmq]; exact wd_Within _ _ w (by decide)
  have HWm := Lib.hid hwm
  clear hm hmq hwm
  obtain ⟨p1, p2⟩ := within_in (m := 6) (by decide) p0
  obtain ⟨pq, hpq⟩ : ∃ q, withinF p0 6 = q := ⟨_, rfl⟩
  rw [hpq] at p1 p2
  obtain ⟨p, hp⟩ := Int.eq_ofNat_of_zero_le (by omega : 0 ≤ 1 + pq)
  have p3 : 1 ≤ p := by omega
  have p4 : p ≤ 6 := by omega
  have Hp := Lib.hid hp
  have hwp : ∀ w, Calls Try.prog 8 #[.int .i64 p0, .int .i64 6] w fun e w' => e = .returned (.int .i64 pq) ∧ w = w' := fun w => by rw [← hpq]; exact wd_Within _ _ w (by decide)
  have HWp := Lib.hid hwp
  clear hp hpq hwp
  clear hpt hparts hn1 hn2 hD hC hh hx fh fx k1 k2 lh lx
  obtain ⟨L1, hL1⟩ : ∃ l, convF D.1 D.2.1 D.2.2.1 D.2.2.2 C.2.1 h m p x = l := ⟨_, rfl⟩
  obtain ⟨L2, hL2⟩ : ∃ l, upF x m = l := ⟨_, rfl⟩
  obtain ⟨L3, hL3⟩ : ∃ l, convF D.1 D.2.1 D.2.2.1 D.2.2.2 C.2.1 h 1 1 L2 = l := ⟨_, rfl⟩
  obtain ⟨L4, hL4⟩ : ∃ l, everyF L3 0 p = l := ⟨_, rfl⟩
  have mu2 : m * x.length ≤ 240 := Nat.mul_le_mul m4 lx'
  have l2 : L2.length ≤ 240 := by rw [← hL2, show (upF x m).length = m * x.length from upN_length _ _ _]; exact mu2
  have l3 : L3.length ≤ 240 := by rw [← hL3, conv1_len]; exact l2
  have l4 : L4.length ≤ 240 := by rw [← hL4]; exact Nat.le_trans (every_len p3) l3
  have f2 : wordsB D.1 D.2.1 D.2.2.1 D.2.2.2 L2 = true := by rw [← hL2]; exact fits_up m3 K1.out FX.out
  have heq : L1 = L4 := by rw [← hL4, ← hL3, ← hL2, ← hL1]; exact conv_is _ _ _ _ _ h m p x
  have l1 : L1.length ≤ 240 := by rw [heq]; exact l4
  have Q1 : Hid (∀ (w : World) (A0 A1 : Option Addr) (c0 c1 : Nat), Ints w A0 h → Ints w A1 x → Calls Try.prog 9 #[.slice A0 h.length c0, .int .i64 (1 + mq), .int .i64 (1 + pq), wordV D.1 D.2.1 D.2.2.1 D.2.2.2, wordV C.1 C.2.1 C.2.2.1 C.2.2.2, .slice A1 x.length c1] w (GetInts w L1 0)) := fun w A0 A1 c0 c1 g0 g1 => by rw [← hL1]; exact mr_Convert_is A0 A1 h x c0 c1 m p (1 + mq) (1 + pq) D.1 D.2.1 D.2.2.1 D.2.2.2 C.1 C.2.1 C.2.2.1 C.2.2.2 w Hm.out Hp.out K1.out K2.out m3 (by omega) p3 (by omega) (by omega) (by omega) (by omega) FH.out FX.out g0 g1
  have Q2 : Hid (∀ (w : World) (A0 : Option Addr) (c0 : Nat), Ints w A0 x → Calls Try.prog 10 #[.slice A0 x.length c0, .int .i64 (1 + mq)] w (GetInts w L2 0)) := fun w A0 c0 g0 => by rw [← hL2]; exact mr_Up_ok A0 x c0 m (1 + mq) w Hm.out (up_ok2 m3 (by omega) (by omega) (by omega)) (by omega) g0
  have Q3 : Hid (∀ (w : World) (A0 A1 : Option Addr) (c0 c1 : Nat), Ints w A0 h → Ints w A1 L2 → Calls Try.prog 11 #[.slice A0 h.length c0, wordV D.1 D.2.1 D.2.2.1 D.2.2.2, wordV C.1 C.2.1 C.2.2.1 C.2.2.2, .slice A1 L2.length c1] w (GetInts w L3 0)) := fun w A0 A1 c0 c1 g0 g1 => by rw [← hL3]; exact mr_Filter_is A0 A1 h L2 c0 c1 D.1 D.2.1 D.2.2.1 D.2.2.2 C.1 C.2.1 C.2.2.1 C.2.2.2 w K1.out K2.out (by omega) (by omega) (FH.out) (f2) g0 g1
  have Q4 : Hid (∀ (w : World) (A0 : Option Addr) (c0 : Nat), Ints w A0 L3 → Calls Try.prog 12 #[.slice A0 L3.length c0, .int .i64 (1 + pq)] w (GetInts w L4 0)) := fun w A0 c0 g0 => by rw [← hL4]; exact mr_Down_ok A0 L3 c0 p (1 + pq) w Hp.out (down_ok2 p3 (by omega) (by omega)) (by omega) g0
  clear f2 mu2
  have HEQ := Lib.hid heq
  clear heq hL1 hL2 hL3 hL4
  go_enter Try.func3, Try.ntmps3
  have ht2 := fun o => ht.grow ((Below.refl _ _).alloc (Nat.le_refl _) o)
  have hy2 := fun o => hy.grow ((Below.refl _ _).alloc (Nat.le_refl _) o)
  have HT2 := Lib.hid ht2
  have HY2 := Lib.hid hy2
  clear ht2 hy2 ht hy
  go_wp2_with (go_at_call 7; refine (HPT.out _ (HT2.out _) (HY2.out _)).mono ?_; rintro e wP ⟨A1, c1, A2, c2, rfl, hih, hix, hbP⟩)
  have h0 : Below w.heap.size w wP := ((Below.refl _ _).alloc (Nat.le_refl _) _).trans (hbP.mono (by simp))
  have H0 := Lib.hid h0
  have hih := fun o p => hih.grow (below_two o p)
  have hix := fun o p => hix.grow (below_two o p)
  have HIH := Lib.hid hih
  have HIX := Lib.hid hix
  clear hih hix h0 hbP
  go_wp2_with (first | (go_at_call 9; refine (Q1.out _ A1 A2 c1 c2 (HIH.out _ _) (HIX.out _ _)).mono ?_; rintro e w0 ⟨B0, d0, rfl, hiL1, hb1⟩; have hih := (HIH.out _ _).grow hb1; have hix := (HIX.out _ _).grow hb1; have hb := hb1; clear hb1; obtain ⟨hc, hf⟩ := bcell hb) | (go_at_call 8; (with_reducible refine (HWm.out _).mono ?_); rintro e w' ⟨rfl, rfl⟩) | (go_at_call 8; (with_reducible refine (HWp.out _).mono ?_); rintro e w' ⟨rfl, rfl⟩))
  all_goals try (exfalso; omega)
  go_wp2_with (go_at_call 10; refine (Q2.out _ A2 c2 hix).mono ?_; rintro e w1 ⟨B1, d1, rfl, hiL2, hb1⟩; have hih := hih.grow hb1; have hix := hix.grow hb1; have hiL1 := hiL1.grow hb1; have hb9 := below_then hb hb1; clear hb hb1 hc hf; have hb := hb9; clear hb9; obtain ⟨hc, hf⟩ := bcell hb)
  all_goals try (exfalso; omega)
  go_wp2_with (go_at_call 11; refine (Q3.out _ A1 B1 c1 d1 hih hiL2).mono ?_; rintro e w2 ⟨B2, d2, rfl, hiL3, hb1⟩; have hih := hih.grow hb1; have hix := hix.grow hb1; have hiL1 := hiL1.grow hb1; have hiL2 := hiL2.grow hb1; have hb9 := below_then hb hb1; clear hb hb1 hc hf; have hb := hb9; clear hb9; obtain ⟨hc, hf⟩ := bcell hb)
  all_goals try (exfalso; omega)
  go_wp2_with (go_at_call 12; refine (Q4.out _ B2 d2 hiL3).mono ?_; rintro e w3 ⟨B3, d3, rfl, hiL4, hb1⟩; have hih := hih.grow hb1; have hix := hix.grow hb1; have hiL1 := hiL1.grow hb1; have hiL2 := hiL2.grow hb1; have hiL3 := hiL3.grow hb1; have hb9 := below_then hb hb1; clear hb hb1 hc hf; have hb := hb9; clear hb9; obtain ⟨hc, hf⟩ := bcell hb)
  all_goals try (exfalso; omega)
  clear hc hf
  go_wp2_with fail
  refine (known32 _).mono ?_
  rintro e w8 ⟨rfl, hb1⟩
  have hiL1 := hiL1.grow hb1
  have hiL4 := hiL4.grow hb1
  have hb := below_then hb hb1
  clear hb1
  go_wp2_with fail
  refine (rf_Same B0 B3 L1 L4 d0 d3 _ (by omega) HEQ.out hiL1 hiL4).mono ?_
  rintro e w9 ⟨rfl, hb1⟩
  have hb := below_then hb hb1
  clear hb1
  go_wp2
  go_ret
  exact ⟨rfl, (H0.out.trans ((below_two _ _).mono H0.out.size)).trans (hb.mono (Nat.le_trans H0.out.size (below_two _ _).size))⟩
end Go.Proofs.Ytlomhaabiodofaa
