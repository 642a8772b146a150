/- The walk of the reference's Tree. -/
import Derived.Test.YtimhplkkgbpapaaR4
import Derived.Test.YtimhplkkgbpapaaVi
namespace Go.Proofs.Ytimhplkkgbpapaa
open Go.RowKit

theorem trE_1 {ls : List Lft} {x : List Int} {lv : Int} (h : lftsB ls = false) : trE ls x lv = 2 := by unfold trE; rw [h, need_new, need_set (k := 2) (by decide), need_set (k := 2) (by decide), need_set (k := 2) (by decide)]
theorem trE_2 {ls : List Lft} {x : List Int} {lv : Int} (h : lftsB ls = true) (h2 : okT lv x.length = false) : trE ls x lv = 1 := by unfold trE; rw [h, h2, need_true, need_new, need_set (k := 1) (by decide), need_set (k := 1) (by decide)]
theorem trE_3 {ls : List Lft} {x : List Int} {lv : Int} (h : lftsB ls = true) (h2 : okT lv x.length = true) (h3 : ¬ x.length ≤ 4096) : trE ls x lv = 4 := by unfold trE; rw [h, h2, need_true, need_true, decide_eq_false h3, need_new, need_set (k := 4) (by decide)]
theorem trE_4 {ls : List Lft} {x : List Int} {lv : Int} (h : lftsB ls = true) (h2 : okT lv x.length = true) (h3 : x.length ≤ 4096) (h4 : x.all wB = false) : trE ls x lv = 17 := by unfold trE; rw [h, h2, need_true, need_true, decide_eq_true h3, need_true, h4, need_new]
theorem tr_no {ls : List Lft} {x : List Int} {lv E : Int} (h : trE ls x lv = E) (h0 : E ≠ 0) : trL ls x lv = [] := by
  unfold trL
  rw [if_neg (by rw [h]; exact h0)]
theorem r33_AnalyseN (A B : Option Addr) (ls : List Lft) (x : List Int) (c d h n : Nat) (w : World) (hok : lftsB ls = true) (hx : x.length = 2 * h) (hn : x.length = n) (hh : h ≤ 2048) (hw : W32 x) (hL : Lifts w A ls) (hI : Ints w B x) :
    Calls Try.prog 31 #[.slice A ls.length c, .slice B n d] w (Ret3 w (analyseF ls x).1 (analyseF ls x).2 0) := by
  subst hn
  obtain ⟨k1, k2⟩ := lftsB_coefs hok
  have h0 := anE_ok hok hx hh hw
  have := r33_Analyse A B ls x c d w hL hI k1 k2 (by omega)
  rw [h0, show anLo ls x = (analyseF ls x).1 by unfold anLo; rw [if_pos h0], show anHi ls x = (analyseF ls x).2 by unfold anHi; rw [if_pos h0]] at this
  exact this
set_option maxRecDepth 100000 in
set_option maxHeartbeats 4000000 in
theorem r33_Tree (A B : Option Addr) (ls : List Lft) (x : List Int) (c d : Nat) (lv : Int) (w : World) (hL : Lifts w A ls) (hx : Ints w B x) (hl : ls.length ≤ 1000000) (hl2 : ∀ s ∈ ls, s.2.2.1.length ≤ 9223372036854775807) (hxl : x.length ≤ 1000000) (hlv : I64 lv) :
    Calls Try.prog 15 #[.slice A ls.length c, .slice B x.length d, .int .i64 lv] w (RetIntsL w (trL ls x lv) (trE ls x lv)) := by
  have HL2 := Lib.hid hl2
  clear hl2
  obtain ⟨n, hn⟩ : ∃ n, x.length = n := ⟨_, rfl⟩
  have HXL := Lib.hid hn
  rw [hn] at hxl ⊢
  clear hn
  rcases hv : lftsB ls with _ | _
  · have HE := Lib.hid (trE_1 (x := x) (lv := lv) hv)
    have HV := Lib.hid hv
    clear hv
    have HQ := Lib.hid (tr_no (ls := ls) (x := x) HE.out (by decide))
    go_enter Try.func15, Try.ntmps15
    go_wp2_with ((go_at_call 28; refine (r33_Valid A ls c _ hL hl HL2.out).mono ?_; rintro e' w1 ⟨rfl, rfl⟩; rw [HV.out]))
    all_goals try (exfalso; omega)
    go_ret2
    rw [HQ.out, HE.out]
    exact ⟨none, 0, rfl, IntsL.nil, Below.refl _ _⟩
  · have HV := Lib.hid hv
    rcases hin : inB lv 1 6 with _ | _
    · have HIN := Lib.hid hin
      have ho : okT lv x.length = false := by
        have h1 := inB_no.1 hin
        by_cases h2 : 1 ≤ lv
        · exact okT_high (by omega)
        · exact okT_low h2
      have HE := Lib.hid (trE_2 hv ho)
      clear hv hin ho
      have HQ := Lib.hid (tr_no (ls := ls) (x := x) HE.out (by decide))
      go_enter Try.func15, Try.ntmps15
      go_wp2_with (first | (go_at_call 28; refine (r33_Valid A ls c _ hL hl HL2.out).mono ?_; rintro e' w1 ⟨rfl, rfl⟩; rw [HV.out]) | (go_at_call 29; refine (rf_In _ _ _ _).mono ?_; rintro e' w1 ⟨rfl, rfl⟩; rw [HIN.out]))
      all_goals try (exfalso; omega)
      go_ret2
      rw [HQ.out, HE.out]
      exact ⟨none, 0, rfl, IntsL.nil, Below.refl _ _⟩
    · have HIN := Lib.hid hin
      obtain ⟨b1, b6⟩ := inB_iff.1 hin
      obtain ⟨L, rfl⟩ := Int.eq_ofNat_of_zero_le (by omega : 0 ≤ lv)
      have hL1 : 1 ≤ L := by omega
      have hL6 : L ≤ 6 := by omega
      have hp := okT_pos (n := x.length) hL1 hL6
      obtain ⟨P, hP⟩ : ∃ P, (2 : Int) ^ L = P := ⟨_, rfl⟩
      have hP1 : 1 ≤ P ∧ P ≤ 64 := by
        rw [← hP]
        have : L = 1 ∨ L = 2 ∨ L = 3 ∨ L = 4 ∨ L = 5 ∨ L = 6 := by omega
        rcases this with h | h | h | h | h | h <;> subst h <;> decide
      obtain ⟨hP1, hP2⟩ := hP1
      have e1 : IntKind.i64.wrap ((2 : Int) ^ L) = P := by rw [hP]; exact IntWalk.i64_in _ (by omega)
      have e7 : IntKind.u64.wrap (L : Int) = (L : Int) := IntWalk.u64_in _ (by omega)
      rw [hP, HXL.out] at hp
      have HP := Lib.hid hP
      have e2 : P ≠ 0 := by omega
      have e3 : ¬ P = 0 := e2
      have e4 : (n : Int).tmod P = (n : Int) % P := Int.tmod_eq_emod_of_nonneg (by omega)
      have e5 : 0 ≤ (n : Int) % P := Int.emod_nonneg _ e2
      have e6 : (n : Int) % P < P := Int.emod_lt_of_pos _ (by omega)
      obtain ⟨R, hR⟩ : ∃ R, (n : Int) % P = R := ⟨_, rfl⟩
      rw [hR] at e4 e5 e6 hp
      clear hin hP b1 b6
      by_cases hr0 : R = 0
      · subst hr0
        have ho : okT (L : Int) x.length = true := by rw [HXL.out]; exact hp
        have HO := Lib.hid ho
        clear hp ho
        by_cases hle : n ≤ 4096
        · have d1 : decide ((4096 : Int) < (n : Int)) = false := by simp; omega
          rcases hw : x.all wB with _ | _
          · have HE := Lib.hid (trE_4 hv HO.out (by rw [HXL.out]; exact hle) hw)
            have HW := Lib.hid hw
            clear hv hw
            have HQ := Lib.hid (tr_no (ls := ls) (x := x) HE.out (by decide))
            go_enter Try.func15, Try.ntmps15
            go_wp2_with (first | (go_at_call 28; refine (r33_Valid A ls c _ hL hl HL2.out).mono ?_; rintro e' w1 ⟨rfl, rfl⟩; rw [HV.out]) | (go_at_call 29; refine (rf_In _ _ _ _).mono ?_; rintro e' w1 ⟨rfl, rfl⟩; rw [HIN.out]) | (go_at_call 30; refine (r33_wideN B x d n _ HXL.out (by omega) hx).mono ?_; rintro e' w1 ⟨rfl, rfl⟩; rw [HW.out]))
            all_goals try (exfalso; omega)
            go_ret2
            rw [HQ.out, HE.out]
            exact ⟨none, 0, rfl, IntsL.nil, Below.refl _ _⟩
          · have HW := Lib.hid hw
            have Z4 : Hid (W32 x) := wB_iff.1 hw
            have HE := Lib.hid (trE_ok hv HO.out (by rw [HXL.out]; exact hle) Z4.out)
            have HDV : Hid ((x.length : Int) % (2 : Int) ^ L = 0) := by show _ = _; rw [HXL.out, HP.out]; exact hR
            obtain ⟨m, hm⟩ := len_pow HDV.out
            have HM := Lib.hid hm
            have HLw := Lib.hid hL
            have HXw := Lib.hid hx
            clear hw hv hm hR
            go_enter Try.func15, Try.ntmps15
            go_wp2_with (first | (go_at_call 28; refine (r33_Valid A ls c _ hL hl HL2.out).mono ?_; rintro e' w1 ⟨rfl, rfl⟩; rw [HV.out]) | (go_at_call 29; refine (rf_In _ _ _ _).mono ?_; rintro e' w1 ⟨rfl, rfl⟩; rw [HIN.out]) | (go_at_call 30; refine (r33_wideN B x d n _ HXL.out (by omega) hx).mono ?_; rintro e' w1 ⟨rfl, rfl⟩; rw [HW.out]))
            all_goals try (exfalso; omega)
            clear e1 e2 e3 e4 e5 e6 e7 d1 hL hx
            go_loopw [1, 8, 9, 10, 11, 12] (fun f v i _ _ _ wr => ∃ k : Nat, k ≤ L ∧ i = .int .i64 k ∧ OwnB w.heap.size wr v (hiF ls x k) ∧ LoAt wr f v w.heap.size k (loF ls x k) ∧ Below w.heap.size w wr) (fun _ _ i _ _ _ _ => L - (intOf i).toNat)
            case atStart => exact ⟨0, Nat.zero_le _, rfl, OwnB.nil, ⟨B, d, by rw [show (loF ls x 0).length = n from HXL.out], HXw.out, fun _ _ _ => ⟨fun h => absurd h (Nat.lt_irrefl _), fun e => by cases e⟩⟩, Below.refl _ _⟩
            case round =>
              obtain ⟨k, hk, rfl, hown, ⟨C, cc, rfl, hI, hne⟩, hbw⟩ := hrel
              by_cases hlt : k < L
              · have hev := lo_even (ls := ls) HM.out hlt
                have hle2 := lo_le (ls := ls) HM.out hk
                have HEV := Lib.hid hev
                have hh : 2 ^ (L - 1 - k) * m ≤ 2048 := by have := HXL.out; omega
                have HLr := Lib.hid (HLw.out.grow hbw)
                have HVV := Lib.hid (fun b hb => (hown.lt b hb).2)
                have HLE : Hid ((hiF ls x k).length ≤ 1000) := by show _ ≤ _; rw [hiF_length]; omega
                have HOW := Lib.hid hown
                have HBW := Lib.hid hbw
                have hs5 := hbw.size
                have k7 : k < 7 := by omega
                have hlt2 : (k : Int) < (L : Int) := by omega
                clear hev hle2 hown hbw hne
                go_wp2_with fail
                refine (r33_AnalyseN A C ls (loF ls x k) c cc (2 ^ (L - 1 - k) * m) _ _ HV.out HEV.out rfl hh (w32_lo Z4.out k) HLr.out hI).mono ?_
                rintro e' w6 ⟨v1, v2, rfl, o1, o2, hb6⟩
                obtain ⟨C1, c1', rfl, _, i1⟩ := o1.form
                obtain ⟨C2, c2', rfl, _, i2⟩ := o2.form
                have F1 := Lib.hid o1.far
                have F2 := Lib.hid o2.far
                have hs6 := hb6.size
                have HB6 := Lib.hid hb6
                clear o1 o2 hb6
                go_wp2_with (at_builtin; refine app_band w6 rfl _ _ rfl w.heap.size (HOW.out.grow HB6.out) rfl rfl rfl i2 (fun _ a ha => ⟨Nat.le_trans hs5 (F2.out a ha), fun e => absurd (HVV.out a.block e.symm) (Nat.not_lt.2 (F2.out a ha))⟩) HLE.out (Nat.le_trans hs5 hs6) ?_; intro v3 w7 ho3 hb7 hg7 hob)
                go_roundw
                case rel =>
                  refine ⟨k + 1, by omega, by go_num, by rw [hiF_succ]; exact ho3, ⟨C1, c1', rfl, ?_, ?_⟩, ?_⟩
                  · refine (i1.grow ((Below.refl _ _).alloc (Nat.le_refl _) _)).kept hg7 (fun _ a ha e => absurd (HVV.out a.block e.symm) (Nat.not_lt.2 (F1.out a ha)))
                  · refine fun hl a ha => ⟨fun _ => Nat.le_trans hs5 (F1.out a ha), fun e => ?_⟩
                    rcases hob with h | h
                    · exact absurd (HVV.out a.block (e.trans h).symm) (Nat.not_lt.2 (F1.out a ha))
                    · rw [h] at e
                      injection e with e
                      have := i1.block hl ha
                      omega
                  · exact (HBW.out.trans (HB6.out.mono hs5)).trans hb7
                case measure => simp [intOf]; omega
              · obtain rfl : k = L := by omega
                have hs5 := hbw.size
                have HLE : Hid ((hiF ls x k).length ≤ 1000) := by show _ ≤ _; rw [hiF_length]; omega
                have HBW := Lib.hid hbw
                have HNE := Lib.hid hne
                clear hbw hne
                go_wp2_with (at_builtin; refine app_band wr rfl _ _ rfl w.heap.size hown rfl rfl rfl hI (fun hl a ha => ⟨(HNE.out hl a ha).1 hL1, (HNE.out hl a ha).2⟩) HLE.out hs5 ?_; intro v3 w7 ho3 hb7 hg7 hob)
                go_ret2
                obtain ⟨A4, c4, hv4, hi4⟩ := ho3.form
                have ht : trL ls x (k : Int) = treeB ls x k := by unfold trL; rw [if_pos HE.out]; rfl
                rw [ht, HE.out]
                rw [hiF_lo] at hi4 hv4
                rw [hv4]
                exact ⟨A4, c4, rfl, hi4, HBW.out.trans hb7⟩
        · have HE := Lib.hid (trE_3 hv HO.out (by rw [HXL.out]; exact hle))
          have d1 : decide ((4096 : Int) < (n : Int)) = true := by simp; omega
          clear hv
          have HQ := Lib.hid (tr_no (ls := ls) (x := x) HE.out (by decide))
          go_enter Try.func15, Try.ntmps15
          go_wp2_with (first | (go_at_call 28; refine (r33_Valid A ls c _ hL hl HL2.out).mono ?_; rintro e' w1 ⟨rfl, rfl⟩; rw [HV.out]) | (go_at_call 29; refine (rf_In _ _ _ _).mono ?_; rintro e' w1 ⟨rfl, rfl⟩; rw [HIN.out]))
          all_goals try (exfalso; omega)
          go_ret2
          rw [HQ.out, HE.out]
          exact ⟨none, 0, rfl, IntsL.nil, Below.refl _ _⟩
      · have ho : okT (L : Int) x.length = false := by rw [HXL.out, hp]; simpa using hr0
        have HE := Lib.hid (trE_2 hv ho)
        clear hv ho hp
        have HQ := Lib.hid (tr_no (ls := ls) (x := x) HE.out (by decide))
        go_enter Try.func15, Try.ntmps15
        go_wp2_with (first | (go_at_call 28; refine (r33_Valid A ls c _ hL hl HL2.out).mono ?_; rintro e' w1 ⟨rfl, rfl⟩; rw [HV.out]) | (go_at_call 29; refine (rf_In _ _ _ _).mono ?_; rintro e' w1 ⟨rfl, rfl⟩; rw [HIN.out]))
        all_goals try (exfalso; omega)
        go_ret2
        rw [HQ.out, HE.out]
        exact ⟨none, 0, rfl, IntsL.nil, Below.refl _ _⟩
end Go.Proofs.Ytimhplkkgbpapaa
